/-
  The reference's Backward.
-/
import Derived.Test.YtadcjmfednachaaSolW17
namespace Go.Proofs.Ytadcjmfednachaa
open Go.RowKit
set_option linter.unusedVariables false
set_option linter.unusedSimpArgs false

/-- A row that lay there at the outset. -/
def RowO (w0 w : World) (l : List Int) (e : Ending) (w' : World) : Prop := ∃ A c, e = .returned (.slice A l.length c) ∧ RdL intC 1 w0 (.slice A l.length c) l ∧ w = w'
set_option maxHeartbeats 400000 in
theorem at_old (A : Option Addr) (n c : Nat) (m : List (List Int)) (k : Nat) (w0 w : World) (hs : RdM w0 (.slice A n c) m) (hbw : Below w0.heap.size w0 w) (hk : k ≤ 1048576) :
    Calls Try.prog 40 #[.slice A n c, .int .i64 k] w (RowO w0 w (Sol.rowI m k)) := by
  have hm := hs.len
  unfold maxLen at hm
  obtain ⟨A', c', e⟩ := hs.form
  injection e with e1 e2 e3
  subst e2
  clear e1 e3 A' c'
  by_cases hlt : k < m.length
  · obtain ⟨l, hl⟩ : ∃ l, m[k]? = some l := ⟨_, List.getElem?_eq_getElem hlt⟩
    obtain ⟨b, off, c1, A2, c2, e, hb, p00, hr⟩ := hs.row hl
    injection e with e1 e2 e3
    subst e1
    rw [rowI_nat hl]
    have HR := Lib.hid hr
    have p0 := (hbw.cell (p := ⟨b, off + k, none⟩) hb).trans p00
    clear hs hr hl e2 e3 p00 hbw
    go_enter Try.func40, Try.ntmps40
    go_wp2
    go_ret
    exact ⟨_, _, rfl, HR.out, rfl⟩
  · rw [rowI_out (by omega)]
    clear hs hbw
    go_enter Try.func40, Try.ntmps40
    go_wp2
    go_ret
    exact ⟨_, _, rfl, RdL.nil _ _ _, rfl⟩
/-- What a Backward answers. -/
def BwdP (w : World) (G uses sets : List (List Int)) (e : Ending) (w' : World) : Prop := ∃ a, Sol.IsSol G.length (Sol.InB G uses sets) a ∧ MatP w a e w'
theorem bwd_zero (G uses sets a : List (List Int)) : ((List.range G.length).reverse.take 0).foldl (Sol.bwdI G uses sets) (a, false) = (a, false) := by simp
theorem bwd_step {G uses sets : List (List Int)} {N k : Nat} (hN : N = G.length) (hk : k < N) (st0 : List (List Int) × Bool) :
    ((List.range N).reverse.take (k + 1)).foldl (Sol.bwdI G uses sets) st0 = Sol.bwdI G uses sets (((List.range N).reverse.take k).foldl (Sol.bwdI G uses sets) st0) (N - 1 - k) := by
  have h : (List.range N).reverse[k]? = some (N - 1 - k) := by
    rw [List.getElem?_reverse (by simpa using hk), List.length_range, List.getElem?_range (by omega)]
  rw [take_step h, List.foldl_append]; rfl
theorem set_get {a : List (List Int)} {i : Nat} (l : List Int) (h : i < a.length) : (a.set i l)[i]? = some l := by
  rw [List.getElem?_set, if_pos rfl, if_pos h]
theorem getD_of {a : List (List Int)} {i : Nat} {l : List Int} (h : a[i]? = some l) : a.getD i [] = l := by rw [List.getD_eq_getElem?_getD, h]; rfl
theorem foldl_take_step {α β : Type} {f : β → α → β} {l : List α} {j : Nat} {y : α} (hy : l[j]? = some y) (b : β) : (l.take (j + 1)).foldl f b = f ((l.take j).foldl f b) y := by
  rw [take_step hy, List.foldl_append]; rfl
set_option maxRecDepth 100000 in
set_option maxHeartbeats 8000000 in
theorem rbackward_any (A A1 A2 : Option Addr) (n n1 n2 c c1 c2 : Nat) (m uses sets : List (List Int)) (w : World) (hs : RdM w (.slice A n c) m) (hs1 : RdM w (.slice A1 n1 c1) uses) (hs2 : RdM w (.slice A2 n2 c2) sets)
    (hn : m.length ≤ 1048575) (hr20 : ∀ l ∈ m, l.length ≤ 1048576) (hu20 : uses.flatten.length ≤ 1048575) :
    Calls Try.prog 19 #[.slice A n c, .slice A1 n1 c1, .slice A2 n2 c2] w (BwdP w (Sol.cleanG m) uses sets) := by
  obtain ⟨j0, hj0, hy0, hy1, hy2⟩ := info_parts row_info
  obtain ⟨A', c', e⟩ := hs.form
  injection e with e1 e2 e3
  subst e2
  clear e1 e3 A' c'
  obtain ⟨N, hN⟩ : ∃ N, N = (Sol.cleanG m).length := ⟨_, rfl⟩
  have hNm : N = m.length := by rw [hN, Sol.cleanG_length]
  rw [← hNm] at hs hn ⊢
  have HFO : Hid (∀ W, Below w.heap.size w W → ∀ i : Nat, i < N → Calls Try.prog 29 #[.slice A N c, .int .i64 i] W (OwnP W (Sol.rowI (Sol.cleanG m) i))) := Lib.hid fun W hW i hi => follows_any A N c m i W (hs.next hW) (by omega) hr20
  have HUS : Hid (∀ W, Below w.heap.size w W → ∀ i : Nat, i < N → Calls Try.prog 40 #[.slice A1 n1 c1, .int .i64 i] W (RowO w W (Sol.rowI uses i))) := Lib.hid fun W hW i hi => at_old A1 n1 c1 uses i w W hs1 hW (by omega)
  have HST : Hid (∀ W, Below w.heap.size w W → ∀ i : Nat, i < N → Calls Try.prog 40 #[.slice A2 n2 c2, .int .i64 i] W (RowO w W (Sol.rowI sets i))) := Lib.hid fun W hW i hi => at_old A2 n2 c2 sets i w W hs2 hW (by omega)
  have hG := Sol.cln_clean m
  have hrl := fun i : Int => row_le (clean_rows hr20) i
  obtain ⟨G, hGG⟩ : ∃ G, G = Sol.cleanG m := ⟨_, rfl⟩
  rw [← hGG] at HFO hN hG hrl ⊢
  have HN := Lib.hid hN
  have HG := Lib.hid hG
  have HR := Lib.hid hrl
  obtain ⟨U, hU⟩ : ∃ U, U = uses.flatten := ⟨_, rfl⟩
  rw [← hU] at hu20
  have HU := Lib.hid hU
  clear hs hs1 hs2 hr20 hN hNm hG hrl hGG hU
  have hA1 := cell_alloc_if
  have hA2 := frozen_alloc_if
  have hA3 := cell_set_if
  go_enter Try.func19, Try.ntmps19
  go_wp2_with (refine wpList_make_full _ rfl (.tmp 18) (.tmp 18) 22 rfl w.heap.size 28 j0 _ 1 Try.underlying22 hj0 hy0 hy1 .i64 .i64 N N N rfl rfl rfl rfl ?m1 ?m2 ?m3 ?_)
  case m1 => rw [hy2]; omega
  case m2 => unfold maxLen; omega
  case m3 => exact Nat.le_refl _
  intro w1 hrow hg1
  rw [toList_madeCells_one] at hrow
  have hblk := block_full hrow
  have hbw1 : Below w.heap.size w w1 := (Below.refl _ _).grown hg1 (Nat.le_refl _) (fun k hk => by cases hk)
  have HM0 : Hid (OwnM 3 28 w.heap.size w1 w.heap.size (List.replicate N [])) := Lib.hid ⟨_, OwnV.made (Nat.le_refl _) (by simpa using hblk)⟩
  have HI0 : Hid (Sol.Inv N (Sol.InB G uses sets) U (List.replicate N [])) := Lib.hid (Sol.Inv.empty _ _ _)
  clear hrow hg1 hblk
  go_wp2
  go_loopg [8] (Sol.roomOf U.length (List.replicate N []) + 1) (fun gk mo wr => ∃ (a : List (List Int)) (mv : Bool), mo = .bool mv ∧ Below w.heap.size w wr ∧ Hid (OwnM 3 28 w.heap.size wr w.heap.size a) ∧ Hid (Sol.Inv N (Sol.InB G uses sets) U a) ∧ Hid (mv = true → Sol.roomOf U.length a < gk) ∧ Hid (mv = false → Sol.IsSol N (Sol.InB G uses sets) a))
  case atStart => exact ⟨_, true, rfl, hbw1, HM0, HI0, Lib.hid fun _ => by omega, Lib.hid fun h => by cases h⟩
  case round =>
    clear hbw1 HM0 HI0
    obtain ⟨a0, mv, rfl, hXb, HM, HI, HK, HF⟩ := hrel
    have hXz := hXb.size
    cases mv with
    | false =>
      have HSOL := HF.out rfl
      have hlen := HI.out.len
      have HSL := Lib.hid HSOL
      clear HSOL HF HK
      go_wp2
      go_ret
      exact ⟨a0, by rw [← HN.out]; exact HSL.out, by rw [hlen]; rfl, HM.out, hXb⟩
    | true =>
      have HK2 : Hid (Sol.roomOf U.length a0 < gk) := Lib.hid (HK.out rfl)
      have hla := HI.out.len
      have HSM : Hid (Small U a0) := Lib.hid (Small.of_inv HI.out)
      clear HK HF
      go_wp2
      obtain ⟨wo, rfl⟩ : ∃ wo, wo = wr := ⟨_, rfl⟩
      go_loopw [8, 9] (fun mo i wr => ∃ (k : Nat) (st : List (List Int) × Bool), k ≤ N ∧ i = .int .i64 ((N : Int) - 1 - k) ∧ mo = .bool st.2 ∧ Below w.heap.size w wr ∧ st.1.length = N ∧ Hid (OwnM 3 28 w.heap.size wr w.heap.size st.1) ∧ Hid (Small U st.1) ∧ Hid (((List.range N).reverse.take k).foldl (Sol.bwdI G uses sets) (a0, false) = st)) (fun _ i _ => (intOf i + 1).toNat)
      case atStart => exact ⟨0, (a0, false), by omega, by simp, rfl, hXb, hla, HM, HSM, Lib.hid (by simp)⟩
      case round =>
        clear hXb hXz HM HSM hla
        obtain ⟨k, st, hk, rfl, rfl, hXb, hla, HM, HSM, HFK⟩ := hrel
        obtain ⟨a1, mv1⟩ := st
        dsimp only at hla HM HSM ⊢
        have hXz := hXb.size
        by_cases hlt : k < N
        · obtain ⟨iN, hiN⟩ : ∃ iN, iN = N - 1 - k := ⟨_, rfl⟩
          have hii : (N : Int) - 1 - k = (iN : Int) := by omega
          have hil : iN < N := by omega
          have hik : k = N - 1 - iN := by omega
          have hst := bwd_step (uses := uses) (sets := sets) HN.out hlt (a0, false)
          rw [HFK.out, ← hiN] at hst
          have HSTP := Lib.hid hst
          have HIK := Lib.hid hii
          rw [hii]
          clear hst hii hiN HFK hik
          obtain ⟨li, hli⟩ : ∃ li, a1[iN]? = some li := ⟨_, List.getElem?_eq_getElem (by omega)⟩
          have hli20 := HSM.out.len hli
          obtain ⟨A7, c7, p7, f7, _, _, hb0, _, _⟩ := HM.out.addRow hli (by omega) hXz
          have HLI := Lib.hid hli
          clear hli
          have HUSK : Hid (∀ W, Below wr.heap.size wr W → Calls Try.prog 40 #[.slice A1 n1 c1, .int .i64 iN] W (RowO w W (Sol.rowI uses iN))) := Lib.hid fun W hW => HUS.out W (hXb.trans (hW.mono (by omega))) iN hil
          go_wp2_with (go_at_call 40; (with_reducible refine (HUSK.out _ (by (repeat' (first | (with_reducible exact Below.refl _ _) | (with_reducible assumption) | (with_reducible refine Below.setCell ?_ ?_ _) | (with_reducible refine Below.alloc ?_ ?_ _) | (with_reducible refine Below.drew ?_) | (with_reducible refine below_drewN ?_ _) | (with_reducible refine below_next ?_ (by with_reducible assumption)) | omega | (dsimp only; omega) | (simp only [World.size_alloc, World.size_setCell, World.size_drew, World.heap_drewN]; omega))))).mono ?_); rintro e w4 ⟨A4, c4, rfl, hr4, rfl⟩; have HRU := Lib.hid hr4; clear hr4)
          obtain ⟨u, hu⟩ : ∃ u, u = Sol.rowI uses (iN : Int) := ⟨_, rfl⟩
          have HUV : Hid (∀ x ∈ u, x ∈ U) := Lib.hid fun x hx => by rw [HU.out]; exact Sol.mem_flat (i := (iN : Int)) (hu ▸ hx)
          have hul : u.length ≤ U.length := by
            rw [HU.out, hu]
            unfold Sol.rowI
            rw [List.getD_eq_getElem?_getD]
            cases hg : uses[((iN : Nat) : Int).toNat]? with
            | none => simp
            | some r => exact List.Sublist.length_le (List.sublist_flatten_of_mem (List.mem_of_getElem? hg))
          have HUU := Lib.hid hu
          rw [← hu] at HRU ⊢
          clear hu HUSK p7 f7
          have HRD : Hid (a1.getD iN [] = li) := Lib.hid (getD_of HLI.out)
          have HM3 : Hid (OwnM 3 28 w.heap.size wr w.heap.size (a1.set iN (Sol.passL [] li (u.take 0)))) := Lib.hid (by
            rw [← HRD.out, List.take_zero, passL_nil, Sol.set_same]; exact HM.out)
          have HS3 : Hid (Small U (a1.set iN (Sol.passL [] li (u.take 0)))) := Lib.hid (by
            rw [← HRD.out, List.take_zero, passL_nil, Sol.set_same]; exact HSM.out)
          clear HM HSM
          obtain ⟨w5, rfl⟩ : ∃ w5, w5 = wr := ⟨_, rfl⟩
          go_loopw [37] (fun i wr => ∃ j : Nat, j ≤ u.length ∧ i = .int .i64 j ∧ Below w.heap.size w wr ∧ Hid (OwnM 3 28 w.heap.size wr w.heap.size (a1.set iN (Sol.passL [] li (u.take j)))) ∧ Hid (Small U (a1.set iN (Sol.passL [] li (u.take j))))) (fun i _ => u.length - (intOf i).toNat)
          case atStart => exact ⟨0, by omega, rfl, hXb, HM3, HS3⟩
          case round =>
            clear hXb hXz HM3 HS3 hb0
            obtain ⟨j, hj, rfl, hXb, HM, HSM⟩ := hrel
            have hXz := hXb.size
            by_cases hltj : j < u.length
            · obtain ⟨y, hy⟩ : ∃ y, u[j]? = some y := ⟨_, List.getElem?_eq_getElem hltj⟩
              obtain ⟨b3, off3, e3, _, hb3, p30⟩ := HRU.out.intAt hy
              have p3 := (hXb.cell (p := ⟨b3, off3 + j, none⟩) hb3).trans p30
              subst e3
              have hyU := HUV.out y (List.mem_of_getElem? hy)
              have hrow := set_get (a := a1) (i := iN) (Sol.passL [] li (u.take j)) (by omega)
              have hrl20 := HSM.out.len hrow
              have hps := passL_step [] li hy
              rw [if_neg (by simp)] at hps
              have HS4 := HSM.out.add hrow hyU
              rw [List.set_set, ← hps] at HS4
              obtain ⟨A8, c8, p8, f8, _, _, hb0, hadd, hput⟩ := HM.out.addRow hrow (by omega) hXz
              have HADD := Lib.hid (hadd y)
              have HPUT := Lib.hid (hput y)
              have HPS := Lib.hid hps
              have HS5 := Lib.hid HS4
              obtain ⟨l7, hl7⟩ : ∃ l7, l7 = Sol.passL [] li (u.take j) := ⟨_, rfl⟩
              rw [← hl7] at p8 HADD HPUT HPS
              clear hy hyU hrow hrl20 hps HS4 hadd hput hl7 p30
              go_wp2_with (go_at_call 34; (with_reducible refine (HADD.out _ (by (repeat' (first | (with_reducible exact Below.refl _ _) | (with_reducible assumption) | (with_reducible refine Below.setCell ?_ ?_ _) | (with_reducible refine Below.alloc ?_ ?_ _) | (with_reducible refine Below.drew ?_) | (with_reducible refine below_drewN ?_ _) | (with_reducible refine below_next ?_ (by with_reducible assumption)) | omega | (dsimp only; omega) | (simp only [World.size_alloc, World.size_setCell, World.size_drew, World.heap_drewN]; omega))))).mono ?_); rintro e w7 ⟨A9, c9, rfl, hb7, hor⟩; obtain ⟨hM7, ⟨u7, hq7⟩, hf7⟩ := HPUT.out _ w7 A9 c9 (by (repeat' (first | (with_reducible exact Below.refl _ _) | (with_reducible assumption) | (with_reducible refine Below.setCell ?_ ?_ _) | (with_reducible refine Below.alloc ?_ ?_ _) | (with_reducible refine Below.drew ?_) | (with_reducible refine below_drewN ?_ _) | (with_reducible refine below_next ?_ (by with_reducible assumption)) | omega | (dsimp only; omega) | (simp only [World.size_alloc, World.size_setCell, World.size_drew, World.heap_drewN]; omega)))) hb7 hor; have HM7 := Lib.hid hM7; clear hM7 hor)
              have hbw7 : Below w.heap.size w (w7.setCell ⟨w.heap.size, iN, none⟩ (.slice A9 (Sol.addI l7 y).length c9)) := (hXb.trans (hb7.mono (by omega))).setCell (Nat.le_refl _) _
              have HM8 : Hid (OwnM 3 28 w.heap.size (w7.setCell ⟨w.heap.size, iN, none⟩ (.slice A9 (Sol.addI l7 y).length c9)) w.heap.size (a1.set iN (Sol.passL [] li (u.take (j + 1))))) := Lib.hid (by
                have h := HM7.out
                rw [List.set_set] at h
                rw [HPS.out]
                exact h)
              go_roundw
              case rel => exact ⟨j + 1, by omega, by go_num, hbw7, HM8, HS5⟩
              case measure => simp [intOf]; omega
            · have HFI : Hid (a1.set iN (Sol.passL [] li (u.take j)) = Sol.useIn uses iN a1) := Lib.hid (by
                unfold Sol.useIn
                rw [Int.toNat_natCast, HRD.out, List.take_of_length_le (by omega), HUU.out])
              rw [HFI.out] at HM HSM
              have HFK : Hid (∀ W, Below wr.heap.size wr W → Calls Try.prog 29 #[.slice A N c, .int .i64 iN] W (OwnP W (Sol.rowI G iN))) := Lib.hid fun W hW => HFO.out W (hXb.trans (hW.mono (by omega))) iN hil
              have hlb : (Sol.useIn uses iN a1).length = N := by unfold Sol.useIn; rw [List.length_set]; exact hla
              clear HRU HUV HFI
              go_wp2_with (go_at_call 29; (with_reducible refine (HFK.out _ (by (repeat' (first | (with_reducible exact Below.refl _ _) | (with_reducible assumption) | (with_reducible refine Below.setCell ?_ ?_ _) | (with_reducible refine Below.alloc ?_ ?_ _) | (with_reducible refine Below.drew ?_) | (with_reducible refine below_drewN ?_ _) | (with_reducible refine below_next ?_ (by with_reducible assumption)) | omega | (dsimp only; omega) | (simp only [World.size_alloc, World.size_setCell, World.size_drew, World.heap_drewN]; omega))))).mono ?_); rintro e w6 ⟨A6, c6, rfl, how, hb6⟩; have HOW := Lib.hid how; have hz6 := hb6.size; clear how)
              obtain ⟨l, hl⟩ : ∃ l, l = Sol.rowI G iN := ⟨_, rfl⟩
              have hl20 : l.length ≤ 1048576 := by rw [hl]; exact HR.out iN
              have HIN : Hid (∀ y ∈ l, Sol.InR N y) := Lib.hid fun y hy => by rw [HN.out]; exact HG.out iN y (hl ▸ hy)
              have HLG := Lib.hid hl
              rw [← hl] at HOW ⊢
              obtain ⟨b0, hb0e⟩ : ∃ b0, b0 = Sol.useIn uses iN a1 := ⟨_, rfl⟩
              rw [← hb0e] at HM HSM hlb
              have HB0 := Lib.hid hb0e
              have HM6 : Hid (OwnM 3 28 w.heap.size w6 w.heap.size ((l.take 0).foldl (Sol.stepIn sets iN) b0)) := Lib.hid (by simpa using HM.out.next hb6)
              have HS6 : Hid (Small U ((l.take 0).foldl (Sol.stepIn sets iN) b0)) := Lib.hid (by simpa using HSM.out)
              have hlb0 : ((l.take 0).foldl (Sol.stepIn sets iN) b0).length = N := by simpa using hlb
              have hbw6 : Below w.heap.size w w6 := hXb.trans (hb6.mono hXz)
              have hwr6 : wr.heap.size ≤ w6.heap.size := hz6
              have hwl : w.heap.size < wr.heap.size := by obtain ⟨vs, hv⟩ := HM.out; exact hv.lt
              clear hl hb0e HM HSM hlb hXb hb6 hz6 HFK
              obtain ⟨wq, rfl⟩ : ∃ wq, wq = wr := ⟨_, rfl⟩
              go_loopw [14] (fun i wr => ∃ j : Nat, j ≤ l.length ∧ i = .int .i64 j ∧ Below w.heap.size w wr ∧ wq.heap.size ≤ wr.heap.size ∧ ((l.take j).foldl (Sol.stepIn sets iN) b0).length = N ∧ Hid (OwnM 3 28 w.heap.size wr w.heap.size ((l.take j).foldl (Sol.stepIn sets iN) b0)) ∧ Hid (Small U ((l.take j).foldl (Sol.stepIn sets iN) b0)) ∧ Hid (OwnL 3 intC 1 wq.heap.size wr (.slice A6 l.length c6) l)) (fun i _ => l.length - (intOf i).toNat)
              case atStart => exact ⟨0, by omega, rfl, hbw6, hwr6, hlb0, HM6, HS6, HOW⟩
              case round =>
                clear hXz HM6 HS6 hlb0 hbw6 hwr6 HOW
                obtain ⟨j4, hj4, rfl, hXb, hXq, hlb, HM, HSM, HOW⟩ := hrel
                have hXz := hXb.size
                by_cases hlt4 : j4 < l.length
                · obtain ⟨y, hy⟩ : ∃ y, l[j4]? = some y := ⟨_, List.getElem?_eq_getElem hlt4⟩
                  have hyr := HIN.out y (List.mem_of_getElem? hy)
                  unfold Sol.InR at hyr
                  obtain ⟨yN, rfl⟩ : ∃ k : Nat, y = (k : Int) := ⟨y.toNat, by omega⟩
                  have hyN : yN < N := by omega
                  have hst := foldl_take_step (f := Sol.stepIn sets iN) hy b0
                  obtain ⟨b, hb⟩ : ∃ b, b = (l.take j4).foldl (Sol.stepIn sets iN) b0 := ⟨_, rfl⟩
                  rw [← hb] at hst hlb HM HSM
                  have HST4 := Lib.hid hst
                  obtain ⟨lk, hlk⟩ : ∃ lk, b[yN]? = some lk := ⟨_, List.getElem?_eq_getElem (by omega)⟩
                  obtain ⟨lb, hlb2⟩ : ∃ lb, b[iN]? = some lb := ⟨_, List.getElem?_eq_getElem (by omega)⟩
                  have hlk20 := HSM.out.len hlk
                  have HLKU : Hid (∀ x ∈ lk, x ∈ U) := Lib.hid (HSM.out yN lk hlk).2
                  obtain ⟨A8, c8, p8, f8, hrk, hne8, hb0, _, _⟩ := HM.out.addRow hlk (by omega) hXz
                  have HRK := Lib.hid hrk
                  have HNE8 := Lib.hid hne8
                  have HLK : Hid (b.getD yN [] = lk) := Lib.hid (getD_of hlk)
                  have HLB : Hid (b.getD iN [] = lb) := Lib.hid (getD_of hlb2)
                  obtain ⟨b3, off3, e3, _, hb3, p3⟩ := (HOW.out.rdl intC_len).intAt hy
                  have hb3q := (HOW.out.lt (b := b3) (by rw [e3]; rfl)).1
                  subst e3
                  clear hy hyr hst hb hlk hlb2 hrk hne8
                  go_wp2
                  obtain ⟨but, hbut⟩ : ∃ but, but = Sol.rowI sets (iN : Int) := ⟨_, rfl⟩
                  have HBUT := Lib.hid hbut
                  clear hbut
                  have HM5 : Hid (OwnM 3 28 w.heap.size wr w.heap.size (b.set iN (Sol.passL but lb (lk.take 0)))) := Lib.hid (by
                    rw [← HLB.out, List.take_zero, passL_nil, Sol.set_same]; exact HM.out)
                  have HS5 : Hid (Small U (b.set iN (Sol.passL but lb (lk.take 0)))) := Lib.hid (by
                    rw [← HLB.out, List.take_zero, passL_nil, Sol.set_same]; exact HSM.out)
                  clear HM HSM
                  obtain ⟨w9, rfl⟩ : ∃ w9, w9 = wr := ⟨_, rfl⟩
                  go_loopw [68] (fun i wr => ∃ j : Nat, j ≤ lk.length ∧ i = .int .i64 j ∧ Below w.heap.size w wr ∧ wq.heap.size ≤ wr.heap.size ∧ Hid (OwnM 3 28 w.heap.size wr w.heap.size (b.set iN (Sol.passL but lb (lk.take j)))) ∧ Hid (Small U (b.set iN (Sol.passL but lb (lk.take j)))) ∧ Hid (OwnL 3 intC 1 wq.heap.size wr (.slice (some ⟨b3, off3, none⟩) l.length c6) l) ∧ Hid (RdL intC 1 wr (.slice A8 lk.length c8) lk)) (fun i _ => lk.length - (intOf i).toNat)
                  case atStart => exact ⟨0, by omega, rfl, hXb, hXq, HM5, HS5, HOW, HRK⟩
                  case round =>
                    clear hXb hXz hXq HM5 HS5 HOW HRK p8 f8 hb0 p3 hb3
                    obtain ⟨j, hj, rfl, hXb, hXq, HM, HSM, HOW, HRK⟩ := hrel
                    have hXz := hXb.size
                    by_cases hltj : j < lk.length
                    · obtain ⟨x, hx⟩ : ∃ x, lk[j]? = some x := ⟨_, List.getElem?_eq_getElem hltj⟩
                      obtain ⟨b5, off5, e5, _, hb5, p5⟩ := HRK.out.intAt hx
                      subst e5
                      have hxU := HLKU.out x (List.mem_of_getElem? hx)
                      have hrow := set_get (a := b) (i := iN) (Sol.passL but lb (lk.take j)) (by omega)
                      have hrl20 := HSM.out.len hrow
                      have hps := passL_step but lb hx
                      have HSTK : Hid (∀ W, Below wr.heap.size wr W → Calls Try.prog 40 #[.slice A2 n2 c2, .int .i64 iN] W (RowO w W but)) := Lib.hid fun W hW => by rw [HBUT.out]; exact HST.out W (hXb.trans (hW.mono (by omega))) iN hil
                      by_cases hm : x ∈ but
                      · rw [if_pos hm] at hps
                        have HHAS : Hid (∀ (A9 : Option Addr) (n9 c9 : Nat), RdL intC 1 w (.slice A9 n9 c9) but → Calls Try.prog 22 #[.slice A9 n9 c9, .int .i64 x] wr fun e w' => e = .returned (.bool true) ∧ wr = w') := Lib.hid fun A9 n9 c9 h9 => by
                          have h := hasI_any A9 n9 c9 but x wr (h9.next hXb)
                          rwa [memB_yes hm] at h
                        rw [← hps] at HM HSM
                        clear hx hxU hrow hrl20 hps hm
                        go_wp2_with (first
                          | (go_at_call 40; (with_reducible refine (HSTK.out _ (by (repeat' (first | (with_reducible exact Below.refl _ _) | (with_reducible assumption) | (with_reducible refine Below.setCell ?_ ?_ _) | (with_reducible refine Below.alloc ?_ ?_ _) | (with_reducible refine Below.drew ?_) | (with_reducible refine below_drewN ?_ _) | (with_reducible refine below_next ?_ (by with_reducible assumption)) | omega | (dsimp only; omega) | (simp only [World.size_alloc, World.size_setCell, World.size_drew, World.heap_drewN]; omega))))).mono ?_); rintro e w4 ⟨A9, c9, rfl, hr9, rfl⟩; have HHX := Lib.hid (HHAS.out _ _ _ hr9); clear hr9)
                          | (go_at_call 22; (with_reducible refine HHX.out.mono ?_); rintro e w8 ⟨rfl, rfl⟩))
                        go_roundw
                        case rel => exact ⟨j + 1, by omega, by go_num, hXb, hXq, HM, HSM, HOW, HRK⟩
                        case measure => simp [intOf]; omega
                      · rw [if_neg hm] at hps
                        have HHAS : Hid (∀ (A9 : Option Addr) (n9 c9 : Nat), RdL intC 1 w (.slice A9 n9 c9) but → Calls Try.prog 22 #[.slice A9 n9 c9, .int .i64 x] wr fun e w' => e = .returned (.bool false) ∧ wr = w') := Lib.hid fun A9 n9 c9 h9 => by
                          have h := hasI_any A9 n9 c9 but x wr (h9.next hXb)
                          rwa [memB_no hm] at h
                        have HS4 := HSM.out.add hrow hxU
                        rw [List.set_set, ← hps] at HS4
                        obtain ⟨A7, c7, p7, f7, _, _, hb0, hadd, hput⟩ := HM.out.addRow hrow (by omega) hXz
                        have HADD := Lib.hid (hadd x)
                        have HPUT := Lib.hid (hput x)
                        have HPS := Lib.hid hps
                        have HS6 := Lib.hid HS4
                        obtain ⟨l7, hl7⟩ : ∃ l7, l7 = Sol.passL but lb (lk.take j) := ⟨_, rfl⟩
                        rw [← hl7] at p7 HADD HPUT HPS
                        clear hx hxU hrow hrl20 hps hm HS4 hadd hput hl7
                        go_wp2_with (first
                          | (go_at_call 40; (with_reducible refine (HSTK.out _ (by (repeat' (first | (with_reducible exact Below.refl _ _) | (with_reducible assumption) | (with_reducible refine Below.setCell ?_ ?_ _) | (with_reducible refine Below.alloc ?_ ?_ _) | (with_reducible refine Below.drew ?_) | (with_reducible refine below_drewN ?_ _) | (with_reducible refine below_next ?_ (by with_reducible assumption)) | omega | (dsimp only; omega) | (simp only [World.size_alloc, World.size_setCell, World.size_drew, World.heap_drewN]; omega))))).mono ?_); rintro e w4 ⟨A9, c9, rfl, hr9, rfl⟩; have HHX := Lib.hid (HHAS.out _ _ _ hr9); clear hr9)
                          | (go_at_call 22; (with_reducible refine HHX.out.mono ?_); rintro e w8 ⟨rfl, rfl⟩)
                          | (go_at_call 34; (with_reducible refine (HADD.out _ (by (repeat' (first | (with_reducible exact Below.refl _ _) | (with_reducible assumption) | (with_reducible refine Below.setCell ?_ ?_ _) | (with_reducible refine Below.alloc ?_ ?_ _) | (with_reducible refine Below.drew ?_) | (with_reducible refine below_drewN ?_ _) | (with_reducible refine below_next ?_ (by with_reducible assumption)) | omega | (dsimp only; omega) | (simp only [World.size_alloc, World.size_setCell, World.size_drew, World.heap_drewN]; omega))))).mono ?_); rintro e w7 ⟨A9', c9', rfl, hb7, hor⟩; obtain ⟨hM7, ⟨u7, hq7⟩, hf7⟩ := HPUT.out _ w7 A9' c9' (by (repeat' (first | (with_reducible exact Below.refl _ _) | (with_reducible assumption) | (with_reducible refine Below.setCell ?_ ?_ _) | (with_reducible refine Below.alloc ?_ ?_ _) | (with_reducible refine Below.drew ?_) | (with_reducible refine below_drewN ?_ _) | (with_reducible refine below_next ?_ (by with_reducible assumption)) | omega | (dsimp only; omega) | (simp only [World.size_alloc, World.size_setCell, World.size_drew, World.heap_drewN]; omega)))) hb7 hor; have HM7 := Lib.hid hM7; clear hM7 hor))
                        have hbw7 : Below w.heap.size w (w7.setCell ⟨w.heap.size, iN, none⟩ (.slice A9' (Sol.addI l7 x).length c9')) := (hXb.trans (hb7.mono (by omega))).setCell (Nat.le_refl _) _
                        have HM8 : Hid (OwnM 3 28 w.heap.size (w7.setCell ⟨w.heap.size, iN, none⟩ (.slice A9' (Sol.addI l7 x).length c9')) w.heap.size (b.set iN (Sol.passL but lb (lk.take (j + 1))))) := Lib.hid (by
                          have h := HM7.out
                          rw [List.set_set] at h
                          rw [HPS.out]
                          exact h)
                        have HRK7 : Hid (RdL intC 1 (w7.setCell ⟨w.heap.size, iN, none⟩ (.slice A9' (Sol.addI l7 x).length c9')) (.slice (some ⟨b5, off5, none⟩) lk.length c8) lk) := Lib.hid (HRK.out.past HNE8.out hb7)
                        have HOW7 : Hid (OwnL 3 intC 1 wq.heap.size (w7.setCell ⟨w.heap.size, iN, none⟩ (.slice A9' (Sol.addI l7 x).length c9')) (.slice (some ⟨b3, off3, none⟩) l.length c6) l) := Lib.hid ((HOW.out.next hb7).keep fun q hq => by
                          have h1 := (HOW.out.lt hq).1
                          simp only [World.setCell, Array.getElem?_modify]
                          rw [if_neg (by omega)])
                        have hz7 := hb7.size
                        go_roundw
                        case rel => exact ⟨j + 1, by omega, by go_num, hbw7, by simp; omega, HM8, HS6, HOW7, HRK7⟩
                        case measure => simp [intOf]; omega
                    · have HFI : Hid (b.set iN (Sol.passL but lb (lk.take j)) = (l.take (j4 + 1)).foldl (Sol.stepIn sets iN) b0) := Lib.hid (by
                        rw [HST4.out]
                        unfold Sol.stepIn
                        rw [Int.toNat_natCast, Int.toNat_natCast, HLB.out, HLK.out, ← HBUT.out, List.take_of_length_le (by omega)])
                      have hlb5 : ((l.take (j4 + 1)).foldl (Sol.stepIn sets iN) b0).length = N := by rw [← HFI.out, List.length_set]; exact hlb
                      rw [HFI.out] at HM HSM
                      clear HFI
                      go_wp2
                      go_roundw
                      case rel => exact ⟨j4 + 1, by omega, by go_num, hXb, hXq, hlb5, HM, HSM, HOW⟩
                      case measure => simp [intOf]; omega
                · obtain rfl : j4 = l.length := by omega
                  obtain ⟨bf, hbf⟩ : ∃ bf, bf = (l.take l.length).foldl (Sol.stepIn sets iN) b0 := ⟨_, rfl⟩
                  rw [← hbf] at HM HSM hlb
                  have hbf2 : bf = (Sol.rowI G iN).foldl (Sol.stepIn sets iN) (Sol.useIn uses iN a1) := by rw [hbf, List.take_of_length_le (Nat.le_refl _), HLG.out, HB0.out]
                  obtain ⟨lf, hlf⟩ : ∃ lf, bf[iN]? = some lf := ⟨_, List.getElem?_eq_getElem (by omega)⟩
                  have hlf20 := HSM.out.len hlf
                  have hst : ((List.range N).reverse.take (k + 1)).foldl (Sol.bwdI G uses sets) (a0, false) = (bf, mv1 || decide (li.length < lf.length)) := by
                    rw [HSTP.out]
                    unfold Sol.bwdI
                    dsimp only
                    rw [← hbf2, getD_of hlf, HRD.out]
                  have HSF := Lib.hid hst
                  obtain ⟨A7, c7, p7, f7, _, _, hb0, _, _⟩ := HM.out.addRow hlf (by omega) hXz
                  clear hbf hbf2 hlf hst
                  cases mv1 with
                  | true =>
                    rw [Bool.true_or] at HSF
                    go_wp2
                    go_roundw
                    case rel => exact ⟨k + 1, (bf, true), by omega, by have := HIK.out; go_num, rfl, hXb, hlb, HM, HSM, HSF⟩
                    case measure => have := HIK.out; first | (simp [intOf]; done) | (simp [intOf]; omega)
                  | false =>
                    rw [Bool.false_or] at HSF
                    go_wp2
                    go_roundw
                    case rel => exact ⟨k + 1, (bf, decide (li.length < lf.length)), by omega, by have := HIK.out; go_num, by simp, hXb, hlb, HM, HSM, HSF⟩
                    case measure => have := HIK.out; first | (simp [intOf]; done) | (simp [intOf]; omega)
        · obtain rfl : k = N := by omega
          have hsw : Sol.sweepB G uses sets a0 = (a1, mv1) := by
            have h := HFK.out
            rw [List.take_of_length_le (by simp), HN.out] at h
            exact h
          obtain ⟨q1, q2, q3⟩ := Sol.sweepB_law (uses := uses) (sets := sets) HG.out (a := a0) (by rw [← HN.out, ← HU.out]; exact HI.out)
          simp only [hsw, ← HN.out, ← HU.out] at q1 q2 q3
          have hk1 : gk = gk - 1 + 1 := by have := HK2.out; omega
          have HQ2 : Hid (mv1 = true → Sol.roomOf U.length a1 < gk - 1) := Lib.hid fun h => by have h1 := q2 h; have h2 := HK2.out; omega
          have HQ3 := Lib.hid q3
          have HQ1 := Lib.hid q1
          have hjj : (k : Int) - 1 - k = -1 := by omega
          rw [hjj]
          clear hsw q1 q2 q3 HFK hjj
          go_wp2
          go_roundg (gk - 1)
          case measure => omega
          case rel => exact ⟨a1, mv1, rfl, hXb, HM, HQ1, HQ2, HQ3⟩
end Go.Proofs.Ytadcjmfednachaa
