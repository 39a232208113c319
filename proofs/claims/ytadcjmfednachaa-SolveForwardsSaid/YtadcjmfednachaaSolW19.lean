/-
  The reference's Forward. (Printed by wip/solve/gen19.py.)
-/
import Derived.Test.YtadcjmfednachaaSolW18
namespace Go.Proofs.Ytadcjmfednachaa
open Go.RowKit Go.WideShapes Go.ChangeShapes Go.Deep
set_option linter.unusedVariables false
set_option linter.unusedSimpArgs false

/-- What a Forward answers. -/
def FwdP (w : World) (G : List (List Int)) (en : Int) (start : List Int) (makes ends : List (List Int)) (e : Ending) (w' : World) : Prop := ∃ a, Sol.IsSol G.length (Sol.InF G en start makes ends) a ∧ MatP w a e w'
theorem fwd_none {G makes ends : List (List Int)} {en : Int} {start : List Int} (h : ¬ Sol.InR G.length en) : Sol.IsSol G.length (Sol.InF G en start makes ends) (List.replicate G.length []) :=
  ⟨by simp, fun i _ => by rw [getD_replicate]; exact List.Pairwise.nil, fun i _ x => by
    rw [getD_replicate]
    refine ⟨fun hx => (by cases hx), fun hx => ?_⟩
    cases hx with
    | start he _ => exact absurd he h
    | make he _ _ _ => exact absurd he h
    | pass he _ _ _ _ => exact absurd he h⟩
theorem fwd_step {G makes ends : List (List Int)} {met : List Bool} {N k : Nat} (hk : k < N) (st0 : List (List Int) × Bool) :
    ((List.range N).take (k + 1)).foldl (Sol.fwdI G makes ends met) st0 = Sol.fwdI G makes ends met (((List.range N).take k).foldl (Sol.fwdI G makes ends met) st0) k := by
  have h : (List.range N)[k]? = some k := List.getElem?_range hk
  rw [take_step h, List.foldl_append]; rfl
theorem RdL.intAt2 {w : World} {b off n c : Nat} {l : List Int} (h : RdL intC 1 w (.slice (some ⟨b, off, none⟩) n c) l) {k : Nat} {y : Int} (hy : l[k]? = some y) : b < w.heap.size ∧ w.cell? ⟨b, off + k, none⟩ = some (.int .i64 y) := by
  obtain ⟨b', off', e, _, hb, p⟩ := h.intAt hy
  injection e with e
  injection e with e1 e2
  subst e1 e2
  exact ⟨hb, p⟩
theorem bool_block {w : World} {b b0 : Nat} {l : List Bool} {a : List (List Int)} {base : Nat} (h1 : BoolR 4 w b l) (h2 : OwnM 3 28 base w b0 a) : b ≠ b0 := by
  rintro rfl
  obtain ⟨vs, hV⟩ := h2
  have := hV.blk
  unfold BoolR at h1
  rw [h1] at this
  injection this with this
  injection this with _ h
  exact absurd h (by decide)
set_option maxRecDepth 100000 in
set_option maxHeartbeats 8000000 in
theorem rforward_any (A As A1 A2 : Option Addr) (n ns n1 n2 c cs c1 c2 : Nat) (m : List (List Int)) (en : Int) (start : List Int) (makes ends : List (List Int)) (w : World) (hs : RdM w (.slice A n c) m) (hst : RdL intC 1 w (.slice As ns cs) start) (hs1 : RdM w (.slice A1 n1 c1) makes) (hs2 : RdM w (.slice A2 n2 c2) ends)
    (hn : m.length ≤ 1048575) (hr20 : ∀ l ∈ m, l.length ≤ 1048576) (hu20 : (start ++ makes.flatten).length ≤ 1048575) :
    Calls Try.prog 21 #[.slice A n c, .int .i64 en, .slice As ns cs, .slice A1 n1 c1, .slice A2 n2 c2] w (FwdP w (Sol.cleanG m) en start makes ends) := by
  obtain ⟨j0, hj0, hy0, hy1, hy2⟩ := info_parts row_info
  obtain ⟨A', c', e⟩ := hs.form
  injection e with e1 e2 e3
  subst e2
  clear e1 e3 A' c'
  obtain ⟨rfl, _, _⟩ := hst.lenEq
  obtain ⟨N, hN⟩ : ∃ N, N = (Sol.cleanG m).length := ⟨_, rfl⟩
  have hNm : N = m.length := by rw [hN, Sol.cleanG_length]
  rw [← hNm] at hs ⊢
  have HRE : Hid (∀ W, Below w.heap.size w W → Calls Try.prog 11 #[.slice A N c, .int .i64 en] W (BoolP W (Sol.reachB (Sol.cleanG m) en))) := Lib.hid fun W hW => rreach_any A N c m en W (hs.next hW) (by omega) hr20
  rw [← hNm] at hn
  have HFO : Hid (∀ W, Below w.heap.size w W → ∀ i : Nat, i < N → Calls Try.prog 29 #[.slice A N c, .int .i64 i] W (OwnP W (Sol.rowI (Sol.cleanG m) i))) := Lib.hid fun W hW i hi => follows_any A N c m i W (hs.next hW) (by omega) hr20
  have HMK : Hid (∀ W, Below w.heap.size w W → ∀ i : Nat, i < N → Calls Try.prog 40 #[.slice A1 n1 c1, .int .i64 i] W (RowO w W (Sol.rowI makes i))) := Lib.hid fun W hW i hi => at_old A1 n1 c1 makes i w W hs1 hW (by omega)
  have HEN : Hid (∀ W, Below w.heap.size w W → ∀ i : Nat, i < N → Calls Try.prog 40 #[.slice A2 n2 c2, .int .i64 i] W (RowO w W (Sol.rowI ends i))) := Lib.hid fun W hW i hi => at_old A2 n2 c2 ends i w W hs2 hW (by omega)
  have HSR := Lib.hid hst
  have hG := Sol.cln_clean m
  have hrl := fun i : Int => row_le (clean_rows hr20) i
  obtain ⟨G, hGG⟩ : ∃ G, G = Sol.cleanG m := ⟨_, rfl⟩
  rw [← hGG] at HFO HRE hN hG hrl ⊢
  have HN := Lib.hid hN
  have HG := Lib.hid hG
  have HR := Lib.hid hrl
  obtain ⟨U, hU⟩ : ∃ U, U = start ++ makes.flatten := ⟨_, rfl⟩
  rw [← hU] at hu20
  have HU := Lib.hid hU
  have hsl : start.length ≤ U.length := by rw [hU]; simp
  obtain ⟨met, hmet⟩ : ∃ met, met = Sol.reachB G en := ⟨_, rfl⟩
  have hml : met.length = N := by rw [hmet, Sol.reachB_length, hN]
  rw [← hmet] at HRE
  have HLM := Lib.hid hml
  have HMET := Lib.hid hmet
  clear hs hst hs1 hs2 hr20 hN hNm hG hrl hGG hU hmet hml
  by_cases hen : Sol.InR N en
  · have HE2 : Hid (Sol.InR G.length en) := Lib.hid (by rw [← HN.out]; exact hen)
    unfold Sol.InR at hen
    obtain ⟨eN, rfl⟩ : ∃ k : Nat, en = (k : Int) := ⟨en.toNat, by omega⟩
    have heN : eN < N := by omega
    have d1 : decide ((eN : Int) < 0) = false := by simp
    have d2 : decide ((N : Int) ≤ (eN : Int)) = false := by simp; omega
    have d3 : decide (N ≤ eN) = false := by simp; omega
    clear hen
    have hA1 := cell_alloc_if
    have hA2 := frozen_alloc_if
    have hA3 := cell_set_if
    go_enter Try.func21, Try.ntmps21
    go_wp2_with (first
      | (refine wpList_make_full _ rfl (.tmp 25) (.tmp 25) 22 rfl w.heap.size 28 j0 _ 1 Try.underlying22 hj0 hy0 hy1 .i64 .i64 N N N rfl rfl rfl rfl ?m1 ?m2 ?m3 ?_))
    case m1 => first | (rw [hy2]; omega) | omega
    case m2 => unfold maxLen; omega
    try (case m3 => exact Nat.le_refl _)
    intro w1 hrow hg1
    rw [toList_madeCells_one] at hrow
    have hblk := block_full hrow
    have hbw1 : Below w.heap.size w w1 := (Below.refl _ _).grown hg1 (Nat.le_refl _) (fun k hk => by cases hk)
    have HM0 : Hid (OwnM 3 28 w.heap.size w1 w.heap.size (List.replicate N [])) := Lib.hid ⟨_, OwnV.made (Nat.le_refl _) (by simpa using hblk)⟩
    clear hrow hg1 hblk
    go_wp2_with (go_at_call 11; (with_reducible refine (HRE.out _ (by (repeat' (first | (with_reducible exact Below.refl _ _) | (with_reducible assumption) | (with_reducible refine Below.setCell ?_ ?_ _) | (with_reducible refine Below.alloc ?_ ?_ _) | (with_reducible refine Below.drew ?_) | (with_reducible refine below_drewN ?_ _) | (with_reducible refine below_next ?_ (by with_reducible assumption)) | omega | (dsimp only; omega) | (simp only [World.size_alloc, World.size_setCell, World.size_drew, World.heap_drewN]; omega))))).mono ?_); rintro e w2 ⟨bm, rfl, hbm2, hb2⟩; have HMT := Lib.hid hbm2; have hz2' := hb2.size; clear hbm2; (try rw [HLM.out]))
    have hM2 := HM0.out.next hb2
    have hbm : bm ≠ w.heap.size := bool_block HMT.out hM2
    have hbw2 : Below w.heap.size w w2 := hbw1.trans (hb2.mono hbw1.size)
    have HM2 : Hid (OwnM 3 28 w.heap.size w2 w.heap.size ((List.replicate N []).set eN (Sol.passL [] [] (start.take 0)))) := Lib.hid (by
      rw [List.take_zero, passL_nil]
      have h := Sol.set_same (List.replicate N ([] : List Int)) eN []
      rw [getD_replicate] at h
      rw [h]
      exact hM2)
    have HS2 : Hid (Small U ((List.replicate N []).set eN (Sol.passL [] [] (start.take 0)))) := Lib.hid (by
      rw [List.take_zero, passL_nil]
      have h := Sol.set_same (List.replicate N ([] : List Int)) eN []
      rw [getD_replicate] at h
      rw [h]
      intro i l hl
      rw [List.getElem?_replicate] at hl
      split at hl
      · injection hl with hl; subst hl; exact ⟨List.Pairwise.nil, by simp⟩
      · cases hl)
    clear hM2 hbw1 hb2 hz2' HM0 HRE
    go_loopw [41] (fun i wr => ∃ j : Nat, j ≤ start.length ∧ i = .int .i64 j ∧ Below w.heap.size w wr ∧ Hid (OwnM 3 28 w.heap.size wr w.heap.size ((List.replicate N []).set eN (Sol.passL [] [] (start.take j)))) ∧ Hid (Small U ((List.replicate N []).set eN (Sol.passL [] [] (start.take j)))) ∧ Hid (BoolR 4 wr bm met)) (fun i _ => start.length - (intOf i).toNat)
    case atStart => exact ⟨0, by omega, rfl, hbw2, HM2, HS2, HMT⟩
    case round =>
      clear hbw2 HM2 HS2 HMT
      obtain ⟨j, hj, rfl, hXb, HM, HSM, HMT⟩ := hrel
      have hXz := hXb.size
      by_cases hltj : j < start.length
      · obtain ⟨x, hx⟩ : ∃ y, start[j]? = some y := ⟨_, List.getElem?_eq_getElem hltj⟩
        obtain ⟨b3, off3, e3, _, hb3, p30⟩ := HSR.out.intAt hx
        have p3 := (hXb.cell (p := ⟨b3, off3 + j, none⟩) hb3).trans p30
        subst e3
        have hxU : x ∈ U := by rw [HU.out]; exact List.mem_append.2 (.inl (List.mem_of_getElem? hx))
        have hrow := set_get (a := List.replicate N []) (i := eN) (Sol.passL [] [] (start.take j)) (by simpa using heN)
        have hrl20 := HSM.out.len hrow
        have hps := passL_step [] [] hx
        rw [if_neg (by simp)] at hps
        have HS4 := HSM.out.add hrow hxU
        rw [List.set_set, ← hps] at HS4
        obtain ⟨A8, c8, p8, f8, _, _, hb0, hadd, hput⟩ := HM.out.addRow hrow (by omega) hXz
        have HADD := Lib.hid (hadd x)
        have HPUT := Lib.hid (hput x)
        have HPS := Lib.hid hps
        have HS5 := Lib.hid HS4
        obtain ⟨l7, hl7⟩ : ∃ l7, l7 = Sol.passL [] [] (start.take j) := ⟨_, rfl⟩
        rw [← hl7] at p8 HADD HPUT HPS
        clear hx hxU hrow hrl20 hps HS4 hadd hput hl7 p30
        go_wp2_with (go_at_call 34; (with_reducible refine (HADD.out _ (by (repeat' (first | (with_reducible exact Below.refl _ _) | (with_reducible assumption) | (with_reducible refine Below.setCell ?_ ?_ _) | (with_reducible refine Below.alloc ?_ ?_ _) | (with_reducible refine Below.drew ?_) | (with_reducible refine below_drewN ?_ _) | (with_reducible refine below_next ?_ (by with_reducible assumption)) | omega | (dsimp only; omega) | (simp only [World.size_alloc, World.size_setCell, World.size_drew, World.heap_drewN]; omega))))).mono ?_); rintro e w7 ⟨A9, c9, rfl, hb7, hor⟩; obtain ⟨hM7, ⟨u7, hq7⟩, hf7⟩ := HPUT.out _ w7 A9 c9 (by (repeat' (first | (with_reducible exact Below.refl _ _) | (with_reducible assumption) | (with_reducible refine Below.setCell ?_ ?_ _) | (with_reducible refine Below.alloc ?_ ?_ _) | (with_reducible refine Below.drew ?_) | (with_reducible refine below_drewN ?_ _) | (with_reducible refine below_next ?_ (by with_reducible assumption)) | omega | (dsimp only; omega) | (simp only [World.size_alloc, World.size_setCell, World.size_drew, World.heap_drewN]; omega)))) hb7 hor; have HM7 := Lib.hid hM7; clear hM7 hor)
        have hbw7 : Below w.heap.size w (w7.setCell ⟨w.heap.size, eN, none⟩ (.slice A9 (Sol.addI l7 x).length c9)) := (hXb.trans (hb7.mono (by omega))).setCell (Nat.le_refl _) _
        have HM8 : Hid (OwnM 3 28 w.heap.size (w7.setCell ⟨w.heap.size, eN, none⟩ (.slice A9 (Sol.addI l7 x).length c9)) w.heap.size ((List.replicate N []).set eN (Sol.passL [] [] (start.take (j + 1))))) := Lib.hid (by
          have h := HM7.out
          rw [List.set_set] at h
          rw [HPS.out]
          exact h)
        have HMT7 : Hid (BoolR 4 (w7.setCell ⟨w.heap.size, eN, none⟩ (.slice A9 (Sol.addI l7 x).length c9)) bm met) := Lib.hid ((HMT.out.next hb7).block (by
          simp only [World.setCell, Array.getElem?_modify]
          rw [if_neg (Ne.symm hbm)]))
        go_roundw
        case rel => exact ⟨j + 1, by omega, by go_num, hbw7, HM8, HS5, HMT7⟩
        case measure => simp [intOf]; omega
      · obtain ⟨hi1, hi2⟩ := Sol.startF (a := []) (G := G) (e := (eN : Int)) (start := start) (makes := makes) (ends := ends) HE2.out
        rw [Int.toNat_natCast, ← HN.out, ← HU.out] at hi1
        rw [Int.toNat_natCast, ← HN.out] at hi2
        rw [List.take_of_length_le (by omega)] at HM HSM
        obtain ⟨a00, ha00⟩ : ∃ a00, a00 = (List.replicate N []).set eN (Sol.passL [] [] start) := ⟨_, rfl⟩
        rw [← ha00] at hi1 hi2 HM HSM
        have HI0 := Lib.hid hi1
        have HI1 := Lib.hid hi2
        clear hi1 hi2 ha00
        go_wp2
        go_loopg [15] (Sol.roomOf U.length a00 + 1) (fun gk mo wr => ∃ (a : List (List Int)) (mv : Bool), mo = .bool mv ∧ Below w.heap.size w wr ∧ Hid (OwnM 3 28 w.heap.size wr w.heap.size a) ∧ Hid (BoolR 4 wr bm met) ∧ Hid (Sol.Inv N (Sol.InF G eN start makes ends) U a) ∧ Hid (∀ x ∈ start, x ∈ a.getD eN []) ∧ Hid (mv = true → Sol.roomOf U.length a < gk) ∧ Hid (mv = false → Sol.IsSol N (Sol.InF G eN start makes ends) a))
        case atStart => exact ⟨_, true, rfl, hXb, HM, HMT, HI0, HI1, Lib.hid fun _ => by omega, Lib.hid fun h => by cases h⟩
        case round =>
          clear hXb hXz HM HMT HI0 HI1 HSM hltj
          obtain ⟨a0, mv, rfl, hXb, HM, HMT, HI, HIS, HK, HF⟩ := hrel
          have hXz := hXb.size
          cases mv with
          | false =>
            have HSOL := HF.out rfl
            have hlen := HI.out.len
            have HSL := Lib.hid HSOL
            clear HSOL HF HK
            go_wp2
            go_ret
            exact ⟨a0, by rw [← HN.out]; exact HSL.out, by rw [hlen]; rfl, HM.out, hXb⟩
          | true =>
            have HK2 : Hid (Sol.roomOf U.length a0 < gk) := Lib.hid (HK.out rfl)
            have hla := HI.out.len
            have HSM : Hid (Small U a0) := Lib.hid (Small.of_inv HI.out)
            clear HK HF
            go_wp2
            obtain ⟨wo, rfl⟩ : ∃ wo, wo = wr := ⟨_, rfl⟩
            go_loopw [15, 16] (fun mo i wr => ∃ (k : Nat) (st : List (List Int) × Bool), k ≤ N ∧ i = .int .i64 k ∧ mo = .bool st.2 ∧ Below w.heap.size w wr ∧ st.1.length = N ∧ Hid (OwnM 3 28 w.heap.size wr w.heap.size st.1) ∧ Hid (BoolR 4 wr bm met) ∧ Hid (Small U st.1) ∧ Hid (((List.range N).take k).foldl (Sol.fwdI G makes ends met) (a0, false) = st)) (fun _ i _ => N - (intOf i).toNat)
            case atStart => exact ⟨0, (a0, false), by omega, rfl, rfl, hXb, hla, HM, HMT, HSM, Lib.hid (by simp)⟩
            case round =>
              clear hXb hXz HM HSM hla HMT
              obtain ⟨iN, st, hk, rfl, rfl, hXb, hla, HM, HMT, HSM, HFK⟩ := hrel
              obtain ⟨a1, mv1⟩ := st
              dsimp only at hla HM HSM ⊢
              have hXz := hXb.size
              by_cases hil : iN < N
              · have hst : ((List.range N).take (iN + 1)).foldl (Sol.fwdI G makes ends met) (a0, false) = if met.getD iN false = true then (Sol.rowI G iN).foldl (Sol.fwdE makes ends iN) (a1, mv1) else (a1, mv1) := by
                  rw [fwd_step hil, HFK.out]; rfl
                have HFK' : Hid (∀ W, Below wr.heap.size wr W → Calls Try.prog 29 #[.slice A N c, .int .i64 iN] W (OwnP W (Sol.rowI G iN))) := Lib.hid fun W hW => HFO.out W (hXb.trans (hW.mono (by omega))) iN hil
                go_wp2_with (go_at_call 29; (with_reducible refine (HFK'.out _ (by (repeat' (first | (with_reducible exact Below.refl _ _) | (with_reducible assumption) | (with_reducible refine Below.setCell ?_ ?_ _) | (with_reducible refine Below.alloc ?_ ?_ _) | (with_reducible refine Below.drew ?_) | (with_reducible refine below_drewN ?_ _) | (with_reducible refine below_next ?_ (by with_reducible assumption)) | omega | (dsimp only; omega) | (simp only [World.size_alloc, World.size_setCell, World.size_drew, World.heap_drewN]; omega))))).mono ?_); rintro e w6 ⟨A6, c6, rfl, how, hb6⟩; have HOW := Lib.hid how; have hz6 := hb6.size; clear how)
                obtain ⟨l, hl⟩ : ∃ l, l = Sol.rowI G iN := ⟨_, rfl⟩
                have hl20 : l.length ≤ 1048576 := by rw [hl]; exact HR.out iN
                have HIN : Hid (∀ y ∈ l, Sol.InR N y) := Lib.hid fun y hy => by rw [HN.out]; exact HG.out iN y (hl ▸ hy)
                rw [← hl] at HOW hst ⊢
                have HM6 : Hid (OwnM 3 28 w.heap.size w6 w.heap.size a1) := Lib.hid (HM.out.next hb6)
                have HMT6 : Hid (BoolR 4 w6 bm met) := Lib.hid (HMT.out.next hb6)
                have hbw6 : Below w.heap.size w w6 := hXb.trans (hb6.mono hXz)
                have hwr6 : wr.heap.size ≤ w6.heap.size := hz6
                have hwl : w.heap.size < wr.heap.size := by obtain ⟨vs, hv⟩ := HM.out; exact hv.lt
                have hmlt : iN < met.length := by rw [HLM.out]; exact hil
                obtain ⟨mi, hmi⟩ : ∃ mi, mi = met.getD iN false := ⟨_, rfl⟩
                rw [← hmi] at hst
                have HMI := Lib.hid hmi
                clear hl hmi HM HMT hb6 hz6 HFK'
                obtain ⟨wq, rfl⟩ : ∃ wq, wq = wr := ⟨_, rfl⟩
                cases mi with
                | false =>
                  rw [if_neg (by decide)] at hst
                  have HST := Lib.hid hst
                  clear hst
                  obtain ⟨pm, _⟩ := HMT6.out.at_ hmlt
                  rw [← HMI.out] at pm
                  have hwqq : w6.heap.size ≤ w6.heap.size := Nat.le_refl _
                  rcases Nat.eq_zero_or_pos l.length with h0 | hp
                  · have dl : decide ((0 : Int) < (l.length : Int)) = false := decide_eq_false (by omega)
                    go_loopw [15, 18] (fun mo i wr => mo = .bool mv1 ∧ i = .int .i64 0 ∧ wr = w6) (fun _ _ _ => 0)
                    case atStart => exact ⟨rfl, rfl, rfl⟩
                    case round =>
                      obtain ⟨rfl, rfl, rfl⟩ := hrel
                      go_wp2
                      go_roundw
                      case rel => exact ⟨iN + 1, (a1, mv1), by omega, by go_num, rfl, hbw6, hla, HM6, HMT6, HSM, HST⟩
                      case measure => simp [intOf]; omega
                  · have dl : decide ((0 : Int) < (l.length : Int)) = true := decide_eq_true (by omega)
                    go_loopw [15, 18] (fun mo i wr => mo = .bool mv1 ∧ i = .int .i64 0 ∧ wr = w6) (fun _ _ _ => 0)
                    case atStart => exact ⟨rfl, rfl, rfl⟩
                    case round =>
                      obtain ⟨rfl, rfl, rfl⟩ := hrel
                      go_wp2
                      go_roundw
                      case rel => exact ⟨iN + 1, (a1, mv1), by omega, by go_num, rfl, hbw6, hla, HM6, HMT6, HSM, HST⟩
                      case measure => simp [intOf]; omega
                | true =>
                  rw [if_pos rfl] at hst
                  have HST := Lib.hid hst
                  clear hst
                  go_loopw [15, 18] (fun mo i wr => ∃ (j : Nat) (st : List (List Int) × Bool), j ≤ l.length ∧ i = .int .i64 j ∧ mo = .bool st.2 ∧ Below w.heap.size w wr ∧ wq.heap.size ≤ wr.heap.size ∧ st.1.length = N ∧ Hid (OwnM 3 28 w.heap.size wr w.heap.size st.1) ∧ Hid (BoolR 4 wr bm met) ∧ Hid (Small U st.1) ∧ Hid (OwnL 3 intC 1 wq.heap.size wr (.slice A6 l.length c6) l) ∧ Hid ((l.take j).foldl (Sol.fwdE makes ends iN) (a1, mv1) = st)) (fun _ i _ => l.length - (intOf i).toNat)
                  case atStart => exact ⟨0, (a1, mv1), by omega, rfl, rfl, hbw6, hwr6, hla, HM6, HMT6, HSM, HOW, Lib.hid (by simp)⟩
                  case round =>
                    clear hXb hXz HM6 HMT6 HSM HOW hbw6 hwr6 hla
                    obtain ⟨j4, st, hj4, rfl, rfl, hXb, hXq, hla, HM, HMT, HSM, HOW, HFJ⟩ := hrel
                    obtain ⟨a2, mv2⟩ := st
                    dsimp only at hla HM HSM ⊢
                    have hXz := hXb.size
                    obtain ⟨pm, _⟩ := HMT.out.at_ hmlt
                    rw [← HMI.out] at pm
                    by_cases hlt4 : j4 < l.length
                    · obtain ⟨y, hy⟩ : ∃ y, l[j4]? = some y := ⟨_, List.getElem?_eq_getElem hlt4⟩
                      have hyr := HIN.out y (List.mem_of_getElem? hy)
                      unfold Sol.InR at hyr
                      obtain ⟨yN, rfl⟩ : ∃ k : Nat, y = (k : Int) := ⟨y.toNat, by omega⟩
                      have hyN : yN < N := by omega
                      have hst := foldl_take_step (f := Sol.fwdE makes ends iN) hy (a1, mv1)
                      rw [HFJ.out] at hst
                      have HST4 := Lib.hid hst
                      obtain ⟨lk, hlk⟩ : ∃ lk, a2[yN]? = some lk := ⟨_, List.getElem?_eq_getElem (by omega)⟩
                      have hlk20 := HSM.out.len hlk
                      obtain ⟨A8, c8, p8, f8, _, _, hb0, _, _⟩ := HM.out.addRow hlk (by omega) hXz
                      have HLK : Hid (a2.getD yN [] = lk) := Lib.hid (getD_of hlk)
                      obtain ⟨b3, off3, e3, _, hb3, p3⟩ := (HOW.out.rdl intC_len).intAt hy
                      have hb3q := (HOW.out.lt (b := b3) (by rw [e3]; rfl)).1
                      subst e3
                      have HMKK : Hid (∀ W, Below wr.heap.size wr W → Calls Try.prog 40 #[.slice A1 n1 c1, .int .i64 iN] W (RowO w W (Sol.rowI makes iN))) := Lib.hid fun W hW => HMK.out W (hXb.trans (hW.mono (by omega))) iN hil
                      have HY := Lib.hid hy
                      clear hy hyr hst hlk HFJ
                      go_wp2_with (go_at_call 40; (with_reducible refine (HMKK.out _ (by (repeat' (first | (with_reducible exact Below.refl _ _) | (with_reducible assumption) | (with_reducible refine Below.setCell ?_ ?_ _) | (with_reducible refine Below.alloc ?_ ?_ _) | (with_reducible refine Below.drew ?_) | (with_reducible refine below_drewN ?_ _) | (with_reducible refine below_next ?_ (by with_reducible assumption)) | omega | (dsimp only; omega) | (simp only [World.size_alloc, World.size_setCell, World.size_drew, World.heap_drewN]; omega))))).mono ?_); rintro e w4 ⟨A4, c4, rfl, hr4, rfl⟩; have HRU := Lib.hid hr4; clear hr4)
                      obtain ⟨u, hu⟩ : ∃ u, u = Sol.rowI makes (iN : Int) := ⟨_, rfl⟩
                      have HUV : Hid (∀ x ∈ u, x ∈ U) := Lib.hid fun x hx => by rw [HU.out]; exact List.mem_append.2 (.inr (Sol.mem_flat (i := (iN : Int)) (hu ▸ hx)))
                      have hul : u.length ≤ U.length := by
                        have h1 : u.length ≤ makes.flatten.length := by
                          rw [hu]
                          unfold Sol.rowI
                          rw [List.getD_eq_getElem?_getD]
                          cases hg : makes[((iN : Nat) : Int).toNat]? with
                          | none => simp
                          | some r => exact List.Sublist.length_le (List.sublist_flatten_of_mem (List.mem_of_getElem? hg))
                        rw [HU.out, List.length_append]
                        omega
                      have HUU := Lib.hid hu
                      rw [← hu] at HRU ⊢
                      clear hu HMKK
                      have HM5 : Hid (OwnM 3 28 w.heap.size wr w.heap.size (a2.set yN (Sol.passL [] lk (u.take 0)))) := Lib.hid (by
                        rw [← HLK.out, List.take_zero, passL_nil, Sol.set_same]; exact HM.out)
                      have HS5 : Hid (Small U (a2.set yN (Sol.passL [] lk (u.take 0)))) := Lib.hid (by
                        rw [← HLK.out, List.take_zero, passL_nil, Sol.set_same]; exact HSM.out)
                      clear HM HSM p8 f8 pm
                      obtain ⟨w9, rfl⟩ : ∃ w9, w9 = wr := ⟨_, rfl⟩
                      go_loopw [89] (fun i wr => ∃ j : Nat, j ≤ u.length ∧ i = .int .i64 j ∧ Below w.heap.size w wr ∧ wq.heap.size ≤ wr.heap.size ∧ Hid (OwnM 3 28 w.heap.size wr w.heap.size (a2.set yN (Sol.passL [] lk (u.take j)))) ∧ Hid (Small U (a2.set yN (Sol.passL [] lk (u.take j)))) ∧ Hid (OwnL 3 intC 1 wq.heap.size wr (.slice (some ⟨b3, off3, none⟩) l.length c6) l) ∧ Hid (BoolR 4 wr bm met)) (fun i _ => u.length - (intOf i).toNat)
                      case atStart => exact ⟨0, by omega, rfl, hXb, hXq, HM5, HS5, HOW, HMT⟩
                      case round =>
                        clear hXb hXz hXq HM5 HS5 HOW HMT hb0 hb3 p3
                        obtain ⟨j, hj, rfl, hXb, hXq, HM, HSM, HOW, HMT⟩ := hrel
                        have hXz := hXb.size
                        obtain ⟨hb3, p3⟩ := (HOW.out.rdl intC_len).intAt2 HY.out
                        by_cases hltj : j < u.length
                        · obtain ⟨x, hx⟩ : ∃ x, u[j]? = some x := ⟨_, List.getElem?_eq_getElem hltj⟩
                          obtain ⟨b5, off5, e5, _, hb5, p50⟩ := HRU.out.intAt hx
                          have p5 := (hXb.cell (p := ⟨b5, off5 + j, none⟩) hb5).trans p50
                          subst e5
                          have hxU := HUV.out x (List.mem_of_getElem? hx)
                          have hrow := set_get (a := a2) (i := yN) (Sol.passL [] lk (u.take j)) (by omega)
                          have hrl20 := HSM.out.len hrow
                          have hps := passL_step [] lk hx
                          rw [if_neg (by simp)] at hps
                          have HS4 := HSM.out.add hrow hxU
                          rw [List.set_set, ← hps] at HS4
                          obtain ⟨A7, c7, p7, f7, _, _, hb0, hadd, hput⟩ := HM.out.addRow hrow (by omega) hXz
                          have HADD := Lib.hid (hadd x)
                          have HPUT := Lib.hid (hput x)
                          have HPS := Lib.hid hps
                          have HS6 := Lib.hid HS4
                          obtain ⟨l7, hl7⟩ : ∃ l7, l7 = Sol.passL [] lk (u.take j) := ⟨_, rfl⟩
                          rw [← hl7] at p7 HADD HPUT HPS
                          clear hx hxU hrow hrl20 hps HS4 hadd hput hl7 p50
                          go_wp2
                          refine wp_region_held_drew (S := fun W => Below w.heap.size w W ∧ W.cell? ⟨b3, off3 + j4, none⟩ = some (.int .i64 yN)) (by kernel_rfl) ⟨hXb.drew, p3⟩ (fun hHeld => ?_)
                          refine takeR (i := 0) (some 93) (v := ?_) rfl rfl (by kernel_rfl) (by kernel_rfl) (by kernel_rfl) (fun _ _ _ h => h) (Or.inl ⟨by rfl, ?_⟩) (by assumption) ?_
                          rotate_left
                          (focus (intro W hSw; (try dsimp only at hSw); have p3 := hSw.2; go_simp; (try with_reducible rfl)))
                          (try simp only [Act.put, List.setIfInBounds_toArray, List.set_cons_zero, List.set_cons_succ])
                          refine takeR (i := 1) (some 94) (v := ?_) rfl rfl (by kernel_rfl) (by kernel_rfl) (by kernel_rfl) (fun _ _ _ h => h) (Or.inl ⟨by rfl, ?_⟩) (by assumption) ?_
                          rotate_left
                          (focus (intro W hSw; (try dsimp only at hSw); have p3 := hSw.2; go_simp; (try with_reducible rfl)))
                          (try simp only [Act.put, List.setIfInBounds_toArray, List.set_cons_zero, List.set_cons_succ])
                          refine takeR (i := 2) (some 95) (v := ?_) rfl rfl (by kernel_rfl) (by kernel_rfl) (by kernel_rfl) (fun _ _ _ h => h) (Or.inl ⟨by rfl, ?_⟩) (by assumption) ?_
                          rotate_left
                          (focus (intro W hSw; (try dsimp only at hSw); have p3 := hSw.2; go_simp; (try with_reducible rfl)))
                          (try simp only [Act.put, List.setIfInBounds_toArray, List.set_cons_zero, List.set_cons_succ])
                          refine takeR (i := 3) (some 96) (v := ?_) rfl rfl (by kernel_rfl) (by kernel_rfl) (by kernel_rfl) (fun _ _ _ h => h) (Or.inl ⟨by rfl, ?_⟩) (by assumption) ?_
                          rotate_left
                          (focus (intro W hSw; (try dsimp only at hSw); have p3 := hSw.2; go_simp; (try with_reducible rfl)))
                          (try simp only [Act.put, List.setIfInBounds_toArray, List.set_cons_zero, List.set_cons_succ])
                          refine takeR (i := 4) (some 97) (v := ?_) rfl rfl (by kernel_rfl) (by kernel_rfl) (by kernel_rfl) (fun _ _ _ h => h) (Or.inl ⟨by rfl, ?_⟩) (by assumption) ?_
                          rotate_left
                          (focus (intro W hSw; (try dsimp only at hSw); have p3 := hSw.2; go_simp; (try with_reducible rfl)))
                          (try simp only [Act.put, List.setIfInBounds_toArray, List.set_cons_zero, List.set_cons_succ])
                          refine takeR (i := 5) (some 98) (v := ?_) rfl rfl (by kernel_rfl) (by kernel_rfl) (by kernel_rfl) (fun _ _ _ h => h) (Or.inl ⟨by rfl, ?_⟩) (by assumption) ?_
                          rotate_left
                          (focus (intro W hSw; (try dsimp only at hSw); have p3 := hSw.2; go_simp; (try with_reducible rfl)))
                          (try simp only [Act.put, List.setIfInBounds_toArray, List.set_cons_zero, List.set_cons_succ])
                          refine takeR (i := 6) (some 99) (v := ?_) rfl rfl (by kernel_rfl) (by kernel_rfl) (by kernel_rfl) (fun _ _ _ h => h) (Or.inl ⟨by rfl, ?_⟩) (by assumption) ?_
                          rotate_left
                          (focus (intro W hSw; (try dsimp only at hSw); have p3 := hSw.2; go_simp; (try with_reducible rfl)))
                          (try simp only [Act.put, List.setIfInBounds_toArray, List.set_cons_zero, List.set_cons_succ])
                          refine takeR (i := 7) (some 100) (v := ?_) rfl rfl (by kernel_rfl) (by kernel_rfl) (by kernel_rfl) (fun _ _ _ h => h) (Or.inl ⟨by rfl, ?_⟩) (by assumption) ?_
                          rotate_left
                          (focus (intro W hSw; (try dsimp only at hSw); have p3 := hSw.2; go_simp; (try with_reducible rfl)))
                          (try simp only [Act.put, List.setIfInBounds_toArray, List.set_cons_zero, List.set_cons_succ])
                          refine takeR (i := 8) (some 101) (v := ?_) rfl rfl (by kernel_rfl) (by kernel_rfl) (by kernel_rfl) (fun _ _ _ h => h) (Or.inl ⟨by rfl, ?_⟩) (by assumption) ?_
                          rotate_left
                          (focus (intro W hSw; (try dsimp only at hSw); have p3 := hSw.2; go_simp; (try with_reducible rfl)))
                          (try simp only [Act.put, List.setIfInBounds_toArray, List.set_cons_zero, List.set_cons_succ])
                          refine takeR (i := 9) (some 102) (v := ?_) rfl rfl (by kernel_rfl) (by kernel_rfl) (by kernel_rfl) (fun _ _ _ h => h) (Or.inl ⟨by rfl, ?_⟩) (by assumption) ?_
                          rotate_left
                          (focus (intro W hSw; (try dsimp only at hSw); have p3 := hSw.2; go_simp; (try with_reducible rfl)))
                          (try simp only [Act.put, List.setIfInBounds_toArray, List.set_cons_zero, List.set_cons_succ])
                          refine takeR (i := 10) (some 103) (v := ?_) rfl rfl (by kernel_rfl) (by kernel_rfl) (by kernel_rfl) (fun _ _ _ h => h) (Or.inl ⟨by rfl, ?_⟩) (by assumption) ?_
                          rotate_left
                          (focus (intro W hSw; (try dsimp only at hSw); have p3 := hSw.2; go_simp; (try with_reducible rfl)))
                          (try simp only [Act.put, List.setIfInBounds_toArray, List.set_cons_zero, List.set_cons_succ])
                          refine takeR (i := 12) (some 105) (v := ?_) rfl rfl (by kernel_rfl) (by kernel_rfl) (by kernel_rfl) (fun _ _ _ h => h) (Or.inl ⟨by rfl, ?_⟩) (by assumption) ?_
                          rotate_left
                          (focus (intro W hSw; (try dsimp only at hSw); have p3 := hSw.2; go_simp; (try with_reducible rfl)))
                          (try simp only [Act.put, List.setIfInBounds_toArray, List.set_cons_zero, List.set_cons_succ])
                          refine wpAnyH_ready (rs := [11]) (by kernel_rfl) (by simp) ?_
                          refine AllReadyH.cons rfl (fun K hK => ?_) AllReadyH.nil
                          go_simp
                          refine hK.out _ _ ⟨hXb.drew, p3⟩ (fun hHeld => ?_)
                          (try simp only [Act.put, List.setIfInBounds_toArray, List.set_cons_zero, List.set_cons_succ])
                          refine wpAnyH_ready (rs := [13]) (by kernel_rfl) (by simp) ?_
                          refine AllReadyH.cons rfl (fun K hK => ?_) AllReadyH.nil
                          go_simp
                          (go_at_call 34; (with_reducible refine (HADD.out _ (by (repeat' (first | (with_reducible exact Below.refl _ _) | (with_reducible assumption) | (with_reducible refine Below.setCell ?_ ?_ _) | (with_reducible refine Below.alloc ?_ ?_ _) | (with_reducible refine Below.drew ?_) | (with_reducible refine below_drewN ?_ _) | (with_reducible refine below_next ?_ (by with_reducible assumption)) | omega | (dsimp only; omega) | (simp only [World.size_alloc, World.size_setCell, World.size_drew, World.heap_drewN]; omega))))).mono ?_); rintro e w7 ⟨A9', c9', rfl, hb7, hor⟩; obtain ⟨hM7, ⟨u7, hq7⟩, hf7⟩ := HPUT.out _ w7 A9' c9' (by (repeat' (first | (with_reducible exact Below.refl _ _) | (with_reducible assumption) | (with_reducible refine Below.setCell ?_ ?_ _) | (with_reducible refine Below.alloc ?_ ?_ _) | (with_reducible refine Below.drew ?_) | (with_reducible refine below_drewN ?_ _) | (with_reducible refine below_next ?_ (by with_reducible assumption)) | omega | (dsimp only; omega) | (simp only [World.size_alloc, World.size_setCell, World.size_drew, World.heap_drewN]; omega)))) hb7 hor; have HM7 := Lib.hid hM7; clear hM7 hor)
                          have hb7' : Below wr.heap.size wr w7 := Below.trans (a := wr) (by (repeat' (first | (with_reducible exact Below.refl _ _) | (with_reducible assumption) | (with_reducible refine Below.setCell ?_ ?_ _) | (with_reducible refine Below.alloc ?_ ?_ _) | (with_reducible refine Below.drew ?_) | (with_reducible refine below_drewN ?_ _) | (with_reducible refine below_next ?_ (by with_reducible assumption)) | omega | (dsimp only; omega) | (simp only [World.size_alloc, World.size_setCell, World.size_drew, World.heap_drewN]; omega)))) hb7
                          have hz7 := hb7'.size
                          have p37 := (hb7'.cell (p := ⟨b3, off3 + j4, none⟩) hb3).trans p3
                          have hbx7 : Below w.heap.size w w7 := hXb.trans (hb7'.mono hXz)
                          refine hK.out _ _ ⟨hbx7, p37⟩ (fun hHeld => ?_)
                          (try simp only [Act.put, List.setIfInBounds_toArray, List.set_cons_zero, List.set_cons_succ])
                          refine takeR (i := 14) (some 107) (v := ?_) rfl rfl (by kernel_rfl) (by kernel_rfl) (by kernel_rfl) (fun _ _ _ h => h) (Or.inl ⟨by rfl, ?_⟩) (by assumption) ?_
                          rotate_left
                          (focus (intro W hSw; (try dsimp only at hSw); have p3 := hSw.2; go_simp; (try with_reducible rfl)))
                          (try simp only [Act.put, List.setIfInBounds_toArray, List.set_cons_zero, List.set_cons_succ])
                          refine wpAnyH_ready (rs := [15]) (by kernel_rfl) (by simp) ?_
                          refine AllReadyH.cons rfl (fun K hK => ?_) AllReadyH.nil
                          go_simp
                          have hbw7 : Below w.heap.size w (w7.setCell ⟨w.heap.size, yN, none⟩ (.slice A9' (Sol.addI l7 x).length c9')) := hbx7.setCell (Nat.le_refl _) _
                          have hkp : ∀ b, b ≠ w.heap.size → (w7.setCell ⟨w.heap.size, yN, none⟩ (.slice A9' (Sol.addI l7 x).length c9')).heap[b]? = w7.heap[b]? := by
                            intro b hb
                            simp only [World.setCell, Array.getElem?_modify]
                            rw [if_neg (Ne.symm hb)]
                          have p38 := (World.cell?_of_block (a := ⟨b3, off3 + j4, none⟩) (hkp b3 (by omega))).trans p37
                          have HOW7 : Hid (OwnL 3 intC 1 wq.heap.size (w7.setCell ⟨w.heap.size, yN, none⟩ (.slice A9' (Sol.addI l7 x).length c9')) (.slice (some ⟨b3, off3, none⟩) l.length c6) l) := Lib.hid ((HOW.out.next hb7').keep fun q hq => hkp q (by have h1 := (HOW.out.lt hq).1; omega))
                          have HMT7 : Hid (BoolR 4 (w7.setCell ⟨w.heap.size, yN, none⟩ (.slice A9' (Sol.addI l7 x).length c9')) bm met) := Lib.hid ((HMT.out.next hb7').block (hkp bm hbm))
                          have HM8 : Hid (OwnM 3 28 w.heap.size (w7.setCell ⟨w.heap.size, yN, none⟩ (.slice A9' (Sol.addI l7 x).length c9')) w.heap.size (a2.set yN (Sol.passL [] lk (u.take (j + 1))))) := Lib.hid (by
                            have h := HM7.out
                            rw [List.set_set] at h
                            rw [HPS.out]
                            exact h)
                          clear hkp HM7
                          refine hK.out _ _ ⟨hbw7, p38⟩ (fun hHeld => ?_)
                          (try simp only [Act.put, List.setIfInBounds_toArray, List.set_cons_zero, List.set_cons_succ])
                          refine wpAnyH_done (by kernel_rfl) ?_ _
                          go_wp2
                          go_roundw
                          case rel => exact ⟨j + 1, by omega, by go_num, hbw7, by simp; omega, HM8, HS6, HOW7, HMT7⟩
                          case measure => simp [intOf]; omega
                        · have HFI : Hid (a2.set yN (Sol.passL [] lk (u.take j)) = Sol.makeIn makes iN a2 yN) := Lib.hid (by
                            unfold Sol.makeIn
                            rw [Int.toNat_natCast, HLK.out, List.take_of_length_le (by omega), HUU.out])
                          rw [HFI.out] at HM HSM
                          have hlb : (Sol.makeIn makes iN a2 yN).length = N := by unfold Sol.makeIn; rw [List.length_set]; exact hla
                          obtain ⟨cm, hcm⟩ : ∃ cm, cm = Sol.makeIn makes iN a2 yN := ⟨_, rfl⟩
                          rw [← hcm] at HM HSM hlb
                          have HCM := Lib.hid hcm
                          obtain ⟨li, hli⟩ : ∃ li, cm[iN]? = some li := ⟨_, List.getElem?_eq_getElem (by omega)⟩
                          obtain ⟨lk1, hlk1⟩ : ∃ lk1, cm[yN]? = some lk1 := ⟨_, List.getElem?_eq_getElem (by omega)⟩
                          have hli20 := HSM.out.len hli
                          have HLIU : Hid (∀ x ∈ li, x ∈ U) := Lib.hid (HSM.out iN li hli).2
                          obtain ⟨A8', c8', p8, f8, hrk, hne8, hb0, _, _⟩ := HM.out.addRow hli (by omega) hXz
                          have HRK := Lib.hid hrk
                          have HNE8 := Lib.hid hne8
                          have HLI : Hid (cm.getD iN [] = li) := Lib.hid (getD_of hli)
                          have HLK1 : Hid (cm.getD yN [] = lk1) := Lib.hid (getD_of hlk1)
                          obtain ⟨but, hbut⟩ : ∃ but, but = Sol.rowI ends (iN : Int) := ⟨_, rfl⟩
                          have HBUT := Lib.hid hbut
                          have HM5 : Hid (OwnM 3 28 w.heap.size wr w.heap.size (cm.set yN (Sol.passL but lk1 (li.take 0)))) := Lib.hid (by
                            rw [← HLK1.out, List.take_zero, passL_nil, Sol.set_same]; exact HM.out)
                          have HS5 : Hid (Small U (cm.set yN (Sol.passL but lk1 (li.take 0)))) := Lib.hid (by
                            rw [← HLK1.out, List.take_zero, passL_nil, Sol.set_same]; exact HSM.out)
                          clear HM HSM hbut hli hlk1 hrk hne8 hcm HFI HRU HUV HUU
                          go_wp2
                          obtain ⟨w9', rfl⟩ : ∃ w9', w9' = wr := ⟨_, rfl⟩
                          go_loopw [114] (fun i wr => ∃ j : Nat, j ≤ li.length ∧ i = .int .i64 j ∧ Below w.heap.size w wr ∧ wq.heap.size ≤ wr.heap.size ∧ Hid (OwnM 3 28 w.heap.size wr w.heap.size (cm.set yN (Sol.passL but lk1 (li.take j)))) ∧ Hid (Small U (cm.set yN (Sol.passL but lk1 (li.take j)))) ∧ Hid (OwnL 3 intC 1 wq.heap.size wr (.slice (some ⟨b3, off3, none⟩) l.length c6) l) ∧ Hid (BoolR 4 wr bm met) ∧ Hid (RdL intC 1 wr (.slice A8' li.length c8') li)) (fun i _ => li.length - (intOf i).toNat)
                          case atStart => exact ⟨0, by omega, rfl, hXb, hXq, HM5, HS5, HOW, HMT, HRK⟩
                          case round =>
                            clear hXb hXz hXq HM5 HS5 HOW HMT hb0 hb3 p3 HRK p8 f8
                            obtain ⟨j, hj, rfl, hXb, hXq, HM, HSM, HOW, HMT, HRK⟩ := hrel
                            have hXz := hXb.size
                            obtain ⟨hb3, p3⟩ := (HOW.out.rdl intC_len).intAt2 HY.out
                            by_cases hltj : j < li.length
                            · obtain ⟨x, hx⟩ : ∃ x, li[j]? = some x := ⟨_, List.getElem?_eq_getElem hltj⟩
                              obtain ⟨b5, off5, e5, _, hb5, p5⟩ := HRK.out.intAt hx
                              subst e5
                              have hxU := HLIU.out x (List.mem_of_getElem? hx)
                              have hrow := set_get (a := cm) (i := yN) (Sol.passL but lk1 (li.take j)) (by omega)
                              have hrl20 := HSM.out.len hrow
                              have hps := passL_step but lk1 hx
                              have HENK : Hid (∀ W, Below wr.heap.size wr W → Calls Try.prog 40 #[.slice A2 n2 c2, .int .i64 iN] W (RowO w W but)) := Lib.hid fun W hW => by rw [HBUT.out]; exact HEN.out W (hXb.trans (hW.mono (by omega))) iN hil
                              by_cases hm : x ∈ but
                              · rw [if_pos hm] at hps
                                have HHAS : Hid (∀ (A9 : Option Addr) (n9 c9 : Nat), RdL intC 1 w (.slice A9 n9 c9) but → Calls Try.prog 22 #[.slice A9 n9 c9, .int .i64 x] wr fun e w' => e = .returned (.bool true) ∧ wr = w') := Lib.hid fun A9 n9 c9 h9 => by
                                  have h := hasI_any A9 n9 c9 but x wr (h9.next hXb)
                                  rwa [memB_yes hm] at h
                                rw [← hps] at HM HSM
                                clear hx hxU hrow hrl20 hps hm
                                go_wp2_with (first
                                  | (go_at_call 40; (with_reducible refine (HENK.out _ (by (repeat' (first | (with_reducible exact Below.refl _ _) | (with_reducible assumption) | (with_reducible refine Below.setCell ?_ ?_ _) | (with_reducible refine Below.alloc ?_ ?_ _) | (with_reducible refine Below.drew ?_) | (with_reducible refine below_drewN ?_ _) | (with_reducible refine below_next ?_ (by with_reducible assumption)) | omega | (dsimp only; omega) | (simp only [World.size_alloc, World.size_setCell, World.size_drew, World.heap_drewN]; omega))))).mono ?_); rintro e w4 ⟨A9, c9, rfl, hr9, rfl⟩; have HHX := Lib.hid (HHAS.out _ _ _ hr9); clear hr9)
                                  | (go_at_call 22; (with_reducible refine HHX.out.mono ?_); rintro e w8 ⟨rfl, rfl⟩))
                                go_roundw
                                case rel => exact ⟨j + 1, by omega, by go_num, hXb, hXq, HM, HSM, HOW, HMT, HRK⟩
                                case measure => simp [intOf]; omega
                              · rw [if_neg hm] at hps
                                have HHAS : Hid (∀ (A9 : Option Addr) (n9 c9 : Nat), RdL intC 1 w (.slice A9 n9 c9) but → Calls Try.prog 22 #[.slice A9 n9 c9, .int .i64 x] wr fun e w' => e = .returned (.bool false) ∧ wr = w') := Lib.hid fun A9 n9 c9 h9 => by
                                  have h := hasI_any A9 n9 c9 but x wr (h9.next hXb)
                                  rwa [memB_no hm] at h
                                have HS4 := HSM.out.add hrow hxU
                                rw [List.set_set, ← hps] at HS4
                                obtain ⟨A7, c7, p7, f7, _, _, hb0, hadd, hput⟩ := HM.out.addRow hrow (by omega) hXz
                                have HADD := Lib.hid (hadd x)
                                have HPUT := Lib.hid (hput x)
                                have HPS := Lib.hid hps
                                have HS6 := Lib.hid HS4
                                obtain ⟨l7, hl7⟩ : ∃ l7, l7 = Sol.passL but lk1 (li.take j) := ⟨_, rfl⟩
                                rw [← hl7] at p7 HADD HPUT HPS
                                clear hx hxU hrow hrl20 hps hm HS4 hadd hput hl7
                                go_wp2_with (first
                                  | (go_at_call 40; (with_reducible refine (HENK.out _ (by (repeat' (first | (with_reducible exact Below.refl _ _) | (with_reducible assumption) | (with_reducible refine Below.setCell ?_ ?_ _) | (with_reducible refine Below.alloc ?_ ?_ _) | (with_reducible refine Below.drew ?_) | (with_reducible refine below_drewN ?_ _) | (with_reducible refine below_next ?_ (by with_reducible assumption)) | omega | (dsimp only; omega) | (simp only [World.size_alloc, World.size_setCell, World.size_drew, World.heap_drewN]; omega))))).mono ?_); rintro e w4 ⟨A9, c9, rfl, hr9, rfl⟩; have HHX := Lib.hid (HHAS.out _ _ _ hr9); clear hr9)
                                  | (go_at_call 22; (with_reducible refine HHX.out.mono ?_); rintro e w8 ⟨rfl, rfl⟩))
                                refine wp_region_held_drew (S := fun W => Below w.heap.size w W ∧ W.cell? ⟨b3, off3 + j4, none⟩ = some (.int .i64 yN)) (by kernel_rfl) ⟨hXb.drew, p3⟩ (fun hHeld => ?_)
                                refine takeR (i := 0) (some 124) (v := ?_) rfl rfl (by kernel_rfl) (by kernel_rfl) (by kernel_rfl) (fun _ _ _ h => h) (Or.inl ⟨by rfl, ?_⟩) (by assumption) ?_
                                rotate_left
                                (focus (intro W hSw; (try dsimp only at hSw); have p3 := hSw.2; go_simp; (try with_reducible rfl)))
                                (try simp only [Act.put, List.setIfInBounds_toArray, List.set_cons_zero, List.set_cons_succ])
                                refine takeR (i := 1) (some 125) (v := ?_) rfl rfl (by kernel_rfl) (by kernel_rfl) (by kernel_rfl) (fun _ _ _ h => h) (Or.inl ⟨by rfl, ?_⟩) (by assumption) ?_
                                rotate_left
                                (focus (intro W hSw; (try dsimp only at hSw); have p3 := hSw.2; go_simp; (try with_reducible rfl)))
                                (try simp only [Act.put, List.setIfInBounds_toArray, List.set_cons_zero, List.set_cons_succ])
                                refine takeR (i := 2) (some 126) (v := ?_) rfl rfl (by kernel_rfl) (by kernel_rfl) (by kernel_rfl) (fun _ _ _ h => h) (Or.inl ⟨by rfl, ?_⟩) (by assumption) ?_
                                rotate_left
                                (focus (intro W hSw; (try dsimp only at hSw); have p3 := hSw.2; go_simp; (try with_reducible rfl)))
                                (try simp only [Act.put, List.setIfInBounds_toArray, List.set_cons_zero, List.set_cons_succ])
                                refine takeR (i := 3) (some 127) (v := ?_) rfl rfl (by kernel_rfl) (by kernel_rfl) (by kernel_rfl) (fun _ _ _ h => h) (Or.inl ⟨by rfl, ?_⟩) (by assumption) ?_
                                rotate_left
                                (focus (intro W hSw; (try dsimp only at hSw); have p3 := hSw.2; go_simp; (try with_reducible rfl)))
                                (try simp only [Act.put, List.setIfInBounds_toArray, List.set_cons_zero, List.set_cons_succ])
                                refine takeR (i := 4) (some 128) (v := ?_) rfl rfl (by kernel_rfl) (by kernel_rfl) (by kernel_rfl) (fun _ _ _ h => h) (Or.inl ⟨by rfl, ?_⟩) (by assumption) ?_
                                rotate_left
                                (focus (intro W hSw; (try dsimp only at hSw); have p3 := hSw.2; go_simp; (try with_reducible rfl)))
                                (try simp only [Act.put, List.setIfInBounds_toArray, List.set_cons_zero, List.set_cons_succ])
                                refine takeR (i := 5) (some 129) (v := ?_) rfl rfl (by kernel_rfl) (by kernel_rfl) (by kernel_rfl) (fun _ _ _ h => h) (Or.inl ⟨by rfl, ?_⟩) (by assumption) ?_
                                rotate_left
                                (focus (intro W hSw; (try dsimp only at hSw); have p3 := hSw.2; go_simp; (try with_reducible rfl)))
                                (try simp only [Act.put, List.setIfInBounds_toArray, List.set_cons_zero, List.set_cons_succ])
                                refine takeR (i := 6) (some 130) (v := ?_) rfl rfl (by kernel_rfl) (by kernel_rfl) (by kernel_rfl) (fun _ _ _ h => h) (Or.inl ⟨by rfl, ?_⟩) (by assumption) ?_
                                rotate_left
                                (focus (intro W hSw; (try dsimp only at hSw); have p3 := hSw.2; go_simp; (try with_reducible rfl)))
                                (try simp only [Act.put, List.setIfInBounds_toArray, List.set_cons_zero, List.set_cons_succ])
                                refine takeR (i := 7) (some 131) (v := ?_) rfl rfl (by kernel_rfl) (by kernel_rfl) (by kernel_rfl) (fun _ _ _ h => h) (Or.inl ⟨by rfl, ?_⟩) (by assumption) ?_
                                rotate_left
                                (focus (intro W hSw; (try dsimp only at hSw); have p3 := hSw.2; go_simp; (try with_reducible rfl)))
                                (try simp only [Act.put, List.setIfInBounds_toArray, List.set_cons_zero, List.set_cons_succ])
                                refine takeR (i := 8) (some 132) (v := ?_) rfl rfl (by kernel_rfl) (by kernel_rfl) (by kernel_rfl) (fun _ _ _ h => h) (Or.inl ⟨by rfl, ?_⟩) (by assumption) ?_
                                rotate_left
                                (focus (intro W hSw; (try dsimp only at hSw); have p3 := hSw.2; go_simp; (try with_reducible rfl)))
                                (try simp only [Act.put, List.setIfInBounds_toArray, List.set_cons_zero, List.set_cons_succ])
                                refine takeR (i := 9) (some 133) (v := ?_) rfl rfl (by kernel_rfl) (by kernel_rfl) (by kernel_rfl) (fun _ _ _ h => h) (Or.inl ⟨by rfl, ?_⟩) (by assumption) ?_
                                rotate_left
                                (focus (intro W hSw; (try dsimp only at hSw); have p3 := hSw.2; go_simp; (try with_reducible rfl)))
                                (try simp only [Act.put, List.setIfInBounds_toArray, List.set_cons_zero, List.set_cons_succ])
                                refine takeR (i := 10) (some 134) (v := ?_) rfl rfl (by kernel_rfl) (by kernel_rfl) (by kernel_rfl) (fun _ _ _ h => h) (Or.inl ⟨by rfl, ?_⟩) (by assumption) ?_
                                rotate_left
                                (focus (intro W hSw; (try dsimp only at hSw); have p3 := hSw.2; go_simp; (try with_reducible rfl)))
                                (try simp only [Act.put, List.setIfInBounds_toArray, List.set_cons_zero, List.set_cons_succ])
                                refine takeR (i := 12) (some 136) (v := ?_) rfl rfl (by kernel_rfl) (by kernel_rfl) (by kernel_rfl) (fun _ _ _ h => h) (Or.inl ⟨by rfl, ?_⟩) (by assumption) ?_
                                rotate_left
                                (focus (intro W hSw; (try dsimp only at hSw); have p3 := hSw.2; go_simp; (try with_reducible rfl)))
                                (try simp only [Act.put, List.setIfInBounds_toArray, List.set_cons_zero, List.set_cons_succ])
                                refine wpAnyH_ready (rs := [11]) (by kernel_rfl) (by simp) ?_
                                refine AllReadyH.cons rfl (fun K hK => ?_) AllReadyH.nil
                                go_simp
                                refine hK.out _ _ ⟨hXb.drew, p3⟩ (fun hHeld => ?_)
                                (try simp only [Act.put, List.setIfInBounds_toArray, List.set_cons_zero, List.set_cons_succ])
                                refine wpAnyH_ready (rs := [13]) (by kernel_rfl) (by simp) ?_
                                refine AllReadyH.cons rfl (fun K hK => ?_) AllReadyH.nil
                                go_simp
                                (go_at_call 34; (with_reducible refine (HADD.out _ (by (repeat' (first | (with_reducible exact Below.refl _ _) | (with_reducible assumption) | (with_reducible refine Below.setCell ?_ ?_ _) | (with_reducible refine Below.alloc ?_ ?_ _) | (with_reducible refine Below.drew ?_) | (with_reducible refine below_drewN ?_ _) | (with_reducible refine below_next ?_ (by with_reducible assumption)) | omega | (dsimp only; omega) | (simp only [World.size_alloc, World.size_setCell, World.size_drew, World.heap_drewN]; omega))))).mono ?_); rintro e w7 ⟨A9', c9', rfl, hb7, hor⟩; obtain ⟨hM7, ⟨u7, hq7⟩, hf7⟩ := HPUT.out _ w7 A9' c9' (by (repeat' (first | (with_reducible exact Below.refl _ _) | (with_reducible assumption) | (with_reducible refine Below.setCell ?_ ?_ _) | (with_reducible refine Below.alloc ?_ ?_ _) | (with_reducible refine Below.drew ?_) | (with_reducible refine below_drewN ?_ _) | (with_reducible refine below_next ?_ (by with_reducible assumption)) | omega | (dsimp only; omega) | (simp only [World.size_alloc, World.size_setCell, World.size_drew, World.heap_drewN]; omega)))) hb7 hor; have HM7 := Lib.hid hM7; clear hM7 hor)
                                have hb7' : Below wr.heap.size wr w7 := Below.trans (a := wr) (by (repeat' (first | (with_reducible exact Below.refl _ _) | (with_reducible assumption) | (with_reducible refine Below.setCell ?_ ?_ _) | (with_reducible refine Below.alloc ?_ ?_ _) | (with_reducible refine Below.drew ?_) | (with_reducible refine below_drewN ?_ _) | (with_reducible refine below_next ?_ (by with_reducible assumption)) | omega | (dsimp only; omega) | (simp only [World.size_alloc, World.size_setCell, World.size_drew, World.heap_drewN]; omega)))) hb7
                                have hz7 := hb7'.size
                                have p37 := (hb7'.cell (p := ⟨b3, off3 + j4, none⟩) hb3).trans p3
                                have hbx7 : Below w.heap.size w w7 := hXb.trans (hb7'.mono hXz)
                                refine hK.out _ _ ⟨hbx7, p37⟩ (fun hHeld => ?_)
                                (try simp only [Act.put, List.setIfInBounds_toArray, List.set_cons_zero, List.set_cons_succ])
                                refine takeR (i := 14) (some 138) (v := ?_) rfl rfl (by kernel_rfl) (by kernel_rfl) (by kernel_rfl) (fun _ _ _ h => h) (Or.inl ⟨by rfl, ?_⟩) (by assumption) ?_
                                rotate_left
                                (focus (intro W hSw; (try dsimp only at hSw); have p3 := hSw.2; go_simp; (try with_reducible rfl)))
                                (try simp only [Act.put, List.setIfInBounds_toArray, List.set_cons_zero, List.set_cons_succ])
                                refine wpAnyH_ready (rs := [15]) (by kernel_rfl) (by simp) ?_
                                refine AllReadyH.cons rfl (fun K hK => ?_) AllReadyH.nil
                                go_simp
                                have hbw7 : Below w.heap.size w (w7.setCell ⟨w.heap.size, yN, none⟩ (.slice A9' (Sol.addI l7 x).length c9')) := hbx7.setCell (Nat.le_refl _) _
                                have hkp : ∀ b, b ≠ w.heap.size → (w7.setCell ⟨w.heap.size, yN, none⟩ (.slice A9' (Sol.addI l7 x).length c9')).heap[b]? = w7.heap[b]? := by
                                  intro b hb
                                  simp only [World.setCell, Array.getElem?_modify]
                                  rw [if_neg (Ne.symm hb)]
                                have p38 := (World.cell?_of_block (a := ⟨b3, off3 + j4, none⟩) (hkp b3 (by omega))).trans p37
                                have HOW7 : Hid (OwnL 3 intC 1 wq.heap.size (w7.setCell ⟨w.heap.size, yN, none⟩ (.slice A9' (Sol.addI l7 x).length c9')) (.slice (some ⟨b3, off3, none⟩) l.length c6) l) := Lib.hid ((HOW.out.next hb7').keep fun q hq => hkp q (by have h1 := (HOW.out.lt hq).1; omega))
                                have HMT7 : Hid (BoolR 4 (w7.setCell ⟨w.heap.size, yN, none⟩ (.slice A9' (Sol.addI l7 x).length c9')) bm met) := Lib.hid ((HMT.out.next hb7').block (hkp bm hbm))
                                have HM8 : Hid (OwnM 3 28 w.heap.size (w7.setCell ⟨w.heap.size, yN, none⟩ (.slice A9' (Sol.addI l7 x).length c9')) w.heap.size (cm.set yN (Sol.passL but lk1 (li.take (j + 1))))) := Lib.hid (by
                                  have h := HM7.out
                                  rw [List.set_set] at h
                                  rw [HPS.out]
                                  exact h)
                                have HRK7 : Hid (RdL intC 1 (w7.setCell ⟨w.heap.size, yN, none⟩ (.slice A9' (Sol.addI l7 x).length c9')) (.slice (some ⟨b5, off5, none⟩) li.length c8') li) := Lib.hid (HRK.out.past HNE8.out hb7')
                                clear hkp HM7
                                refine hK.out _ _ ⟨hbw7, p38⟩ (fun hHeld => ?_)
                                (try simp only [Act.put, List.setIfInBounds_toArray, List.set_cons_zero, List.set_cons_succ])
                                refine wpAnyH_done (by kernel_rfl) ?_ _
                                go_wp2
                                go_roundw
                                case rel => exact ⟨j + 1, by omega, by go_num, hbw7, by simp; omega, HM8, HS6, HOW7, HMT7, HRK7⟩
                                case measure => simp [intOf]; omega
                            · have HFI : Hid (cm.set yN (Sol.passL but lk1 (li.take j)) = Sol.goIn ends iN (Sol.makeIn makes iN a2 yN) yN) := Lib.hid (by
                                unfold Sol.goIn
                                rw [← HCM.out, Int.toNat_natCast, Int.toNat_natCast, HLI.out, HLK1.out, ← HBUT.out, List.take_of_length_le (by omega)])
                              obtain ⟨af, haf⟩ : ∃ af, af = Sol.goIn ends iN (Sol.makeIn makes iN a2 yN) yN := ⟨_, rfl⟩
                              rw [HFI.out, ← haf] at HM HSM
                              have hlaf : af.length = N := by rw [haf, ← HFI.out, List.length_set]; exact hlb
                              obtain ⟨lf, hlf⟩ : ∃ lf, af[yN]? = some lf := ⟨_, List.getElem?_eq_getElem (by omega)⟩
                              have hlf20 := HSM.out.len hlf
                              have hst : (l.take (j4 + 1)).foldl (Sol.fwdE makes ends iN) (a1, mv1) = (af, mv2 || decide (lk.length < lf.length)) := by
                                rw [HST4.out]
                                unfold Sol.fwdE
                                dsimp only
                                rw [← haf, Int.toNat_natCast, getD_of hlf, HLK.out]
                              have HSF := Lib.hid hst
                              obtain ⟨A7, c7, p7, f7, _, _, hb0, _, _⟩ := HM.out.addRow hlf (by omega) hXz
                              clear haf hlf hst HFI
                              cases mv2 with
                              | true =>
                                rw [Bool.true_or] at HSF
                                go_wp2
                                go_roundw
                                case rel => exact ⟨j4 + 1, (af, true), by omega, by go_num, rfl, hXb, hXq, hlaf, HM, HMT, HSM, HOW, HSF⟩
                                case measure => simp [intOf]; omega
                              | false =>
                                rw [Bool.false_or] at HSF
                                go_wp2
                                go_roundw
                                case rel => exact ⟨j4 + 1, (af, decide (lk.length < lf.length)), by omega, by go_num, by simp, hXb, hXq, hlaf, HM, HMT, HSM, HOW, HSF⟩
                                case measure => simp [intOf]; omega
                    · have HSE : Hid (((List.range N).take (iN + 1)).foldl (Sol.fwdI G makes ends met) (a0, false) = (a2, mv2)) := Lib.hid (by
                        have h := HFJ.out
                        rw [List.take_of_length_le (by omega)] at h
                        rw [HST.out]; exact h)
                      go_wp2
                      go_roundw
                      case rel => exact ⟨iN + 1, (a2, mv2), by omega, by go_num, rfl, hXb, hla, HM, HMT, HSM, HSE⟩
                      case measure => simp [intOf]; omega
              · obtain rfl : iN = N := by omega
                have hsw : Sol.sweepF G makes ends met a0 = (a1, mv1) := by
                  have h := HFK.out
                  rw [List.take_of_length_le (by simp), HN.out] at h
                  exact h
                obtain ⟨q1, q1s, q2, q3⟩ := Sol.sweepF_law (e := (eN : Int)) (start := start) (makes := makes) (ends := ends) HG.out HE2.out (a := a0) (by rw [← HN.out, ← HU.out]; exact HI.out) (by rw [Int.toNat_natCast]; exact HIS.out)
                simp only [← HMET.out, hsw, ← HN.out, ← HU.out, Int.toNat_natCast] at q1 q1s q2 q3
                have hk1 : gk = gk - 1 + 1 := by have := HK2.out; omega
                have HQ2 : Hid (mv1 = true → Sol.roomOf U.length a1 < gk - 1) := Lib.hid fun h => by have h1 := q2 h; have h2 := HK2.out; omega
                have HQ3 := Lib.hid q3
                have HQ1 := Lib.hid q1
                have HQS := Lib.hid q1s
                clear hsw q1 q1s q2 q3 HFK
                go_wp2
                go_roundg (gk - 1)
                case measure => omega
                case rel => exact ⟨a1, mv1, rfl, hXb, HM, HMT, HQ1, HQS, HQ2, HQ3⟩
  · have HSOL : Hid (Sol.IsSol G.length (Sol.InF G en start makes ends) (List.replicate N [])) := Lib.hid (by rw [HN.out]; exact fwd_none (by rw [← HN.out]; exact hen))
    unfold Sol.InR at hen
    by_cases h0 : en < 0
    · have d1 : decide (en < 0) = true := by simpa using h0
      clear hen
      have hA1 := cell_alloc_if
      have hA2 := frozen_alloc_if
      have hA3 := cell_set_if
      go_enter Try.func21, Try.ntmps21
      go_wp2_with (first
        | (refine wpList_make_full _ rfl (.tmp 25) (.tmp 25) 22 rfl w.heap.size 28 j0 _ 1 Try.underlying22 hj0 hy0 hy1 .i64 .i64 N N N rfl rfl rfl rfl ?m1 ?m2 ?m3 ?_))
      case m1 => first | (rw [hy2]; omega) | omega
      case m2 => unfold maxLen; omega
      try (case m3 => exact Nat.le_refl _)
      intro w1 hrow hg1
      rw [toList_madeCells_one] at hrow
      have hblk := block_full hrow
      have hbw1 : Below w.heap.size w w1 := (Below.refl _ _).grown hg1 (Nat.le_refl _) (fun k hk => by cases hk)
      have HM0 : Hid (OwnM 3 28 w.heap.size w1 w.heap.size (List.replicate N [])) := Lib.hid ⟨_, OwnV.made (Nat.le_refl _) (by simpa using hblk)⟩
      clear hrow hg1 hblk
      go_wp2_with (go_at_call 11; (with_reducible refine (HRE.out _ (by (repeat' (first | (with_reducible exact Below.refl _ _) | (with_reducible assumption) | (with_reducible refine Below.setCell ?_ ?_ _) | (with_reducible refine Below.alloc ?_ ?_ _) | (with_reducible refine Below.drew ?_) | (with_reducible refine below_drewN ?_ _) | (with_reducible refine below_next ?_ (by with_reducible assumption)) | omega | (dsimp only; omega) | (simp only [World.size_alloc, World.size_setCell, World.size_drew, World.heap_drewN]; omega))))).mono ?_); rintro e w2 ⟨bm, rfl, hbm2, hb2⟩; have HMT := Lib.hid hbm2; have hz2' := hb2.size; clear hbm2; (try rw [HLM.out]))
      go_ret
      exact ⟨_, HSOL.out, by simp, HM0.out.next hb2, hbw1.trans (hb2.mono hbw1.size)⟩
    · have d1 : decide (en < 0) = false := by simpa using h0
      have h2 : (N : Int) ≤ en := by omega
      have d2 : decide ((N : Int) ≤ en) = true := by simpa using h2
      clear hen
      have hA1 := cell_alloc_if
      have hA2 := frozen_alloc_if
      have hA3 := cell_set_if
      go_enter Try.func21, Try.ntmps21
      go_wp2_with (first
        | (refine wpList_make_full _ rfl (.tmp 25) (.tmp 25) 22 rfl w.heap.size 28 j0 _ 1 Try.underlying22 hj0 hy0 hy1 .i64 .i64 N N N rfl rfl rfl rfl ?m1 ?m2 ?m3 ?_))
      case m1 => first | (rw [hy2]; omega) | omega
      case m2 => unfold maxLen; omega
      try (case m3 => exact Nat.le_refl _)
      intro w1 hrow hg1
      rw [toList_madeCells_one] at hrow
      have hblk := block_full hrow
      have hbw1 : Below w.heap.size w w1 := (Below.refl _ _).grown hg1 (Nat.le_refl _) (fun k hk => by cases hk)
      have HM0 : Hid (OwnM 3 28 w.heap.size w1 w.heap.size (List.replicate N [])) := Lib.hid ⟨_, OwnV.made (Nat.le_refl _) (by simpa using hblk)⟩
      clear hrow hg1 hblk
      go_wp2_with (go_at_call 11; (with_reducible refine (HRE.out _ (by (repeat' (first | (with_reducible exact Below.refl _ _) | (with_reducible assumption) | (with_reducible refine Below.setCell ?_ ?_ _) | (with_reducible refine Below.alloc ?_ ?_ _) | (with_reducible refine Below.drew ?_) | (with_reducible refine below_drewN ?_ _) | (with_reducible refine below_next ?_ (by with_reducible assumption)) | omega | (dsimp only; omega) | (simp only [World.size_alloc, World.size_setCell, World.size_drew, World.heap_drewN]; omega))))).mono ?_); rintro e w2 ⟨bm, rfl, hbm2, hb2⟩; have HMT := Lib.hid hbm2; have hz2' := hb2.size; clear hbm2; (try rw [HLM.out]))
      go_ret
      exact ⟨_, HSOL.out, by simp, HM0.out.next hb2, hbw1.trans (hb2.mono hbw1.size)⟩
end Go.Proofs.Ytadcjmfednachaa
