/-
  The reference's Reach.
-/
import Derived.Test.YtadcjmfednachaaSolW7
namespace Go.Proofs.Ytadcjmfednachaa
open Go.RowKit
set_option linter.unusedVariables false
set_option linter.unusedSimpArgs false

theorem relaxI_zero (G : List (List Int)) (st : List Bool × Bool) : (List.range 0).foldl (Sol.relaxI G) st = st := rfl
theorem relaxI_succ (G : List (List Int)) (st : List Bool × Bool) (i : Nat) : (List.range (i + 1)).foldl (Sol.relaxI G) st = Sol.relaxI G ((List.range i).foldl (Sol.relaxI G) st) i := by
  rw [List.range_succ, List.foldl_append]; rfl
theorem relaxE_snoc (i : Nat) (l : List Int) (st : List Bool × Bool) (y : Int) : (l ++ [y]).foldl (Sol.relaxE i) st = Sol.relaxE i (l.foldl (Sol.relaxE i) st) y := by
  rw [List.foldl_append]; rfl
theorem relaxE_len (i : Nat) : ∀ (l : List Int) (st : List Bool × Bool), (l.foldl (Sol.relaxE i) st).1.length = st.1.length
  | [], st => rfl
  | y :: l, st => by
    rw [List.foldl_cons, relaxE_len i l]
    unfold Sol.relaxE
    split <;> simp
theorem relaxI_len (G : List (List Int)) : ∀ (l : List Nat) (st : List Bool × Bool), (l.foldl (Sol.relaxI G) st).1.length = st.1.length
  | [], st => rfl
  | y :: l, st => by
    rw [List.foldl_cons, relaxI_len G l]
    exact relaxE_len _ _ _
theorem unm_le (out : List Bool) : Sol.unm out ≤ out.length := List.countP_le_length
/-- What is there in the midst of the sweeps. -/
structure RchS (w wr : World) (out : List Bool) : Prop where
  low : Below w.heap.size w wr
  row : BoolR 4 wr w.heap.size out
theorem RchS.next {w wr wr' : World} {out : List Bool} (h : RchS w wr out) (hb : Below wr.heap.size wr wr') : RchS w wr' out := ⟨h.low.trans (hb.mono h.low.size), h.row.next hb⟩
theorem RchS.set {w wr : World} {out : List Bool} (h : RchS w wr out) (i : Nat) : RchS w (wr.setCell ⟨w.heap.size, i, none⟩ (.bool true)) (out.set i true) := ⟨h.low.setCell (Nat.le_refl _) _, h.row.set i true⟩
set_option maxRecDepth 100000 in
set_option maxHeartbeats 4000000 in
theorem rreach_any (A : Option Addr) (n c : Nat) (m : List (List Int)) (en : Int) (w : World) (hs : RdM w (.slice A n c) m) (hn : m.length ≤ 1048576) (hr20 : ∀ l ∈ m, l.length ≤ 1048576) :
    Calls Try.prog 11 #[.slice A n c, .int .i64 en] w (BoolP w (Sol.reachB (Sol.cleanG m) en)) := by
  obtain ⟨j0, hj0, hy0, hy1, hy2⟩ := info_parts bool_info
  obtain ⟨A', c', e⟩ := hs.form
  injection e with e1 e2 e3
  subst e2
  clear e1 e3 A' c'
  obtain ⟨N, hN⟩ : ∃ N, N = (Sol.cleanG m).length := ⟨_, rfl⟩
  have hNm : N = m.length := by rw [hN, Sol.cleanG_length]
  have hn' : N ≤ 1048576 := by omega
  rw [← hNm] at hs hn ⊢
  have HFO : Hid (∀ W, Below w.heap.size w W → ∀ i : Nat, i < N → Calls Try.prog 29 #[.slice A N c, .int .i64 i] W (OwnP W (Sol.rowI (Sol.cleanG m) i))) := Lib.hid fun W hW i hi => follows_any A N c m i W (hs.next hW) (by omega) hr20
  have HN := Lib.hid hN
  have hG := Sol.cln_clean m
  have HG := Lib.hid hG
  have HR := Lib.hid (clean_rows hr20)
  by_cases hen : Sol.InR N en
  · have hen2 : Sol.InR (Sol.cleanG m).length en := by rw [← hN]; exact hen
    have HE2 := Lib.hid hen2
    have HST := Lib.hid (Sol.RInv.start hen2)
    unfold Sol.InR at hen
    obtain ⟨eN, rfl⟩ : ∃ k : Nat, en = (k : Int) := ⟨en.toNat, by omega⟩
    have heN : eN < N := by omega
    have d1 : decide ((eN : Int) < 0) = false := by simp
    have d2 : decide ((N : Int) ≤ (eN : Int)) = false := by simp; omega
    have d3 : decide (N ≤ eN) = false := by simp; omega
    obtain ⟨G, hGG⟩ : ∃ G, G = Sol.cleanG m := ⟨_, rfl⟩
    rw [← hGG] at HFO HN HG HR HE2 HST ⊢
    clear hs hn hr20 hN hNm hG hen hen2 hGG
    have hA1 := cell_alloc_if
    have hA2 := frozen_alloc_if
    have hA3 := cell_set_if
    go_enter Try.func11, Try.ntmps11
    go_wp2_with (refine wpList_make_full _ rfl (.tmp 11) (.tmp 11) 25 rfl w.heap.size 4 j0 _ 1 Try.underlying25 hj0 hy0 hy1 .i64 .i64 N N N rfl rfl rfl rfl ?m1 ?m2 ?m3 ?_)
    case m1 => rw [hy2]; omega
    case m2 => unfold maxLen; omega
    case m3 => exact Nat.le_refl _
    intro w2 hrow hg2
    rw [toList_madeCells_one] at hrow
    have hblk := block_full hrow
    have hbw2 : Below w.heap.size w w2 := (Below.refl _ _).grown hg2 (Nat.le_refl _) (fun k hk => by cases hk)
    have hlt2 : w.heap.size < w2.heap.size := (Array.getElem?_eq_some_iff.1 hblk).1
    have hbr : BoolR 4 w2 w.heap.size (List.replicate N false) := by unfold BoolR; rw [hblk]; simp
    have h1c := hbr.at_ (i := eN) (by simpa using heN)
    rw [getD_replicate] at h1c
    obtain ⟨q1, q2⟩ := h1c
    have HS0 : Hid (RchS w (w2.setCell ⟨w.heap.size, eN, none⟩ (.bool true)) ((List.replicate N false).set eN true)) := Lib.hid ⟨hbw2.setCell (Nat.le_refl _) _, hbr.set eN true⟩
    clear hrow hg2 hblk hbr
    go_wp2
    go_loopg [6] (N + 1) (fun gk mo wr => ∃ (out : List Bool) (mv : Bool), mo = .bool mv ∧ w.heap.size < wr.heap.size ∧ Hid (RchS w wr out) ∧ Hid (Sol.RInv G eN out) ∧ Hid (mv = true → Sol.unm out < gk) ∧ Hid (mv = false → out = Sol.reachB G eN))
    case atStart =>
      refine ⟨_, true, rfl, by simpa using hlt2, HS0, Lib.hid ?_, Lib.hid fun _ => ?_, Lib.hid fun h => by cases h⟩
      · have h := HST.out
        rw [Int.toNat_natCast, ← HN.out] at h
        exact h
      · have := unm_le ((List.replicate N false).set eN true)
        simp at this
        omega
    case round =>
      clear hbw2 hlt2 q1 q2 HS0 HST
      obtain ⟨out0, mv, rfl, hsz, HS, HI, HM, HF⟩ := hrel
      cases mv with
      | false =>
        have HE : Hid (out0 = Sol.reachB G eN) := Lib.hid (HF.out rfl)
        go_wp2
        go_ret
        exact ⟨w.heap.size, by rw [← HE.out, HI.out.len, ← HN.out]; rfl, by rw [← HE.out]; exact HS.out.row, HS.out.low⟩
      | true =>
        have HM2 : Hid (Sol.unm out0 < gk) := Lib.hid (HM.out rfl)
        clear HM HF
        go_wp2
        obtain ⟨wo, rfl⟩ : ∃ wo, wo = wr := ⟨_, rfl⟩
        go_loopw [6, 7] (fun mo i wr => ∃ (k : Nat) (st : List Bool × Bool), k ≤ N ∧ i = .int .i64 k ∧ mo = .bool st.2 ∧ w.heap.size < wr.heap.size ∧ st.1.length = N ∧ Hid (RchS w wr st.1) ∧ Hid ((List.range k).foldl (Sol.relaxI G) (out0, false) = st)) (fun _ i _ => N - (intOf i).toNat)
        case atStart => exact ⟨0, (out0, false), by omega, rfl, rfl, hsz, HI.out.len.trans HN.out.symm, HS, Lib.hid rfl⟩
        case round =>
          clear hsz HS
          obtain ⟨k, st, hk, rfl, rfl, hsz, hsl, HS, HFL⟩ := hrel
          obtain ⟨out1, mv1⟩ := st
          dsimp only at hsl HS ⊢
          by_cases hlt : k < N
          · have HFK : Hid (∀ W, Below wr.heap.size wr W → Calls Try.prog 29 #[.slice A N c, .int .i64 k] W (OwnP W (Sol.rowI G k))) := Lib.hid fun W hW => HFO.out W (HS.out.low.trans (hW.mono (by omega))) k hlt
            go_wp2_with (go_at_call 29; (with_reducible refine (HFK.out _ (by (repeat' (first | (with_reducible exact Below.refl _ _) | (with_reducible assumption) | (with_reducible refine Below.setCell ?_ ?_ _) | (with_reducible refine Below.alloc ?_ ?_ _) | (with_reducible refine Below.drew ?_) | (with_reducible refine below_drewN ?_ _) | (with_reducible refine below_next ?_ (by with_reducible assumption)) | omega | (dsimp only; omega) | (simp only [World.size_alloc, World.size_setCell, World.size_drew, World.heap_drewN]; omega))))).mono ?_); rintro e w4 ⟨A4, c4, rfl, how, hb4⟩; have HOW := Lib.hid how; have hz4 := hb4.size; clear how)
            obtain ⟨l, hl⟩ : ∃ l, l = Sol.rowI G k := ⟨_, rfl⟩
            have hl20 : l.length ≤ 1048576 := by
              rw [hl]
              unfold Sol.rowI
              rw [List.getD_eq_getElem?_getD]
              cases hg : G[(k : Int).toNat]? with
              | none => simp
              | some r => exact HR.out r (List.mem_of_getElem? hg)
            have HIN : Hid (∀ y ∈ l, Sol.InR N y) := Lib.hid fun y hy => by rw [HN.out]; exact HG.out k y (hl ▸ hy)
            have HL := Lib.hid hl
            rw [← hl] at HOW ⊢
            have HS4 : Hid (RchS w w4 out1) := Lib.hid (HS.out.next hb4)
            have hwr4 : wr.heap.size ≤ w4.heap.size := hz4
            clear hl
            obtain ⟨w5, rfl⟩ : ∃ w5, w5 = wr := ⟨_, rfl⟩
            go_loopw [6, 9] (fun mo i wr => ∃ (j : Nat) (st : List Bool × Bool), j ≤ l.length ∧ i = .int .i64 j ∧ mo = .bool st.2 ∧ w5.heap.size ≤ wr.heap.size ∧ st.1.length = N ∧ Hid (RchS w wr st.1) ∧ Hid (OwnL 3 intC 1 w5.heap.size wr (.slice A4 l.length c4) l) ∧ Hid ((l.take j).foldl (Sol.relaxE k) (out1, mv1) = st)) (fun _ i _ => l.length - (intOf i).toNat)
            case atStart => exact ⟨0, (out1, mv1), by omega, rfl, rfl, hwr4, hsl, HS4, HOW, Lib.hid rfl⟩
            case round =>
              clear hz4 hb4 HS4 hwr4 HOW
              obtain ⟨j, st, hj, rfl, rfl, hsz5, hsl5, HS5, HOW, HFJ⟩ := hrel
              obtain ⟨out2, mv2⟩ := st
              dsimp only at hsl5 HS5 ⊢
              by_cases hltj : j < l.length
              · obtain ⟨y, hy⟩ : ∃ y, l[j]? = some y := ⟨_, List.getElem?_eq_getElem hltj⟩
                have hyr := HIN.out y (List.mem_of_getElem? hy)
                unfold Sol.InR at hyr
                obtain ⟨yN, rfl⟩ : ∃ k : Nat, y = (k : Int) := ⟨y.toNat, by omega⟩
                have hyN : yN < N := by omega
                obtain ⟨b3, off3, e3, _, hb3, p3⟩ := (HOW.out.rdl intC_len).intAt hy
                obtain ⟨m1, _⟩ := HS5.out.row.at_ (i := k) (by omega)
                obtain ⟨m2, m3⟩ := HS5.out.row.at_ (i := yN) (by omega)
                subst e3
                have hown5 := HOW.out
                have hb35 : w5.heap.size ≤ b3 := (hown5.lt rfl).1
                have hst : (l.take (j + 1)).foldl (Sol.relaxE k) (out1, mv1) = Sol.relaxE k (out2, mv2) yN := by
                  rw [List.take_add_one, hy, Option.toList_some, relaxE_snoc, HFJ.out]
                unfold Sol.relaxE at hst
                dsimp only at hst
                rw [Int.toNat_natCast] at hst
                obtain ⟨vk, hvk⟩ : ∃ vk, vk = out2.getD k false := ⟨_, rfl⟩
                obtain ⟨vy, hvy⟩ : ∃ vy, vy = out2.getD yN false := ⟨_, rfl⟩
                rw [← hvk, ← hvy] at hst
                rw [← hvk] at m1
                rw [← hvy] at m2
                clear hvk hvy hy hyr hown5
                cases vk with
                | true =>
                  cases vy with
                  | false =>
                    rw [if_pos ⟨rfl, rfl⟩] at hst
                    have HST := Lib.hid hst
                    clear hst
                    go_wp2
                    go_roundw
                    case rel => exact ⟨j + 1, (out2.set yN true, true), by omega, by go_num, rfl, by simpa using hsz5, by simpa using hsl5, Lib.hid (HS5.out.set yN), Lib.hid (HOW.out.keep fun b hb => by
                      have hbb := (HOW.out.lt hb).1
                      simp only [World.setCell, Array.getElem?_modify]
                      rw [if_neg (by omega)]), HST⟩
                    case measure => simp [intOf]; omega
                  | true =>
                    rw [if_neg (by simp)] at hst
                    have HST := Lib.hid hst
                    clear hst
                    go_wp2
                    go_roundw
                    case rel => exact ⟨j + 1, (out2, mv2), by omega, by go_num, rfl, hsz5, hsl5, HS5, HOW, HST⟩
                    case measure => simp [intOf]; omega
                | false =>
                  rw [if_neg (by simp)] at hst
                  have HST := Lib.hid hst
                  clear hst
                  go_wp2
                  go_roundw
                  case rel => exact ⟨j + 1, (out2, mv2), by omega, by go_num, rfl, hsz5, hsl5, HS5, HOW, HST⟩
                  case measure => simp [intOf]; omega
              · have HST : Hid ((List.range (k + 1)).foldl (Sol.relaxI G) (out0, false) = (out2, mv2)) := Lib.hid (by
                  rw [relaxI_succ, HFL.out, ← HFJ.out, List.take_of_length_le (by omega), HL.out]; rfl)
                clear HFJ
                go_wp2
                go_roundw
                case rel => exact ⟨k + 1, (out2, mv2), by omega, by go_num, rfl, by omega, hsl5, HS5, HST⟩
                case measure => simp [intOf]; omega
          · obtain rfl : k = N := by omega
            have hsw := Sol.sweepR_law HG.out HE2.out HI.out
            have e0 : Sol.sweepR G out0 = (out1, mv1) := by unfold Sol.sweepR; rw [← HN.out]; exact HFL.out
            rw [e0] at hsw
            obtain ⟨s1, s2, s3⟩ := hsw
            have HI2 := Lib.hid s1
            have HS2 := Lib.hid s2
            have HS3 := Lib.hid s3
            have hm2 := HM2.out
            clear e0 s1 s2 s3
            go_wp2
            go_roundg (gk - 1)
            case measure => omega
            case rel => exact ⟨out1, mv1, rfl, hsz, HS, HI2, Lib.hid fun h => by have := HS2.out h; omega, HS3⟩
  · have hen2 : ¬ Sol.InR (Sol.cleanG m).length en := by rw [← hN]; exact hen
    have HRE := Lib.hid (Sol.reachB_none hen2)
    unfold Sol.InR at hen
    clear hs hn hr20 hN hNm hG hen2
    have hA1 := cell_alloc_if
    have hA2 := frozen_alloc_if
    have hA3 := cell_set_if
    by_cases h0 : 0 ≤ en
    · have h1 : (N : Int) ≤ en := by
        rcases Int.lt_or_le en N with h | h
        · exact absurd ⟨h0, h⟩ hen
        · exact h
      clear hen
      go_enter Try.func11, Try.ntmps11
      go_wp2_with (refine wpList_make_full _ rfl (.tmp 11) (.tmp 11) 25 rfl w.heap.size 4 j0 _ 1 Try.underlying25 hj0 hy0 hy1 .i64 .i64 N N N rfl rfl rfl rfl ?m1 ?m2 ?m3 ?_)
      case m1 => first | (rw [hy2]; omega) | omega
      case m2 => unfold maxLen; omega
      try (case m3 => exact Nat.le_refl _)
      intro w2 hrow hg2
      rw [toList_madeCells_one] at hrow
      have hblk := block_full hrow
      have hbw2 : Below w.heap.size w w2 := (Below.refl _ _).grown hg2 (Nat.le_refl _) (fun k hk => by cases hk)
      have HBR : Hid (BoolR 4 w2 w.heap.size (List.replicate N false)) := Lib.hid (by unfold BoolR; rw [hblk]; simp)
      clear hrow hg2 hblk
      go_wp2
      go_ret
      rw [HN.out, HRE.out] at HBR
      exact ⟨w.heap.size, by rw [Sol.reachB_length, ← HN.out]; rfl, HBR.out, hbw2⟩
    · clear hen
      go_enter Try.func11, Try.ntmps11
      go_wp2_with (refine wpList_make_full _ rfl (.tmp 11) (.tmp 11) 25 rfl w.heap.size 4 j0 _ 1 Try.underlying25 hj0 hy0 hy1 .i64 .i64 N N N rfl rfl rfl rfl ?m1 ?m2 ?m3 ?_)
      case m1 => first | (rw [hy2]; omega) | omega
      case m2 => unfold maxLen; omega
      try (case m3 => exact Nat.le_refl _)
      intro w2 hrow hg2
      rw [toList_madeCells_one] at hrow
      have hblk := block_full hrow
      have hbw2 : Below w.heap.size w w2 := (Below.refl _ _).grown hg2 (Nat.le_refl _) (fun k hk => by cases hk)
      have HBR : Hid (BoolR 4 w2 w.heap.size (List.replicate N false)) := Lib.hid (by unfold BoolR; rw [hblk]; simp)
      clear hrow hg2 hblk
      go_wp2
      go_ret
      rw [HN.out, HRE.out] at HBR
      exact ⟨w.heap.size, by rw [Sol.reachB_length, ← HN.out]; rfl, HBR.out, hbw2⟩
end Go.Proofs.Ytadcjmfednachaa
