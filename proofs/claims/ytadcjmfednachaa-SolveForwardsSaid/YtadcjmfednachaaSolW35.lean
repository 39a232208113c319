/-
  SolveGraphs.
-/
import Derived.Test.YtadcjmfednachaaSolW34
import Derived.Test.YtadcjmfednachaaSolW8
import Derived.Test.YtadcjmfednachaaSolW11
import Derived.Test.YtadcjmfednachaaSolW14
import Derived.Test.YtadcjmfednachaaSolB
namespace Go.Proofs.Ytadcjmfednachaa
open Go.RowKit Go.Maps Go.WideShapes Go.ChangeShapes Go.Deep
set_option linter.unusedVariables false
set_option linter.unusedSimpArgs false

theorem fewL_few (m : List (List Int)) : fewL (fewL m) = fewL m := by
  unfold fewL
  rw [List.take_of_length_le (by simp; omega), List.map_map]
  congr 1
  funext l
  simp [List.take_take]
theorem fewL_rows (m : List (List Int)) : ∀ l ∈ fewL m, l.length ≤ 20 := by
  intro l hl
  unfold fewL at hl
  obtain ⟨l0, _, rfl⟩ := List.mem_map.1 hl
  simp; omega
theorem fewL_le (m : List (List Int)) : (fewL m).length ≤ 40 := by rw [fewL_length]; omega
theorem eqB_self (l : List Int) : eqB l l = true := by simp [eqB]
theorem eqM_self (l : List (List Int)) : eqM l l = true := by simp [eqM]
set_option maxRecDepth 100000 in
set_option maxHeartbeats 4000000 in
theorem graphs_any (A : Option Addr) (n c : Nat) (m : List (List Int)) (en : Int) (w : World) (hs : RdM w (.slice A n c) m) :
    Calls Try.prog 3 #[.slice A n c, .int .i64 en] w fun e w' => e = .returned (.bool true) ∧ Below w.heap.size w w' := by
  have HS := Lib.hid hs
  have HX := Lib.hid (fixed_any w)
  obtain ⟨g, hg⟩ : ∃ g, g = fewL m := ⟨_, rfl⟩
  have hgr : ∀ l ∈ g, l.length ≤ 20 := by rw [hg]; exact fewL_rows m
  have hgl : g.length ≤ 40 := by rw [hg]; exact fewL_le m
  have hgg : fewL g = g := by rw [hg]; exact fewL_few m
  have HFW := Lib.hid fun (W : World) (h : RdM W (.slice A n c) m) => few_any A n c m W h
  rw [← hg] at HFW
  have HGR : Hid (∀ l ∈ g, l.length ≤ 1048576) := Lib.hid fun l hl => by have := hgr l hl; omega
  have HGG := Lib.hid hgg
  obtain ⟨rb, hrb⟩ : ∃ rb, rb = Sol.reachB (Sol.cleanG g) en := ⟨_, rfl⟩
  have hrl : rb.length ≤ 40 := by rw [hrb, Sol.reachB_length, Sol.cleanG_length]; exact hgl
  have HRB := Lib.hid hrb
  have q1 := eqB_self (ordL g en)
  have q2 := eqM_self (Sol.befG (Sol.cleanG g))
  have q3 := eqM_self g
  clear hs hg hgg hgr hrb
  have hA1 := cell_alloc_if
  have hA2 := frozen_alloc_if
  have hA3 := cell_set_if
  go_enter Try.func3, Try.ntmps3
  go_upto_region 9 with (first
    | (go_at_call 8; (with_reducible refine HX.out.mono ?_); rintro e w1 ⟨rfl, hb1⟩; have hz1 := hb1.size)
    | (go_at_call 9; (with_reducible refine (HFW.out w1 (HS.out.next hb1)).mono ?_); rintro e w2 ⟨A2, c2, rfl, hm2, hb2⟩; have HM2 := Lib.hid hm2; have hfv := few_any A2 g.length c2 g w2 hm2; rw [HGG.out] at hfv; have HFV := Lib.hid hfv; clear hfv; have hz2 := hb2.size; clear hm2)
    | (go_at_call 9; (with_reducible refine HFV.out.mono ?_); rintro e w3 ⟨A3, c3, rfl, hm3, hb3⟩; have HM3 := Lib.hid hm3; have HN3 := Lib.hid (HM2.out.next hb3); have hz3 := hb3.size; clear hm3 HFV)
    | (go_at_call 10; (with_reducible refine (reach_any _ _ _ g en w3 HM3.out (by omega) HGR.out).mono ?_); rw [← HRB.out]; rintro e w4 ⟨b4, rfl, hr4, hb4⟩; have HR4 := Lib.hid hr4; have HN4 := Lib.hid (HN3.out.next hb4); have HM4 := Lib.hid (HM3.out.next hb4); have hz4 := hb4.size; clear hr4 HM3 HN3)
    | (go_at_call 11; (with_reducible refine (rreach_any _ _ _ g en w4 HN4.out (by omega) HGR.out).mono ?_); rw [← HRB.out]; rintro e w5 ⟨b5, rfl, hr5, hb5⟩; have HR5 := Lib.hid hr5; have HN5 := Lib.hid (HN4.out.next hb5); have HM5 := Lib.hid (HM4.out.next hb5); have HQ5 := Lib.hid (HR4.out.next hb5); have hz5 := hb5.size; clear hr5 HM4 HN4 HR4)
    | (go_at_call 13; (with_reducible refine (order_any _ _ _ g en w5 HM5.out (by omega) HGR.out).mono ?_); rintro e w6 ⟨A6, c6, rfl, ho6, hb6⟩; have HO6 := Lib.hid ho6; have hz6 := hb6.size; clear ho6)
    | (go_at_call 14; (with_reducible refine (rorder_any _ _ _ g en w6 (HN5.out.next hb6) (by omega) HGR.out).mono ?_); rintro e w7 ⟨A7, c7, rfl, ho7, hb7⟩; have HP7 := Lib.hid (ho7.rdl intC_len); have HO7 := Lib.hid ((HO6.out.next hb7).rdl intC_len); have hz7 := hb7.size; clear ho7 HO6)
    | (go_at_call 12; (with_reducible refine (sameInts_any _ _ _ _ _ _ (ordL g en) (ordL g en) w7 HO7.out HP7.out).mono ?_); rintro e w8 ⟨rfl, hb8⟩; have hz8 := hb8.size; have hB58 := hb6.trans ((hb7.mono hz6).trans (hb8.mono (by omega))); clear HO7 HP7)
    | (go_at_call 16; (with_reducible refine (before_any _ _ _ g w8 (HM5.out.next hB58) (by omega) HGR.out).mono ?_); rintro e w9 ⟨rfl, hm9, hb9⟩; have HT9 := Lib.hid (hm9.rdm (by rw [Sol.befG, Sol.befP_length, Sol.cleanG_length]; unfold maxLen; omega)); have hz9 := hb9.size; have hB59 := hB58.trans (hb9.mono (by omega)); clear hm9)
    | (go_at_call 17; (with_reducible refine (rbefore_any _ _ _ g w9 (HN5.out.next hB59) (by omega) HGR.out).mono ?_); rintro e w10 ⟨rfl, hm10, hb10⟩; have HT10 := Lib.hid (hm10.rdm (by rw [Sol.befG, Sol.befP_length, Sol.cleanG_length]; unfold maxLen; omega)); have HS9 := Lib.hid (HT9.out.next hb10); have hz10 := hb10.size; have hB510 := hB59.trans (hb10.mono (by omega)); clear hm10 HT9)
    | (go_at_call 15; (with_reducible refine (same_any _ _ _ _ _ _ _ _ w10 HS9.out HT10.out).mono ?_); rintro e w11 ⟨rfl, hb11⟩; have hz11 := hb11.size; have hB511 := hB510.trans (hb11.mono (by omega)); have HM11 := Lib.hid (HM5.out.next hB511); have HN11 := Lib.hid (HN5.out.next hB511); have HQ11 := Lib.hid (HQ5.out.next hB511); have HR11 := Lib.hid (HR5.out.next hB511); clear HS9 HT10 HM5 HN5 HQ5 HR5)
    | fail)
  have hB611 : Below w.heap.size w w11 := hb1.trans ((hb2.mono hz1).trans ((hb3.mono (by omega)).trans ((hb4.mono (by omega)).trans ((hb5.mono (by omega)).trans (hB511.mono (by omega))))))
  clear hb1 hb2 hb3 hb4 hb5 hb6 hb7 hb8 hb9 hb10 hb11 hB58 hB59 hB510 hB511 q1 q2
  go_loopw [46] (fun v wr => ∃ j : Nat, j ≤ rb.length ∧ v = .int .i64 j ∧ Below w11.heap.size w11 wr) (fun v _ => rb.length - (intOf v).toNat)
  case atStart => exact ⟨0, by omega, rfl, Below.refl _ _⟩
  case round =>
    obtain ⟨j, hj, rfl, hXb⟩ := hrel
    by_cases hlt : j < rb.length
    · have t1 := ((HQ11.out.next hXb).at_ (i := j) hlt).1
      have t2 := ((HR11.out.next hXb).at_ (i := j) hlt).1
      obtain ⟨x, hx⟩ : ∃ x, x = rb.getD j false := ⟨_, rfl⟩
      rw [← hx] at t1 t2
      clear hx
      go_wp2
      refine wp_region_held_drew (S := fun W => W.cell? ⟨b4, j, none⟩ = some (.bool x) ∧ W.cell? ⟨b5, j, none⟩ = some (.bool x)) (by kernel_rfl) ⟨t1, t2⟩ (fun hHeld => ?_)
      refine takeR (i := 0) (some 49) (v := ?_) rfl rfl (by kernel_rfl) (by kernel_rfl) (by kernel_rfl) (fun _ _ _ h => h) (Or.inl ⟨by rfl, ?_⟩) (by assumption) ?_
      rotate_left
      (focus (intro Wx hSw; (try dsimp only at hSw); obtain ⟨s1, s2⟩ := hSw; go_simp; (try with_reducible rfl)))
      (try simp only [Act.put, List.setIfInBounds_toArray, List.set_cons_zero, List.set_cons_succ])
      refine takeR (i := 1) (some 50) (v := ?_) rfl rfl (by kernel_rfl) (by kernel_rfl) (by kernel_rfl) (fun _ _ _ h => h) (Or.inl ⟨by rfl, ?_⟩) (by assumption) ?_
      rotate_left
      (focus (intro Wx hSw; (try dsimp only at hSw); obtain ⟨s1, s2⟩ := hSw; go_simp; (try with_reducible rfl)))
      (try simp only [Act.put, List.setIfInBounds_toArray, List.set_cons_zero, List.set_cons_succ])
      refine takeR (i := 2) (some 51) (v := ?_) rfl rfl (by kernel_rfl) (by kernel_rfl) (by kernel_rfl) (fun _ _ _ h => h) (Or.inl ⟨by rfl, ?_⟩) (by assumption) ?_
      rotate_left
      (focus (intro Wx hSw; (try dsimp only at hSw); obtain ⟨s1, s2⟩ := hSw; go_simp; (try with_reducible rfl)))
      (try simp only [Act.put, List.setIfInBounds_toArray, List.set_cons_zero, List.set_cons_succ])
      refine takeR (i := 3) (some 52) (v := ?_) rfl rfl (by kernel_rfl) (by kernel_rfl) (by kernel_rfl) (fun _ _ _ h => h) (Or.inl ⟨by rfl, ?_⟩) (by assumption) ?_
      rotate_left
      (focus (intro Wx hSw; (try dsimp only at hSw); obtain ⟨s1, s2⟩ := hSw; go_simp; (try with_reducible rfl)))
      (try simp only [Act.put, List.setIfInBounds_toArray, List.set_cons_zero, List.set_cons_succ])
      refine takeR (i := 4) (some 53) (v := ?_) rfl rfl (by kernel_rfl) (by kernel_rfl) (by kernel_rfl) (fun _ _ _ h => h) (Or.inl ⟨by rfl, ?_⟩) (by assumption) ?_
      rotate_left
      (focus (intro Wx hSw; (try dsimp only at hSw); obtain ⟨s1, s2⟩ := hSw; go_simp; (try with_reducible rfl)))
      (try simp only [Act.put, List.setIfInBounds_toArray, List.set_cons_zero, List.set_cons_succ])
      refine takeR (i := 5) (some 54) (v := ?_) rfl rfl (by kernel_rfl) (by kernel_rfl) (by kernel_rfl) (fun _ _ _ h => h) (Or.inl ⟨by rfl, ?_⟩) (by assumption) ?_
      rotate_left
      (focus (intro Wx hSw; (try dsimp only at hSw); obtain ⟨s1, s2⟩ := hSw; go_simp; (try with_reducible rfl)))
      (try simp only [Act.put, List.setIfInBounds_toArray, List.set_cons_zero, List.set_cons_succ])
      refine takeR (i := 6) (some 55) (v := ?_) rfl rfl (by kernel_rfl) (by kernel_rfl) (by kernel_rfl) (fun _ _ _ h => h) (Or.inl ⟨by rfl, ?_⟩) (by assumption) ?_
      rotate_left
      (focus (intro Wx hSw; (try dsimp only at hSw); obtain ⟨s1, s2⟩ := hSw; go_simp; (try with_reducible rfl)))
      (try simp only [Act.put, List.setIfInBounds_toArray, List.set_cons_zero, List.set_cons_succ])
      refine takeR (i := 7) (some 56) (v := ?_) rfl rfl (by kernel_rfl) (by kernel_rfl) (by kernel_rfl) (fun _ _ _ h => h) (Or.inl ⟨by rfl, ?_⟩) (by assumption) ?_
      rotate_left
      (focus (intro Wx hSw; (try dsimp only at hSw); obtain ⟨s1, s2⟩ := hSw; go_simp; (try with_reducible rfl)))
      (try simp only [Act.put, List.setIfInBounds_toArray, List.set_cons_zero, List.set_cons_succ])
      refine takeR (i := 8) (some 57) (v := ?_) rfl rfl (by kernel_rfl) (by kernel_rfl) (by kernel_rfl) (fun _ _ _ h => h) (Or.inl ⟨by rfl, ?_⟩) (by assumption) ?_
      rotate_left
      (focus (intro Wx hSw; (try dsimp only at hSw); obtain ⟨s1, s2⟩ := hSw; go_simp; (try with_reducible rfl)))
      (try simp only [Act.put, List.setIfInBounds_toArray, List.set_cons_zero, List.set_cons_succ])
      refine wpAnyH_done (by kernel_rfl) ?_ _
      have hXd : Below w11.heap.size w11 wr.drew := hXb.drew
      cases x <;>
      · go_wp2
        go_roundw
        case rel => exact ⟨j + 1, by omega, by go_num, hXd⟩
        case measure => simp [intOf]; omega
    · obtain rfl : j = rb.length := by omega
      have HSA := Lib.hid (same_any _ _ _ _ _ _ g g wr (HM11.out.next hXb) (HN11.out.next hXb))
      go_wp2_with (go_at_call 15; (with_reducible refine HSA.out.mono ?_); rintro e w12 ⟨rfl, hb12⟩)
      go_ret
      exact ⟨rfl, hB611.trans ((hXb.mono (by omega)).trans (hb12.mono (by have := hXb.size; omega)))⟩
end Go.Proofs.Ytadcjmfednachaa
