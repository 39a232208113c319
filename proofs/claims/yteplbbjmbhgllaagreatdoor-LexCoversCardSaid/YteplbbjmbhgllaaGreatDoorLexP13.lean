/-
  The program's number: takes a number.
-/
import Derived.Test.YteplbbjmbhgllaaGreatDoorLexP12
import Derived.Test.YteplbbjmbhgllaaGreatDoorLexM09
import Derived.Lib.IndexMore
namespace Go.Proofs.YteplbbjmbhgllaaGreatDoor
open Go.RowKit
set_option linter.unusedVariables false
set_option linter.unusedSimpArgs false

theorem index_dot (l : List UInt8) : Lib.index l [46] = -1 ∧ (l.takeWhile fun c => decide (c.toNat ≠ 46)) = l ∨ Lib.index l [46] = ((l.takeWhile fun c => decide (c.toNat ≠ 46)).length : Int) ∧ (l.takeWhile fun c => decide (c.toNat ≠ 46)).length < l.length := by
  induction l with
  | nil => exact .inl ⟨rfl, rfl⟩
  | cons b l ih =>
    by_cases hb : b.toNat = 46
    · refine .inr ?_
      have e : b = 46 := UInt8.toNat_inj.1 hb
      subst e
      exact ⟨rfl, by simp⟩
    · have hp : ([46] : List UInt8).isPrefixOf (b :: l) = false := by
        have : ¬ (46 : UInt8) = b := fun e => hb (by rw [← e]; rfl)
        simp [List.isPrefixOf, this]
      have ht : ((b :: l).takeWhile fun c => decide (c.toNat ≠ 46)) = b :: l.takeWhile fun c => decide (c.toNat ≠ 46) := by
        rw [List.takeWhile_cons, if_pos (by simpa using hb)]
      unfold Lib.index
      rw [hp, ht]
      rcases ih with ⟨h1, h2⟩ | ⟨h1, h2⟩
      · left
        rw [h1, h2]
        exact ⟨rfl, rfl⟩
      · right
        have hne : (Lib.index l [46] == -1) = false := by rw [h1, beq_eq_false_iff_ne]; omega
        rw [hne, h1]
        simp only [List.length_cons]
        exact ⟨by simp, by omega⟩
theorem take_tw (l : List UInt8) : l.take (l.takeWhile fun c => decide (c.toNat ≠ 46)).length = (l.takeWhile fun c => decide (c.toNat ≠ 46)) ∧ l.drop (l.takeWhile fun c => decide (c.toNat ≠ 46)).length = (l.dropWhile fun c => decide (c.toNat ≠ 46)) := by
  have key : ∀ h d : List UInt8, h ++ d = l → l.take h.length = h ∧ l.drop h.length = d := by rintro h d rfl; simp
  exact key _ _ (List.takeWhile_append_dropWhile (p := fun c : UInt8 => decide (c.toNat ≠ 46)) (l := l))
/-- The parts on both sides of the point. -/
theorem cut_dot (l : List UInt8) : Lib.cut l [46] = if (l.takeWhile fun c => decide (c.toNat ≠ 46)).length = l.length then (l, [], false) else ((l.takeWhile fun c => decide (c.toNat ≠ 46)), (l.dropWhile fun c => decide (c.toNat ≠ 46)).drop 1, true) := by
  unfold Lib.cut
  rcases index_dot l with ⟨h1, h2⟩ | ⟨h1, h2⟩
  · rw [h1, if_neg (by decide), if_pos (by rw [h2])]
  · rw [h1, if_pos (by omega), if_neg (by omega), Int.toNat_natCast, (take_tw l).1, ← List.drop_drop, (take_tw l).2]
    rfl
theorem cut_any (s : ByteArray) (hs : s.size ≤ 1048576) (w : World) (hT : Tabs w) : Calls Tryz.prog 52 #[.string s, .string ⟨#[46]⟩] w fun e w' =>
    e = .returned (.tuple #[.string (baB (Lib.cut s.data.toList [46]).1), .string (baB (Lib.cut s.data.toList [46]).2.1), .bool (Lib.cut s.data.toList [46]).2.2]) ∧ Below w.heap.size w w' := by
  obtain ⟨m, hm⟩ := hT.mxl
  refine (Tryz.strings_Cut s ⟨#[46]⟩ m w (by omega) hm).mono ?_
  rintro e w' ⟨rfl, n, rfl⟩
  exact ⟨rfl, below_drewN (Below.refl _ _) n⟩
/-- What number answers, by its parts. -/
def NuP (s : ByteArray) (e : Ending) : Prop := match Lx.numL Lx.flF s.data.toList with
  | some (k, n) => e = .returned (.tuple #[tokV k (0, 0) s n .empty, .bool true])
  | none => ∃ t, IsTok t ∧ e = .returned (.tuple #[t, .bool false])
theorem nuP_some {s : ByteArray} {e : Ending} {k n : Nat} (h : Lx.numL Lx.flF s.data.toList = some (k, n)) (he : e = .returned (.tuple #[tokV k (0, 0) s n .empty, .bool true])) : NuP s e := by
  unfold NuP; rw [h]; exact he
theorem nuP_none {s : ByteArray} {e : Ending} {t : Value} (h : Lx.numL Lx.flF s.data.toList = none) (he : e = .returned (.tuple #[t, .bool false])) (ht : IsTok t) : NuP s e := by
  unfold NuP; rw [h]; exact ⟨t, ht, he⟩
theorem pNm_lt : ∀ c, pNm c = true → c < 128 := fun c h => by
  unfold pNm Lx.isLet Lx.isDig at h; simp at h; omega
theorem StepB.setNew {b c o : Nat} {v : Value} {w w' : World} (h : StepB b w w') (hc : w.heap.size ≤ c) (hb : b ≤ c) : StepB b w (w'.setCell ⟨c, o, none⟩ v) :=
  ⟨h.1.setCell (p := ⟨c, o, none⟩) hb v, fun k hk hl => (setC_other _ _ _ _ (by omega)).trans (h.2 k hk hl)⟩
theorem CurAt.setNew {b c o : Nat} {v : Value} {r : ByteArray} {p : Lx.Pl} {w : World} (h : CurAt b r p w) (hc : b ≠ c) : CurAt b r p (w.setCell ⟨c, o, none⟩ v) := (setC_other _ _ _ _ hc).trans h
set_option maxRecDepth 100000 in
set_option maxHeartbeats 8000000 in
theorem number_any (b : Nat) (hb : 13 ≤ b) (r : ByteArray) (hr : r.size ≤ 1048576) (p : Lx.Pl) (hp : PlaceOk 4194304 p) (w : World) (hcur : CurAt b r p w) (hT : Tabs w) : Calls Tryz.prog 35 #[.pointer (some ⟨b, 0, none⟩)] w fun e w' =>
    NuP (r.extract 0 (Lx.spanL pNm r.data.toList).length) e ∧ CurAt b (r.extract (Lx.spanL pNm r.data.toList).length r.size) (Lx.moved p (r.data.toList.take (Lx.spanL pNm r.data.toList).length)) w' ∧ StepB b w w' := by
  have hlt := hcur.lt
  have hz : 13 ≤ w.heap.size := by omega
  have HWH := Lib.hid (fun W (h1 : CurAt b r p W) (h2 : Tabs W) => while_any b hb 50 pNm pNm_lt (enters_of Tryz.func50 (by kernel_rfl) rfl) (fun c W hc => numR_any c hc W) r hr p hp W h1 h2)
  have hkl : (Lx.spanL pNm r.data.toList).length ≤ r.size := by have := Lx.spanL_le pNm r.data.toList; rw [szl] at this; exact this
  obtain ⟨k, hk⟩ : ∃ k, (Lx.spanL pNm r.data.toList).length = k := ⟨_, rfl⟩
  rw [hk] at HWH hkl ⊢
  clear hk
  obtain ⟨s, hs⟩ : ∃ s, r.extract 0 k = s := ⟨_, rfl⟩
  have hss : s.size ≤ 1048576 := by rw [← hs, take_size hkl]; omega
  rw [hs] at HWH ⊢
  clear hs
  have HT := Lib.hid hT
  have hA1 := cell_alloc_if
  have hA2 := frozen_alloc_if
  have hA3 := cell_set_if
  go_enter Tryz.func35, Tryz.ntmps35
  go_wp2_with (go_at_call 18; (with_reducible refine (HWH.out _ (hcur.keep ((Below.refl _ _).alloc (Nat.le_refl _) _)) (tabs_below HT.out hz ((Below.refl _ _).alloc (Nat.le_refl _) _))).mono ?_); rintro e w1 ⟨rfl, hcu1, hst1⟩)
  have hst2 : StepB b w w1 := (StepB.of (by omega) ((Below.refl _ _).alloc (Nat.le_refl _) _)).trans hst1
  have hsz1 : w.heap.size + 1 ≤ w1.heap.size := by have := hst1.1.size; simp only [World.size_alloc] at this; exact this
  have hrs1 : w1.heap[w.heap.size]? = some (.cells tokZ 32 (0, 0)) := (hst1.2 _ (by omega) (by simp only [World.size_alloc]; omega)).trans (heap_alloc_new w _)
  have HT1 := Lib.hid (tabs_below hT hb hst2.1)
  have HC1 := Lib.hid hcu1
  have HS1 := Lib.hid hst2
  have hcr := cells_of_block hrs1
  have hr0 := hcr.1 0
  have hr1 := hcr.1 1
  have hr2 := hcr.1 2
  have hr3 := hcr.1 3
  have hr4 := hcr.1 4
  have hr5 := hcr.1 5
  have hrf := hcr.2
  simp [tokZ] at hr0 hr1 hr2 hr3 hr4 hr5
  have hw := whole_any s hss w1 HT1.out (by omega)
  clear hcr hrs1 hst1 hst2 hcu1 hT hcur HWH HT
  cases hwl : Lx.wholeL s.data.toList with
  | some n =>
    rw [hwl] at hw
    unfold WhP at hw
    have HW := Lib.hid hw
    have HN := Lib.hid (Lx.numL_whole (fl := Lx.flF) hwl)
    clear hw hwl
    go_wp2_with (go_at_call 51; (with_reducible refine (HW.out).mono ?_); rintro e w' ⟨rfl, hbl⟩; obtain ⟨hc, hf, hz⟩ := cif hbl; (try simp only [World.size_alloc, World.size_setCell, World.size_drew, World.heap_drewN] at hz))
    all_goals ((try simp only [Exit.inBlock, Exit.then]); go_light; refine bodyPost_ret (by simp [results, Tryz.results35, go_sem, *, ↓IntWalk.iteOmega]; try rfl) rfl ?_)
    refine ⟨?_, ?_, ?_⟩
    rotate_left 1
    · have hcu7 := HC1.out.keep hbl
      exact (((((hcu7.setNew (by omega)).setNew (by omega)).setNew (by omega)).setNew (by omega)).setNew (by omega)).setNew (by omega)
    · have hst7 := HS1.out.trans (StepB.of (by omega) hbl)
      exact (((((hst7.setNew (Nat.le_refl _) (by omega)).setNew (Nat.le_refl _) (by omega)).setNew (Nat.le_refl _) (by omega)).setNew (Nat.le_refl _) (by omega)).setNew (Nat.le_refl _) (by omega)).setNew (Nat.le_refl _) (by omega)
    · exact nuP_some HN.out rfl
  | none =>
    rw [hwl] at hw
    unfold WhP at hw
    have HW := Lib.hid hw
    have hCT := fun W (h : Tabs W) => cut_any s hss W h
    rw [cut_dot] at hCT
    have HTW : Hid (∀ W, Below w1.heap.size w1 W → Tabs W) := Lib.hid fun W h => tabs_below HT1.out (by omega) h
    have hnl : Lx.numL Lx.flF s.data.toList = if (s.data.toList.takeWhile fun c => decide (c.toNat ≠ 46)).length = s.data.toList.length ∨ (s.data.toList.takeWhile fun c => decide (c.toNat ≠ 46)) = [] ∨ (s.data.toList.dropWhile fun c => decide (c.toNat ≠ 46)).drop 1 = [] then none else (Lx.flF ((s.data.toList.takeWhile fun c => decide (c.toNat ≠ 46)) ++ (s.data.toList.dropWhile fun c => decide (c.toNat ≠ 46)).drop 1) ((s.data.toList.dropWhile fun c => decide (c.toNat ≠ 46)).drop 1).length).map fun n => (4, n) := by
      unfold Lx.numL; rw [hwl]
    have hll : (s.data.toList.takeWhile fun c => decide (c.toNat ≠ 46)).length + ((s.data.toList.dropWhile fun c => decide (c.toNat ≠ 46)).drop 1).length ≤ s.size := by
      have := congrArg List.length (List.takeWhile_append_dropWhile (p := fun c : UInt8 => decide (c.toNat ≠ 46)) (l := s.data.toList))
      rw [List.length_append, szl] at this
      rw [List.length_drop]; omega
    clear hw hwl
    by_cases c1 : (s.data.toList.takeWhile fun c => decide (c.toNat ≠ 46)).length = s.data.toList.length
    · rw [if_pos c1] at hCT
      rw [if_pos (.inl c1)] at hnl
      have HN := Lib.hid hnl
      have HCT := Lib.hid hCT
      clear hnl hCT c1 hll
      go_wp2_with (first
        | (go_at_call 51; (with_reducible refine (HW.out).mono ?_); rintro e w' ⟨⟨x, rfl⟩, hbl⟩)
        | (go_at_call 52; (with_reducible refine (HCT.out _ (HTW.out _ hbl)).mono ?_); rintro e w3 ⟨rfl, hbl3⟩; obtain ⟨hc, hf, hz3⟩ := cif (below_step hbl hbl3)))
      all_goals ((try simp only [Exit.inBlock, Exit.then]); go_light; refine bodyPost_ret (by simp [results, Tryz.results35, go_sem, *, ↓IntWalk.iteOmega]; try rfl) rfl ?_)
      refine ⟨?_, ?_, ?_⟩
      rotate_left 1
      · have hcu7 := HC1.out.keep (below_step hbl hbl3)
        exact (((((hcu7.setNew (by omega)).setNew (by omega)).setNew (by omega)).setNew (by omega)).setNew (by omega)).setNew (by omega)
      · have hst7 := HS1.out.trans (StepB.of (by omega) (below_step hbl hbl3))
        exact (((((hst7.setNew (Nat.le_refl _) (by omega)).setNew (Nat.le_refl _) (by omega)).setNew (Nat.le_refl _) (by omega)).setNew (Nat.le_refl _) (by omega)).setNew (Nat.le_refl _) (by omega)).setNew (Nat.le_refl _) (by omega)
      · exact nuP_none HN.out rfl (isTok _ _ _ _ _ _)
    · rw [if_neg c1] at hCT
      generalize (s.data.toList.takeWhile fun c => decide (c.toNat ≠ 46)) = hd at hCT hnl c1 hll
      generalize (s.data.toList.dropWhile fun c => decide (c.toNat ≠ 46)).drop 1 = dd at hCT hnl hll
      have HCT := Lib.hid hCT
      clear hCT
      have hs1 := szl (baB hd)
      have hs2 := szl (baB dd)
      rw [baB_toList] at hs1 hs2
      by_cases c2 : hd = []
      · rw [if_pos (.inr (.inl c2))] at hnl
        have HN := Lib.hid hnl
        have g1 : ((baB hd).toList == []) = true := by rw [empty_iff]; exact decide_eq_true (by rw [← hs1, c2]; rfl)
        clear hnl c1 c2 hll hs1 hs2
        generalize baB hd = h at HCT g1
        generalize baB dd = d at HCT
        go_wp2_with (first
          | (go_at_call 51; (with_reducible refine (HW.out).mono ?_); rintro e w' ⟨⟨x, rfl⟩, hbl⟩)
          | (go_at_call 52; (with_reducible refine (HCT.out _ (HTW.out _ hbl)).mono ?_); rintro e w3 ⟨rfl, hbl3⟩; obtain ⟨hc, hf, hz3⟩ := cif (below_step hbl hbl3)))
        all_goals ((try simp only [Exit.inBlock, Exit.then]); go_light; refine bodyPost_ret (by simp [results, Tryz.results35, go_sem, *, ↓IntWalk.iteOmega]; try rfl) rfl ?_)
        refine ⟨?_, ?_, ?_⟩
        rotate_left 1
        · have hcu7 := HC1.out.keep (below_step hbl hbl3)
          exact (((((hcu7.setNew (by omega)).setNew (by omega)).setNew (by omega)).setNew (by omega)).setNew (by omega)).setNew (by omega)
        · have hst7 := HS1.out.trans (StepB.of (by omega) (below_step hbl hbl3))
          exact (((((hst7.setNew (Nat.le_refl _) (by omega)).setNew (Nat.le_refl _) (by omega)).setNew (Nat.le_refl _) (by omega)).setNew (Nat.le_refl _) (by omega)).setNew (Nat.le_refl _) (by omega)).setNew (Nat.le_refl _) (by omega)
        · exact nuP_none HN.out rfl (isTok _ _ _ _ _ _)
      · have g1 : ((baB hd).toList == []) = false := by
          rw [empty_iff]
          refine decide_eq_false fun h => c2 (List.eq_nil_of_length_eq_zero (by omega))
        by_cases c3 : dd = []
        · rw [if_pos (.inr (.inr c3))] at hnl
          have HN := Lib.hid hnl
          have g2 : ((baB dd).toList == []) = true := by rw [empty_iff]; exact decide_eq_true (by rw [← hs2, c3]; rfl)
          clear hnl c1 c2 c3 hll hs1 hs2
          generalize baB hd = h at HCT g1
          generalize baB dd = d at HCT g2
          go_wp2_with (first
            | (go_at_call 51; (with_reducible refine (HW.out).mono ?_); rintro e w' ⟨⟨x, rfl⟩, hbl⟩)
            | (go_at_call 52; (with_reducible refine (HCT.out _ (HTW.out _ hbl)).mono ?_); rintro e w3 ⟨rfl, hbl3⟩; obtain ⟨hc, hf, hz3⟩ := cif (below_step hbl hbl3)))
          all_goals ((try simp only [Exit.inBlock, Exit.then]); go_light; refine bodyPost_ret (by simp [results, Tryz.results35, go_sem, *, ↓IntWalk.iteOmega]; try rfl) rfl ?_)
          refine ⟨?_, ?_, ?_⟩
          rotate_left 1
          · have hcu7 := HC1.out.keep (below_step hbl hbl3)
            exact (((((hcu7.setNew (by omega)).setNew (by omega)).setNew (by omega)).setNew (by omega)).setNew (by omega)).setNew (by omega)
          · have hst7 := HS1.out.trans (StepB.of (by omega) (below_step hbl hbl3))
            exact (((((hst7.setNew (Nat.le_refl _) (by omega)).setNew (Nat.le_refl _) (by omega)).setNew (Nat.le_refl _) (by omega)).setNew (Nat.le_refl _) (by omega)).setNew (Nat.le_refl _) (by omega)).setNew (Nat.le_refl _) (by omega)
          · exact nuP_none HN.out rfl (isTok _ _ _ _ _ _)
        · have g2 : ((baB dd).toList == []) = false := by
            rw [empty_iff]
            refine decide_eq_false fun h => c3 (List.eq_nil_of_length_eq_zero (by omega))
          rw [if_neg (fun h => h.elim c1 fun h => h.elim c2 c3)] at hnl
          have hfl : ∀ W, Tabs W → 13 ≤ W.heap.size → Calls Tryz.prog 12 #[.string (baB hd ++ baB dd), .int .i64 ((baB dd).size : Int)] W fun e w' => e = .returned (wholeV (Lx.flF (hd ++ dd) dd.length)) ∧ Below W.heap.size W w' := fun W h1 h2 => by
            have := float_any (baB hd ++ baB dd) (by rw [← szl, app_data, List.length_append, baB_toList, baB_toList]; omega) (baB dd).size (by omega) W h1 h2
            rw [app_data, baB_toList, baB_toList, ← hs2] at this
            rw [← hs2]
            exact this
          have hsum : (baB hd).size + (baB dd).size ≤ 1048576 := by omega
          clear c1 c2 c3 hll hs1 hs2
          generalize baB hd = h at HCT g1 hfl hsum
          generalize baB dd = d at HCT g2 hfl hsum
          cases hF : Lx.flF (hd ++ dd) dd.length with
          | some n =>
            rw [hF] at hnl hfl
            have HN := Lib.hid hnl
            unfold wholeV at hfl
            have HFL := Lib.hid hfl
            clear hnl hfl hF
            go_wp2_with (first
              | (go_at_call 51; (with_reducible refine (HW.out).mono ?_); rintro e w' ⟨⟨x, rfl⟩, hbl⟩)
              | (go_at_call 52; (with_reducible refine (HCT.out _ (HTW.out _ hbl)).mono ?_); rintro e w3 ⟨rfl, hbl3⟩; have hzz := (below_step hbl hbl3).size)
              | (go_at_call 12; (with_reducible refine (HFL.out _ (HTW.out _ (below_step hbl hbl3)) (by omega)).mono ?_); rintro e w4 ⟨rfl, hbl4⟩; obtain ⟨hc, hf, hz3⟩ := cif (below_step (below_step hbl hbl3) hbl4)))
            all_goals ((try simp only [Exit.inBlock, Exit.then]); go_light; refine bodyPost_ret (by simp [results, Tryz.results35, go_sem, *, ↓IntWalk.iteOmega]; try rfl) rfl ?_)
            refine ⟨?_, ?_, ?_⟩
            rotate_left 1
            · have hcu7 := HC1.out.keep (below_step (below_step hbl hbl3) hbl4)
              exact (((((hcu7.setNew (by omega)).setNew (by omega)).setNew (by omega)).setNew (by omega)).setNew (by omega)).setNew (by omega)
            · have hst7 := HS1.out.trans (StepB.of (by omega) (below_step (below_step hbl hbl3) hbl4))
              exact (((((hst7.setNew (Nat.le_refl _) (by omega)).setNew (Nat.le_refl _) (by omega)).setNew (Nat.le_refl _) (by omega)).setNew (Nat.le_refl _) (by omega)).setNew (Nat.le_refl _) (by omega)).setNew (Nat.le_refl _) (by omega)
            · exact nuP_some HN.out rfl
          | none =>
            rw [hF] at hnl hfl
            have HN := Lib.hid hnl
            unfold wholeV at hfl
            have HFL := Lib.hid hfl
            clear hnl hfl hF
            go_wp2_with (first
              | (go_at_call 51; (with_reducible refine (HW.out).mono ?_); rintro e w' ⟨⟨x, rfl⟩, hbl⟩)
              | (go_at_call 52; (with_reducible refine (HCT.out _ (HTW.out _ hbl)).mono ?_); rintro e w3 ⟨rfl, hbl3⟩; have hzz := (below_step hbl hbl3).size)
              | (go_at_call 12; (with_reducible refine (HFL.out _ (HTW.out _ (below_step hbl hbl3)) (by omega)).mono ?_); rintro e w4 ⟨rfl, hbl4⟩; obtain ⟨hc, hf, hz3⟩ := cif (below_step (below_step hbl hbl3) hbl4)))
            all_goals ((try simp only [Exit.inBlock, Exit.then]); go_light; refine bodyPost_ret (by simp [results, Tryz.results35, go_sem, *, ↓IntWalk.iteOmega]; try rfl) rfl ?_)
            refine ⟨?_, ?_, ?_⟩
            rotate_left 1
            · have hcu7 := HC1.out.keep (below_step (below_step hbl hbl3) hbl4)
              exact (((((hcu7.setNew (by omega)).setNew (by omega)).setNew (by omega)).setNew (by omega)).setNew (by omega)).setNew (by omega)
            · have hst7 := HS1.out.trans (StepB.of (by omega) (below_step (below_step hbl hbl3) hbl4))
              exact (((((hst7.setNew (Nat.le_refl _) (by omega)).setNew (Nat.le_refl _) (by omega)).setNew (Nat.le_refl _) (by omega)).setNew (Nat.le_refl _) (by omega)).setNew (Nat.le_refl _) (by omega)).setNew (Nat.le_refl _) (by omega)
            · exact nuP_none HN.out rfl (isTok _ _ _ _ _ _)
end Go.Proofs.YteplbbjmbhgllaaGreatDoor
