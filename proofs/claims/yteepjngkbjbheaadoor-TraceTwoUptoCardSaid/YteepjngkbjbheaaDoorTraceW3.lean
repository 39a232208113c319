/-
  Begins, Same, Refines: the program's.
-/
import Derived.Test.YteepjngkbjbheaaDoorTraceW2
namespace Go.Proofs.YteepjngkbjbheaaDoor
open Go.RowKit
set_option linter.unusedVariables false
set_option linter.unusedSimpArgs false

set_option maxRecDepth 100000 in
set_option maxHeartbeats 4000000 in
theorem begins_any (s1 s2 : Value) (l1 l2 : List Ev) (w : World) (h1 : RdEvs w s1 l1) (h2 : RdEvs w s2 l2) :
    Calls Tryd.prog 13 #[s1, s2] w (BoolP (BeginsE l1 l2) w) := by
  have m1 := h1.1.len
  have m2 := h2.1.len
  unfold maxLen at m1 m2
  obtain ⟨A1, c1, rfl⟩ := h1.1.form
  obtain ⟨A2, c2, hs⟩ := h2.1.form
  have hc : l2.length ≤ c2 ∧ c2 ≤ 9223372036854775807 := by
    obtain ⟨A, c, e, g1, g2, _⟩ := h2.1
    rw [hs] at e
    injection e with e1 e2 e3
    subst e3
    exact ⟨g1, g2⟩
  obtain ⟨hc1, hc2⟩ := hc
  by_cases hl : l1.length ≤ l2.length
  · have hle : decide ((l1.length : Int) ≤ (l2.length : Int)) = true := by simp; exact hl
    have HB := Lib.hid (begins_take l1 l2 hl)
    subst hs
    have HQ := Lib.hid (equalEvs_any _ _ _ _ w h1 (h2.take l1.length hl))
    clear h1 h2
    go_enter Tryd.func13, Tryd.ntmps13
    go_wp2_with (go_at_call 31; (with_reducible refine HQ.out.mono ?_); rintro e w1 ⟨v, rfl, hv, hbl⟩)
    go_returns
    exact ⟨v, rfl, hv.trans HB.out, hbl⟩
  · have hle : decide ((l1.length : Int) ≤ (l2.length : Int)) = false := by simp; omega
    have hle2 : decide (l1.length ≤ l2.length) = false := by simp; omega
    have hne : ¬ BeginsE l1 l2 := fun h => hl h.1
    have HE := Lib.hid hne
    subst hs
    clear h1 h2 hne hl
    go_enter Tryd.func13, Tryd.ntmps13
    go_wp2
    go_returns
    exact ⟨false, rfl, by simp [HE.out], Below.refl _ _⟩

set_option maxRecDepth 100000 in
set_option maxHeartbeats 4000000 in
theorem sameO_any (s1 s2 : Value) (a b : Out) (w : World) (h1 : RdEvs w s1 a.tr) (h2 : RdEvs w s2 b.tr) :
    Calls Tryd.prog 15 #[.agg #[s1, .int .i64 a.st, .int .i32 a.code, .int .i64 a.steps], .agg #[s2, .int .i64 b.st, .int .i32 b.code, .int .i64 b.steps]] w (BoolP (SameO a b) w) := by
  obtain ⟨A1, c1, e1⟩ := h1.1.form
  obtain ⟨A2, c2, e2⟩ := h2.1.form
  obtain ⟨l1, x1, y1, z1⟩ := a
  obtain ⟨l2, x2, y2, z2⟩ := b
  dsimp only at *
  subst e1 e2
  have H1 := Lib.hid h1
  have H2 := Lib.hid h2
  clear h1 h2
  by_cases c1 : x1 = x2
  · by_cases c2 : y1 = y2
    · subst c1 c2
      have hA1 := cell_alloc_if
      have hA2 := frozen_alloc_if
      have hA3 := cell_set_if
      go_enter Tryd.func15, Tryd.ntmps15
      go_wp2_with (go_at_call 31; (with_reducible refine (equalEvs_any _ _ _ _ _ (H1.out.next (by (repeat' (first | (with_reducible exact Below.refl _ _) | (with_reducible assumption) | (with_reducible refine Below.setCell ?_ ?_ _) | (with_reducible refine Below.alloc ?_ ?_ _) | (with_reducible refine Below.drew ?_) | (with_reducible refine below_drewN ?_ _) | (with_reducible refine below_next ?_ (by with_reducible assumption)) | omega | (dsimp only; omega) | (simp only [World.size_alloc, World.size_setCell, World.size_drew, World.heap_drewN]; omega))))) (H2.out.next (by (repeat' (first | (with_reducible exact Below.refl _ _) | (with_reducible assumption) | (with_reducible refine Below.setCell ?_ ?_ _) | (with_reducible refine Below.alloc ?_ ?_ _) | (with_reducible refine Below.drew ?_) | (with_reducible refine below_drewN ?_ _) | (with_reducible refine below_next ?_ (by with_reducible assumption)) | omega | (dsimp only; omega) | (simp only [World.size_alloc, World.size_setCell, World.size_drew, World.heap_drewN]; omega)))))).mono ?_); rintro e w1 ⟨v, rfl, hv, hbl⟩)
      go_returns
      exact ⟨v, rfl, by rw [hv]; simp [SameO], by (repeat' (first | (with_reducible exact Below.refl _ _) | (with_reducible assumption) | (with_reducible refine Below.setCell ?_ ?_ _) | (with_reducible refine Below.alloc ?_ ?_ _) | (with_reducible refine Below.drew ?_) | (with_reducible refine below_drewN ?_ _) | (with_reducible refine below_next ?_ (by with_reducible assumption)) | omega | (dsimp only; omega) | (simp only [World.size_alloc, World.size_setCell, World.size_drew, World.heap_drewN]; omega)))⟩
    · have d2 : (y1 == y2) = false := beq_eq_false_iff_ne.2 c2
      go_enter Tryd.func15, Tryd.ntmps15
      go_wp2
      all_goals (go_returns; exact ⟨false, rfl, by simp [SameO, c2], by (repeat' (first | (with_reducible exact Below.refl _ _) | (with_reducible assumption) | (with_reducible refine Below.setCell ?_ ?_ _) | (with_reducible refine Below.alloc ?_ ?_ _) | (with_reducible refine Below.drew ?_) | (with_reducible refine below_drewN ?_ _) | (with_reducible refine below_next ?_ (by with_reducible assumption)) | omega | (dsimp only; omega) | (simp only [World.size_alloc, World.size_setCell, World.size_drew, World.heap_drewN]; omega)))⟩)
  · have d1 : (x1 == x2) = false := beq_eq_false_iff_ne.2 c1
    go_enter Tryd.func15, Tryd.ntmps15
    go_wp2
    all_goals (go_returns; exact ⟨false, rfl, by simp [SameO, c1], by (repeat' (first | (with_reducible exact Below.refl _ _) | (with_reducible assumption) | (with_reducible refine Below.setCell ?_ ?_ _) | (with_reducible refine Below.alloc ?_ ?_ _) | (with_reducible refine Below.drew ?_) | (with_reducible refine below_drewN ?_ _) | (with_reducible refine below_next ?_ (by with_reducible assumption)) | omega | (dsimp only; omega) | (simp only [World.size_alloc, World.size_setCell, World.size_drew, World.heap_drewN]; omega)))⟩)

/-- The answer of Begins, each way round, in whatever world behind. -/
abbrev Beg (w : World) (s1 s2 : Value) (b : Bool) : Prop :=
  ∀ W, Ext w W → Calls Tryd.prog 13 #[s1, s2] W fun e w' => e = .returned (.bool b) ∧ Below W.heap.size W w'
theorem beg_of {w : World} {s1 s2 : Value} {l1 l2 : List Ev} (h1 : RdEvs w s1 l1) (h2 : RdEvs w s2 l2) : ∃ b : Bool, Beg w s1 s2 b ∧ (b = true ↔ BeginsE l1 l2) := by
  by_cases h : BeginsE l1 l2
  · exact ⟨true, fun W hW => boolp_yes (begins_any _ _ _ _ W (h1.next hW) (h2.next hW)) h, by simp [h]⟩
  · exact ⟨false, fun W hW => boolp_no (begins_any _ _ _ _ W (h1.next hW) (h2.next hW)) h, by simp [h]⟩

set_option maxRecDepth 100000 in
set_option maxHeartbeats 8000000 in
theorem refines_core (A1 A2 : Option Addr) (n1 n2 c1 c2 : Nat) (x1 x2 y1 y2 z1 z2 : Int) (b1 b2 b3 r : Bool) (w : World) (B1 : Hid (Beg w (.slice A1 n1 c1) (.slice A2 n2 c2) b1)) (B2 : Hid (Beg w (.slice A2 n2 c2) (.slice A1 n1 c1) b2))
    (SM : Hid (∀ W, Ext w W → Calls Tryd.prog 15 #[.agg #[.slice A1 n1 c1, .int .i64 x1, .int .i32 y1, .int .i64 z1], .agg #[.slice A2 n2 c2, .int .i64 x2, .int .i32 y2, .int .i64 z2]] W fun e w' => e = .returned (.bool b3) ∧ Below W.heap.size W w'))
    (hr : r = if x2 < 0 ∨ 3 < x2 then false else if x1 = 1 then (if x2 = 1 then b3 else (decide (x2 ≠ 2) && b2)) else if x1 = 0 ∨ x1 = 2 then b2 || b1 else false) :
    Calls Tryd.prog 17 #[.agg #[.slice A1 n1 c1, .int .i64 x1, .int .i32 y1, .int .i64 z1], .agg #[.slice A2 n2 c2, .int .i64 x2, .int .i32 y2, .int .i64 z2]] w fun e w' => e = .returned (.bool r) ∧ Below w.heap.size w w' := by
  have HR := Lib.hid hr
  clear hr
  have hA1 := cell_alloc_if
  have hA2 := frozen_alloc_if
  have hA3 := cell_set_if
  go_enter Tryd.func17, Tryd.ntmps17
  go_wp2
  refine wp_region_ext (by kernel_rfl) (by kernel_rfl) ?_
  repeat (first | go_big_quiet_skip | (go_big_quiet_want; go_big_quiet_op; first | go_big_quiet_on | (apply Exists.intro; refine ⟨fun W hW => ?_, ?_⟩; (focus (first
    | (go_at_call 13; (with_reducible refine (B1.out _ (by unfold Ext at *; (repeat' (first | (with_reducible exact Below.refl _ _) | (with_reducible assumption) | (with_reducible refine Below.setCell ?_ ?_ _) | (with_reducible refine Below.alloc ?_ ?_ _) | (with_reducible refine Below.drew ?_) | (with_reducible refine below_drewN ?_ _) | (with_reducible refine below_next ?_ (by with_reducible assumption)) | omega | (dsimp only; omega) | (simp only [World.size_alloc, World.size_setCell, World.size_drew, World.heap_drewN]; omega))))).mono ?_); rintro e w1 ⟨rfl, hb⟩; exact ⟨rfl, Ext.next hW hb⟩)
      | (go_at_call 13; (with_reducible refine (B2.out _ (by unfold Ext at *; (repeat' (first | (with_reducible exact Below.refl _ _) | (with_reducible assumption) | (with_reducible refine Below.setCell ?_ ?_ _) | (with_reducible refine Below.alloc ?_ ?_ _) | (with_reducible refine Below.drew ?_) | (with_reducible refine below_drewN ?_ _) | (with_reducible refine below_next ?_ (by with_reducible assumption)) | omega | (dsimp only; omega) | (simp only [World.size_alloc, World.size_setCell, World.size_drew, World.heap_drewN]; omega))))).mono ?_); rintro e w1 ⟨rfl, hb⟩; exact ⟨rfl, Ext.next hW hb⟩)
    | exact rfl | (obtain ⟨hcW, hfW, hzW⟩ := cif (Ext.of hW); (try simp only [World.size_alloc, World.size_setCell, World.size_drew, World.heap_drewN] at hzW); simp [go_sem, *, ↓IntWalk.iteOmega]; (try exact rfl)))); go_big_quiet_on)))
  refine wpQuiet_nil ?_
  intro w' hw'
  have hbl := Ext.of hw'
  obtain ⟨hc, hf, hz⟩ := cif hbl
  (try simp only [World.size_alloc, World.size_setCell, World.size_drew, World.heap_drewN] at hz)
  clear hw'
  go_wp2_with (go_at_call 15; (with_reducible refine (SM.out _ (by unfold Ext at *; (repeat' (first | (with_reducible exact Below.refl _ _) | (with_reducible assumption) | (with_reducible refine Below.setCell ?_ ?_ _) | (with_reducible refine Below.alloc ?_ ?_ _) | (with_reducible refine Below.drew ?_) | (with_reducible refine below_drewN ?_ _) | (with_reducible refine below_next ?_ (by with_reducible assumption)) | omega | (dsimp only; omega) | (simp only [World.size_alloc, World.size_setCell, World.size_drew, World.heap_drewN]; omega))))).mono ?_); rintro e w' ⟨rfl, hbl⟩; obtain ⟨hc, hf, hz⟩ := cif hbl; (try simp only [World.size_alloc, World.size_setCell, World.size_drew, World.heap_drewN] at hz))
  all_goals (go_returns; refine ⟨congrArg (fun b => Ending.returned (Value.bool b)) ?_, by unfold Ext at *; clear hc hf; (repeat' (first | (with_reducible exact Below.refl _ _) | (with_reducible assumption) | (with_reducible refine Below.setCell ?_ ?_ _) | (with_reducible refine Below.alloc ?_ ?_ _) | (with_reducible refine Below.drew ?_) | (with_reducible refine below_drewN ?_ _) | (with_reducible refine below_next ?_ (by with_reducible assumption)) | omega | (dsimp only; omega) | (simp only [World.size_alloc, World.size_setCell, World.size_drew, World.heap_drewN]; omega)))⟩; rw [HR.out]; go_light; simp at *; grind)

/-- The answer of Refines in whatever world behind. -/
abbrev Ref (w : World) (s1 s2 : Value) (a b : Out) (r : Bool) : Prop :=
  ∀ W, Ext w W → Calls Tryd.prog 17 #[.agg #[s1, .int .i64 a.st, .int .i32 a.code, .int .i64 a.steps], .agg #[s2, .int .i64 b.st, .int .i32 b.code, .int .i64 b.steps]] W fun e w' => e = .returned (.bool r) ∧ Below W.heap.size W w'
theorem ref_of {w : World} {s1 s2 : Value} {a b : Out} (h1 : RdEvs w s1 a.tr) (h2 : RdEvs w s2 b.tr) : ∃ r : Bool, Ref w s1 s2 a b r ∧ (r = true ↔ RefinesO a b) := by
  obtain ⟨b1, g1, i1⟩ := beg_of h1 h2
  obtain ⟨b2, g2, i2⟩ := beg_of h2 h1
  obtain ⟨b3, g3, i3⟩ : ∃ b3 : Bool, (∀ W, Ext w W → Calls Tryd.prog 15 #[.agg #[s1, .int .i64 a.st, .int .i32 a.code, .int .i64 a.steps], .agg #[s2, .int .i64 b.st, .int .i32 b.code, .int .i64 b.steps]] W fun e w' => e = .returned (.bool b3) ∧ Below W.heap.size W w') ∧ (b3 = true ↔ SameO a b) := by
    by_cases h : SameO a b
    · exact ⟨true, fun W hW => boolp_yes (sameO_any _ _ _ _ W (h1.next hW) (h2.next hW)) h, by simp [h]⟩
    · exact ⟨false, fun W hW => boolp_no (sameO_any _ _ _ _ W (h1.next hW) (h2.next hW)) h, by simp [h]⟩
  obtain ⟨A1, c1, rfl⟩ := h1.1.form
  obtain ⟨A2, c2, rfl⟩ := h2.1.form
  refine ⟨_, fun W hW => refines_core A1 A2 _ _ c1 c2 _ _ _ _ _ _ b1 b2 b3 _ W (Lib.hid fun W' h' => g1 W' (Ext.next hW h')) (Lib.hid fun W' h' => g2 W' (Ext.next hW h')) (Lib.hid fun W' h' => g3 W' (Ext.next hW h')) rfl, ?_⟩
  unfold RefinesO
  by_cases q1 : b.st < 0 ∨ 3 < b.st
  · rw [if_pos q1]
    simp
    intro _ _; omega
  · rw [if_neg q1]
    have q0 : 0 ≤ b.st ∧ b.st ≤ 3 := by omega
    by_cases q2 : a.st = 1
    · rw [if_pos q2]
      by_cases q3 : b.st = 1
      · rw [if_pos q3, i3]
        simp [q2, q3]
      · rw [if_neg q3]
        simp [q2, q3, q0.1, q0.2, i2]
    · rw [if_neg q2]
      by_cases q4 : a.st = 0 ∨ a.st = 2
      · rw [if_pos q4]
        simp [q2, q4, q0.1, q0.2, i1, i2]
      · rw [if_neg q4]
        simp [q2, q4]

end Go.Proofs.YteepjngkbjbheaaDoor
