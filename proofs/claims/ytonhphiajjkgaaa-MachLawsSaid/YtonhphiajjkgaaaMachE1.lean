/-
  Truth, Right, Same: the program's and the reference's.
-/
import Derived.Test.YtonhphiajjkgaaaMachW6
import Derived.Test.YtonhphiajjkgaaaRegion
namespace Go.Proofs.Ytonhphiajjkgaaa
open Go.RowKit
set_option linter.unusedVariables false
set_option linter.unusedSimpArgs false

def truthV (k b : Int) : Bool × Bool :=
  if k = 1 then (decide (b % 4294967296 ≠ 0), true) else if k = 2 then (decide (b ≠ 0), true)
  else if k = 3 then (ford b.toNat 0 != some .eq, true) else if k = 4 then (true, true) else (false, false)
def rightV (k b l : Int) : Bool :=
  if k = 0 then decide (b = 0 ∧ l = 0) else if k = 1 then decide (b < 4294967296 ∧ l = 0) else if k = 2 ∨ k = 3 then decide (l = 0) else decide (k = 4 ∧ l ≠ 0)

attribute [local go_sem] frombits_run tobits_run
set_option maxHeartbeats 1000000 in
theorem truth_any (k b l : Int) (hb : U64 b) (w : World) :
    Calls Try.prog 29 #[.agg #[.int .i64 k, .int .u64 b, .int .i64 l]] w fun e w' => e = .returned (.tuple #[.bool (truthV k b).1, .bool (truthV k b).2]) ∧ Below w.heap.size w w' := by
  by_cases c1 : k = 1
  · subst c1
    go_enter Try.func29, Try.ntmps29
    go_wp2
    all_goals (go_returns; refine ⟨?_, by (repeat' (first | (with_reducible exact Below.refl _ _) | (with_reducible assumption) | (with_reducible refine Below.setCell ?_ ?_ _) | (with_reducible refine Below.alloc ?_ ?_ _) | (with_reducible refine Below.drew ?_) | (with_reducible refine below_drewN ?_ _) | (with_reducible refine below_next ?_ (by with_reducible assumption)) | omega | (dsimp only; omega) | (simp only [World.size_alloc, World.size_setCell, World.size_drew, World.heap_drewN]; omega)))⟩; go_light; simp [truthV]; try grind)
  by_cases c2 : k = 2
  · subst c2
    go_enter Try.func29, Try.ntmps29
    go_wp2
    all_goals (go_returns; refine ⟨?_, by (repeat' (first | (with_reducible exact Below.refl _ _) | (with_reducible assumption) | (with_reducible refine Below.setCell ?_ ?_ _) | (with_reducible refine Below.alloc ?_ ?_ _) | (with_reducible refine Below.drew ?_) | (with_reducible refine below_drewN ?_ _) | (with_reducible refine below_next ?_ (by with_reducible assumption)) | omega | (dsimp only; omega) | (simp only [World.size_alloc, World.size_setCell, World.size_drew, World.heap_drewN]; omega)))⟩; go_light; simp [truthV]; try grind)
  by_cases c3 : k = 3
  · subst c3
    go_enter Try.func29, Try.ntmps29
    go_wp2
    all_goals (go_returns; refine ⟨?_, by (repeat' (first | (with_reducible exact Below.refl _ _) | (with_reducible assumption) | (with_reducible refine Below.setCell ?_ ?_ _) | (with_reducible refine Below.alloc ?_ ?_ _) | (with_reducible refine Below.drew ?_) | (with_reducible refine below_drewN ?_ _) | (with_reducible refine below_next ?_ (by with_reducible assumption)) | omega | (dsimp only; omega) | (simp only [World.size_alloc, World.size_setCell, World.size_drew, World.heap_drewN]; omega)))⟩; go_light; simp [truthV, ford]; try grind)
  have d1 : (k == 1) = false := beq_eq_false_iff_ne.2 c1
  have d2 : (k == 2) = false := beq_eq_false_iff_ne.2 c2
  have d3 : (k == 3) = false := beq_eq_false_iff_ne.2 c3
  have hv : truthV k b = (decide (k = 4), decide (k = 4)) := by simp only [truthV, c1, c2, c3, if_false]; split <;> simp [*]
  have HV := Lib.hid hv
  clear hv c1 c2 c3
  go_enter Try.func29, Try.ntmps29
  go_wp2
  go_quiet (fail)
  go_wp2
  all_goals (go_returns; refine ⟨?_, by (repeat' (first | (with_reducible exact Below.refl _ _) | (with_reducible assumption) | (with_reducible refine Below.setCell ?_ ?_ _) | (with_reducible refine Below.alloc ?_ ?_ _) | (with_reducible refine Below.drew ?_) | (with_reducible refine below_drewN ?_ _) | (with_reducible refine below_next ?_ (by with_reducible assumption)) | omega | (dsimp only; omega) | (simp only [World.size_alloc, World.size_setCell, World.size_drew, World.heap_drewN]; omega)))⟩; go_light; rw [HV.out]; simp; try grind)

set_option maxHeartbeats 1000000 in
theorem ref_truth_any (k b l : Int) (hb : U64 b) (w : World) :
    Calls Try.prog 30 #[.agg #[.int .i64 k, .int .u64 b, .int .i64 l]] w fun e w' => e = .returned (.tuple #[.bool (truthV k b).1, .bool (truthV k b).2]) ∧ Below w.heap.size w w' := by
  by_cases c1 : k = 1
  · subst c1
    go_enter Try.func30, Try.ntmps30
    go_wp2_with (first | (go_at_call 44; with_reducible refine (ref_u32_any _ _ _ _).mono ?_; rintro e w' ⟨rfl, hbl⟩; obtain ⟨hc, hf, hz⟩ := cif hbl; (try simp only [World.size_alloc, World.size_setCell, World.size_drew, World.heap_drewN] at hz)) | (go_at_call 41; with_reducible refine (ref_dblx_any _ _ _ _).mono ?_; rintro e w' ⟨rfl, hbl⟩; obtain ⟨hc, hf, hz⟩ := cif hbl; (try simp only [World.size_alloc, World.size_setCell, World.size_drew, World.heap_drewN] at hz)))
    all_goals (go_returns; refine ⟨?_, by (repeat' (first | (with_reducible exact Below.refl _ _) | (with_reducible assumption) | (with_reducible refine Below.setCell ?_ ?_ _) | (with_reducible refine Below.alloc ?_ ?_ _) | (with_reducible refine Below.drew ?_) | (with_reducible refine below_drewN ?_ _) | (with_reducible refine below_next ?_ (by with_reducible assumption)) | omega | (dsimp only; omega) | (simp only [World.size_alloc, World.size_setCell, World.size_drew, World.heap_drewN]; omega)))⟩; go_light; simp [truthV]; try grind)
  by_cases c2 : k = 2
  · subst c2
    go_enter Try.func30, Try.ntmps30
    go_wp2
    all_goals (go_returns; refine ⟨?_, by (repeat' (first | (with_reducible exact Below.refl _ _) | (with_reducible assumption) | (with_reducible refine Below.setCell ?_ ?_ _) | (with_reducible refine Below.alloc ?_ ?_ _) | (with_reducible refine Below.drew ?_) | (with_reducible refine below_drewN ?_ _) | (with_reducible refine below_next ?_ (by with_reducible assumption)) | omega | (dsimp only; omega) | (simp only [World.size_alloc, World.size_setCell, World.size_drew, World.heap_drewN]; omega)))⟩; go_light; simp [truthV]; try grind)
  by_cases c3 : k = 3
  · subst c3
    go_enter Try.func30, Try.ntmps30
    go_wp2_with (first | (go_at_call 44; with_reducible refine (ref_u32_any _ _ _ _).mono ?_; rintro e w' ⟨rfl, hbl⟩; obtain ⟨hc, hf, hz⟩ := cif hbl; (try simp only [World.size_alloc, World.size_setCell, World.size_drew, World.heap_drewN] at hz)) | (go_at_call 41; with_reducible refine (ref_dblx_any _ _ _ _).mono ?_; rintro e w' ⟨rfl, hbl⟩; obtain ⟨hc, hf, hz⟩ := cif hbl; (try simp only [World.size_alloc, World.size_setCell, World.size_drew, World.heap_drewN] at hz)))
    all_goals (go_returns; refine ⟨?_, by (repeat' (first | (with_reducible exact Below.refl _ _) | (with_reducible assumption) | (with_reducible refine Below.setCell ?_ ?_ _) | (with_reducible refine Below.alloc ?_ ?_ _) | (with_reducible refine Below.drew ?_) | (with_reducible refine below_drewN ?_ _) | (with_reducible refine below_next ?_ (by with_reducible assumption)) | omega | (dsimp only; omega) | (simp only [World.size_alloc, World.size_setCell, World.size_drew, World.heap_drewN]; omega)))⟩; go_light; simp [truthV, ford]; try grind)
  have d1 : (k == 1) = false := beq_eq_false_iff_ne.2 c1
  have d2 : (k == 2) = false := beq_eq_false_iff_ne.2 c2
  have d3 : (k == 3) = false := beq_eq_false_iff_ne.2 c3
  have hv : truthV k b = (decide (k = 4), decide (k = 4)) := by simp only [truthV, c1, c2, c3, if_false]; split <;> simp [*]
  have HV := Lib.hid hv
  clear hv c1 c2 c3
  go_enter Try.func30, Try.ntmps30
  go_wp2
  all_goals (go_returns; refine ⟨?_, by (repeat' (first | (with_reducible exact Below.refl _ _) | (with_reducible assumption) | (with_reducible refine Below.setCell ?_ ?_ _) | (with_reducible refine Below.alloc ?_ ?_ _) | (with_reducible refine Below.drew ?_) | (with_reducible refine below_drewN ?_ _) | (with_reducible refine below_next ?_ (by with_reducible assumption)) | omega | (dsimp only; omega) | (simp only [World.size_alloc, World.size_setCell, World.size_drew, World.heap_drewN]; omega)))⟩; go_light; rw [HV.out]; simp; try grind)

set_option maxHeartbeats 1000000 in
theorem right_any (k b l : Int) (hb : U64 b) (w : World) :
    Calls Try.prog 27 #[.agg #[.int .i64 k, .int .u64 b, .int .i64 l]] w fun e w' => e = .returned (.bool (rightV k b l)) ∧ Below w.heap.size w w' := by
  obtain ⟨hb1, hb2⟩ := hb
  go_enter Try.func27, Try.ntmps27
  go_wp2
  all_goals (go_returns; refine ⟨?_, by (repeat' (first | (with_reducible exact Below.refl _ _) | (with_reducible assumption) | (with_reducible refine Below.setCell ?_ ?_ _) | (with_reducible refine Below.alloc ?_ ?_ _) | (with_reducible refine Below.drew ?_) | (with_reducible refine below_drewN ?_ _) | (with_reducible refine below_next ?_ (by with_reducible assumption)) | omega | (dsimp only; omega) | (simp only [World.size_alloc, World.size_setCell, World.size_drew, World.heap_drewN]; omega)))⟩; go_light; simp; grind [rightV])

set_option maxHeartbeats 1000000 in
theorem ref_right_any (k b l : Int) (hb : U64 b) (w : World) :
    Calls Try.prog 31 #[.agg #[.int .i64 k, .int .u64 b, .int .i64 l]] w fun e w' => e = .returned (.bool (rightV k b l)) ∧ Below w.heap.size w w' := by
  obtain ⟨hb1, hb2⟩ := hb
  go_enter Try.func31, Try.ntmps31
  go_wp2
  all_goals (go_returns; refine ⟨?_, by (repeat' (first | (with_reducible exact Below.refl _ _) | (with_reducible assumption) | (with_reducible refine Below.setCell ?_ ?_ _) | (with_reducible refine Below.alloc ?_ ?_ _) | (with_reducible refine Below.drew ?_) | (with_reducible refine below_drewN ?_ _) | (with_reducible refine below_next ?_ (by with_reducible assumption)) | omega | (dsimp only; omega) | (simp only [World.size_alloc, World.size_setCell, World.size_drew, World.heap_drewN]; omega)))⟩; go_light; simp; grind [rightV])

set_option maxHeartbeats 1000000 in
theorem same_any (k b l k2 b2 l2 : Int) (w : World) :
    Calls Try.prog 32 #[.agg #[.int .i64 k, .int .u64 b, .int .i64 l], .agg #[.int .i64 k2, .int .u64 b2, .int .i64 l2]] w fun e w' => e = .returned (.bool (decide (k = k2 ∧ b = b2 ∧ l = l2))) ∧ Below w.heap.size w w' := by
  go_enter Try.func32, Try.ntmps32
  go_wp2
  all_goals (go_returns; refine ⟨?_, by (repeat' (first | (with_reducible exact Below.refl _ _) | (with_reducible assumption) | (with_reducible refine Below.setCell ?_ ?_ _) | (with_reducible refine Below.alloc ?_ ?_ _) | (with_reducible refine Below.drew ?_) | (with_reducible refine below_drewN ?_ _) | (with_reducible refine below_next ?_ (by with_reducible assumption)) | omega | (dsimp only; omega) | (simp only [World.size_alloc, World.size_setCell, World.size_drew, World.heap_drewN]; omega)))⟩; go_light; simp; try grind)

end Go.Proofs.Ytonhphiajjkgaaa
