/-
  The walk of the statement MachTwo.
-/
import Derived.Test.YtonhphiajjkgaaaMachW9
namespace Go.Proofs.Ytonhphiajjkgaaa
open Go.RowKit
set_option linter.unusedVariables false
set_option linter.unusedSimpArgs false

set_option maxRecDepth 100000 in
set_option maxHeartbeats 4000000 in
theorem two_core (op k1 b1 l1 k2 b2 l2 a b c : Int) (d : Bool)
    (G1 : Hid (∀ w, Calls Try.prog 11 #[.int .i64 op, .agg #[.int .i64 k1, .int .u64 b1, .int .i64 l1], .agg #[.int .i64 k2, .int .u64 b2, .int .i64 l2]] w fun e w' => e = .returned (.tuple #[.agg #[.int .i64 a, .int .u64 b, .int .i64 c], .bool d]) ∧ Below w.heap.size w w'))
    (G2 : Hid (∀ w, Calls Try.prog 12 #[.int .i64 op, .agg #[.int .i64 k1, .int .u64 b1, .int .i64 l1], .agg #[.int .i64 k2, .int .u64 b2, .int .i64 l2]] w fun e w' => e = .returned (.tuple #[.agg #[.int .i64 a, .int .u64 b, .int .i64 c], .bool d]) ∧ Below w.heap.size w w')) (w : World) :
    Calls Try.prog 3 #[.int .i64 op, .agg #[.int .i64 k1, .int .u64 b1, .int .i64 l1], .agg #[.int .i64 k2, .int .u64 b2, .int .i64 l2]] w fun e w' => e = .returned (.bool true) ∧ Below w.heap.size w w' := by
  have hA1 := cell_alloc_if
  have hA2 := frozen_alloc_if
  have hA3 := cell_set_if
  cases d
  all_goals
    go_enter Try.func3, Try.ntmps3
    go_wp2_with (first
      | (go_at_call 10; with_reducible refine (fixed_any _).mono ?_; rintro e w' ⟨rfl, hbl⟩; obtain ⟨hc, hf, hz⟩ := cif hbl; (try simp only [World.size_alloc, World.size_setCell, World.size_drew, World.heap_drewN] at hz))
      | (go_at_call 11; with_reducible refine (G1.out _).mono ?_; rintro e w' ⟨rfl, hbl⟩; obtain ⟨hc, hf, hz⟩ := cif hbl; (try simp only [World.size_alloc, World.size_setCell, World.size_drew, World.heap_drewN] at hz))
      | (go_at_call 12; with_reducible refine (G2.out _).mono ?_; rintro e w' ⟨rfl, hbl⟩; obtain ⟨hc, hf, hz⟩ := cif hbl; (try simp only [World.size_alloc, World.size_setCell, World.size_drew, World.heap_drewN] at hz)))
    all_goals (go_returns; refine ⟨rfl, ?_⟩; clear hc hf; (repeat' (first | (with_reducible exact Below.refl _ _) | (with_reducible assumption) | (with_reducible refine Below.setCell ?_ ?_ _) | (with_reducible refine Below.alloc ?_ ?_ _) | (with_reducible refine Below.drew ?_) | (with_reducible refine below_drewN ?_ _) | (with_reducible refine below_next ?_ (by with_reducible assumption)) | omega | (dsimp only; omega) | (simp only [World.size_alloc, World.size_setCell, World.size_drew, World.heap_drewN]; omega))))

theorem two_walk (op k1 b1 l1 k2 b2 l2 : Int) (hi : I64 op) (hx : I64 k1 ∧ U64 b1 ∧ I64 l1) (hy : I64 k2 ∧ U64 b2 ∧ I64 l2) (w : World) :
    Calls Try.prog 3 #[.int .i64 op, .agg #[.int .i64 k1, .int .u64 b1, .int .i64 l1], .agg #[.int .i64 k2, .int .u64 b2, .int .i64 l2]] w fun e w' => e = .returned (.bool true) ∧ Below w.heap.size w w' :=
  two_core op k1 b1 l1 k2 b2 l2 _ _ _ _ (Lib.hid (eval2_any op k1 b1 l1 k2 b2 l2 hi hx.2.1 hy.2.1)) (Lib.hid (ref_eval2_any op k1 b1 l1 k2 b2 l2 hi hx.2.1 hy.2.1)) w

end Go.Proofs.Ytonhphiajjkgaaa
