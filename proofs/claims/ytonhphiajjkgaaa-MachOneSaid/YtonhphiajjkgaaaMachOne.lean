/-
  The walk of the statement MachOne.
-/
import Derived.Test.YtonhphiajjkgaaaMachE5
import Derived.Outline
namespace Go.Proofs.Ytonhphiajjkgaaa
open Go.RowKit
set_option linter.unusedVariables false
set_option linter.unusedSimpArgs false

theorem eqV_run (k1 b1 l1 k2 b2 l2 : Int) (w : World) : (binOp .eql 24 (.agg #[.int .i64 k1, .int .u64 b1, .int .i64 l1]) (.agg #[.int .i64 k2, .int .u64 b2, .int .i64 l2])).run Try.prog w = .ok (.bool ((k1 == k2) && ((b1 == b2) && (l1 == l2)))) w := by
  by_cases h1 : k1 = k2
  · by_cases h2 : b1 = b2
    · by_cases h3 : l1 = l2
      · simp [go_sem, *]
      · simp [go_sem, *]
    · simp [go_sem, *]
  · simp [go_sem, *]
set_option maxRecDepth 100000 in
set_option maxHeartbeats 8000000 in
theorem one_core (op k1 b1 l1 k2 b2 l2 a b c : Int) (d t m r s : Bool) (hs : ((k1 == k2) && ((b1 == b2) && (l1 == l2))) = s)
    (G1 : Hid (∀ w, Calls Try.prog 26 #[.int .i64 op, .agg #[.int .i64 k1, .int .u64 b1, .int .i64 l1]] w fun e w' => e = .returned (.tuple #[.agg #[.int .i64 a, .int .u64 b, .int .i64 c], .bool d]) ∧ Below w.heap.size w w'))
    (G2 : Hid (∀ w, Calls Try.prog 28 #[.int .i64 op, .agg #[.int .i64 k1, .int .u64 b1, .int .i64 l1]] w fun e w' => e = .returned (.tuple #[.agg #[.int .i64 a, .int .u64 b, .int .i64 c], .bool d]) ∧ Below w.heap.size w w'))
    (T1 : Hid (∀ w, Calls Try.prog 29 #[.agg #[.int .i64 k1, .int .u64 b1, .int .i64 l1]] w fun e w' => e = .returned (.tuple #[.bool t, .bool m]) ∧ Below w.heap.size w w'))
    (T2 : Hid (∀ w, Calls Try.prog 30 #[.agg #[.int .i64 k1, .int .u64 b1, .int .i64 l1]] w fun e w' => e = .returned (.tuple #[.bool t, .bool m]) ∧ Below w.heap.size w w'))
    (R1 : Hid (∀ w, Calls Try.prog 27 #[.agg #[.int .i64 k1, .int .u64 b1, .int .i64 l1]] w fun e w' => e = .returned (.bool r) ∧ Below w.heap.size w w'))
    (R2 : Hid (∀ w, Calls Try.prog 31 #[.agg #[.int .i64 k1, .int .u64 b1, .int .i64 l1]] w fun e w' => e = .returned (.bool r) ∧ Below w.heap.size w w'))
    (SM : Hid (∀ w, Calls Try.prog 32 #[.agg #[.int .i64 k1, .int .u64 b1, .int .i64 l1], .agg #[.int .i64 k2, .int .u64 b2, .int .i64 l2]] w fun e w' => e = .returned (.bool s) ∧ Below w.heap.size w w')) (w : World) :
    Calls Try.prog 9 #[.int .i64 op, .agg #[.int .i64 k1, .int .u64 b1, .int .i64 l1], .agg #[.int .i64 k2, .int .u64 b2, .int .i64 l2]] w fun e w' => e = .returned (.bool true) ∧ Below w.heap.size w w' := by
  have heq := eqV_run k1 b1 l1 k2 b2 l2
  rw [hs] at heq
  clear hs
  have hA1 := cell_alloc_if
  have hA2 := frozen_alloc_if
  have hA3 := cell_set_if
  go_enter Try.func9, Try.ntmps9
  go_wp2_with (first
    | (go_at_call 10; with_reducible refine (fixed_any _).mono ?_; rintro e w' ⟨rfl, hbl⟩; obtain ⟨hc, hf, hz⟩ := cif hbl; (try simp only [World.size_alloc, World.size_setCell, World.size_drew, World.heap_drewN] at hz))
    | (go_at_call 26; with_reducible refine (G1.out _).mono ?_; rintro e w' ⟨rfl, hbl⟩; obtain ⟨hc, hf, hz⟩ := cif hbl; (try simp only [World.size_alloc, World.size_setCell, World.size_drew, World.heap_drewN] at hz))
    | (go_at_call 28; with_reducible refine (G2.out _).mono ?_; rintro e w' ⟨rfl, hbl⟩; obtain ⟨hc, hf, hz⟩ := cif hbl; (try simp only [World.size_alloc, World.size_setCell, World.size_drew, World.heap_drewN] at hz))
    | (go_at_call 29; with_reducible refine (T1.out _).mono ?_; rintro e w' ⟨rfl, hbl⟩; obtain ⟨hc, hf, hz⟩ := cif hbl; (try simp only [World.size_alloc, World.size_setCell, World.size_drew, World.heap_drewN] at hz))
    | (go_at_call 30; with_reducible refine (T2.out _).mono ?_; rintro e w' ⟨rfl, hbl⟩; obtain ⟨hc, hf, hz⟩ := cif hbl; (try simp only [World.size_alloc, World.size_setCell, World.size_drew, World.heap_drewN] at hz)))
  refine wp_region_ext (by kernel_rfl) (by kernel_rfl) ?_
  repeat (first | go_big_quiet_skip | (go_big_quiet_want; go_big_quiet_op; first | go_big_quiet_on | (apply Exists.intro; refine ⟨fun W hW => ?_, ?_⟩; (focus (first
    | (go_at_call 27; with_reducible refine (R1.out _).mono ?_; rintro e w1 ⟨rfl, hb⟩; exact ⟨rfl, Ext.next hW hb⟩)
      | (go_at_call 31; with_reducible refine (R2.out _).mono ?_; rintro e w1 ⟨rfl, hb⟩; exact ⟨rfl, Ext.next hW hb⟩)
      | (go_at_call 32; with_reducible refine (SM.out _).mono ?_; rintro e w1 ⟨rfl, hb⟩; exact ⟨rfl, Ext.next hW hb⟩)
    | exact rfl | (obtain ⟨hcW, hfW, hzW⟩ := cif (Ext.of hW); (try simp only [World.size_alloc, World.size_setCell, World.size_drew, World.heap_drewN] at hzW); simp [go_sem, *, ↓IntWalk.iteOmega]; (try exact rfl)))); go_big_quiet_on)))
  refine wpQuiet_nil ?_
  intro w' hw'
  have hbl := Ext.of hw'
  obtain ⟨hc, hf, hz⟩ := cif hbl
  (try simp only [World.size_alloc, World.size_setCell, World.size_drew, World.heap_drewN] at hz)
  clear hw'
  go_wp2
  all_goals (go_returns; refine ⟨rfl, ?_⟩; clear hc hf; (repeat' (first | (with_reducible exact Below.refl _ _) | (with_reducible assumption) | (with_reducible refine Below.setCell ?_ ?_ _) | (with_reducible refine Below.alloc ?_ ?_ _) | (with_reducible refine Below.drew ?_) | (with_reducible refine below_drewN ?_ _) | (with_reducible refine below_next ?_ (by with_reducible assumption)) | omega | (dsimp only; omega) | (simp only [World.size_alloc, World.size_setCell, World.size_drew, World.heap_drewN]; omega))))

theorem one_walk (op k1 b1 l1 k2 b2 l2 : Int) (hi : I64 op) (hx : I64 k1 ∧ U64 b1 ∧ I64 l1) (hy : I64 k2 ∧ U64 b2 ∧ I64 l2) (w : World) :
    Calls Try.prog 9 #[.int .i64 op, .agg #[.int .i64 k1, .int .u64 b1, .int .i64 l1], .agg #[.int .i64 k2, .int .u64 b2, .int .i64 l2]] w fun e w' => e = .returned (.bool true) ∧ Below w.heap.size w w' :=
  one_core op k1 b1 l1 k2 b2 l2 _ _ _ _ _ _ _ _ (by rw [Bool.eq_iff_iff]; simp) (Lib.hid (eval1_any op k1 b1 l1 hi hx.2.1)) (Lib.hid (ref_eval1_any op k1 b1 l1 hi hx.2.1))
    (Lib.hid (truth_any k1 b1 l1 hx.2.1)) (Lib.hid (ref_truth_any k1 b1 l1 hx.2.1)) (Lib.hid (right_any k1 b1 l1 hx.2.1)) (Lib.hid (ref_right_any k1 b1 l1 hx.2.1)) (Lib.hid (same_any k1 b1 l1 k2 b2 l2)) w

end Go.Proofs.Ytonhphiajjkgaaa
