/-
  The walk of the statement MachTables.
-/
import Derived.Test.YtonhphiajjkgaaaMachW6
namespace Go.Proofs.Ytonhphiajjkgaaa
open Go.RowKit
set_option linter.unusedVariables false
set_option linter.unusedSimpArgs false
def kindV (c : Int) : Int := if 1 ≤ c ∧ c ≤ 5 then 1 else if c = 6 then 2 else if c = 7 then 3 else 0

set_option maxHeartbeats 400000 in
theorem ref_size_any (c : Int) (w : World) : Calls Try.prog 19 #[.int .i64 c] w fun e w' => e = .returned (.int .i64 (sizeV c)) ∧ w = w' := by
  go_enter Try.func19, Try.ntmps19
  go_wp2
  all_goals (go_returns; refine ⟨?_, rfl⟩; go_light; simp; grind [sizeV])
set_option maxHeartbeats 400000 in
theorem kind_any (c : Int) (w : World) : Calls Try.prog 20 #[.int .i64 c] w fun e w' => e = .returned (.int .i64 (kindV c)) ∧ w = w' := by
  go_enter Try.func20, Try.ntmps20
  go_wp2
  all_goals (go_returns; refine ⟨?_, rfl⟩; go_light; simp; grind [kindV])
set_option maxHeartbeats 400000 in
theorem ref_kind_any (c : Int) (w : World) : Calls Try.prog 21 #[.int .i64 c] w fun e w' => e = .returned (.int .i64 (kindV c)) ∧ w = w' := by
  go_enter Try.func21, Try.ntmps21
  go_wp2
  all_goals (go_returns; refine ⟨?_, rfl⟩; go_light; simp; grind [kindV])

set_option maxRecDepth 100000 in
set_option maxHeartbeats 4000000 in
theorem tables_walk (op chunk n block : Int) (h0 : I64 op) (h1 : I64 chunk) (h2 : I64 n) (h3 : I64 block) (w : World) :
    Calls Try.prog 6 #[.int .i64 op, .int .i64 chunk, .int .i64 n, .int .i64 block] w fun e w' => e = .returned (.bool true) ∧ Below w.heap.size w w' := by
  have hA1 := cell_alloc_if
  have hA2 := frozen_alloc_if
  have hA3 := cell_set_if
  obtain ⟨n1, n2⟩ := h2
  go_enter Try.func6, Try.ntmps6
  go_wp2_with (first
    | (go_at_call 10; with_reducible refine (fixed_any _).mono ?_; rintro e w' ⟨rfl, hbl⟩; obtain ⟨hc, hf, hz⟩ := cif hbl; (try simp only [World.size_alloc, World.size_setCell, World.size_drew, World.heap_drewN] at hz))
    | (go_at_call 16; with_reducible refine (shape_any _ h0 _).mono ?_; rintro e w' ⟨rfl, rfl⟩)
    | (go_at_call 17; with_reducible refine (ref_shape_any _ h0 _).mono ?_; rintro e w' ⟨rfl, rfl⟩)
    | (go_at_call 18; with_reducible refine (size_any _ _).mono ?_; rintro e w' ⟨rfl, rfl⟩)
    | (go_at_call 19; with_reducible refine (ref_size_any _ _).mono ?_; rintro e w' ⟨rfl, rfl⟩)
    | (go_at_call 20; with_reducible refine (kind_any _ _).mono ?_; rintro e w' ⟨rfl, rfl⟩)
    | (go_at_call 21; with_reducible refine (ref_kind_any _ _).mono ?_; rintro e w' ⟨rfl, rfl⟩)
    | (go_at_call 14; with_reducible refine (longOf_any _ _).mono ?_; rintro e w' ⟨rfl, hbl⟩; obtain ⟨hc, hf, hz⟩ := cif hbl; (try simp only [World.size_alloc, World.size_setCell, World.size_drew, World.heap_drewN] at hz))
    | (go_at_call 22; with_reducible refine (ref_long_any _ _).mono ?_; rintro e w' ⟨rfl, hbl⟩; obtain ⟨hc, hf, hz⟩ := cif hbl; (try simp only [World.size_alloc, World.size_setCell, World.size_drew, World.heap_drewN] at hz))
    | (go_at_call 13; with_reducible refine (intOf_any _ _).mono ?_; rintro e w' ⟨rfl, hbl⟩; obtain ⟨hc, hf, hz⟩ := cif hbl; (try simp only [World.size_alloc, World.size_setCell, World.size_drew, World.heap_drewN] at hz))
    | (go_at_call 23; with_reducible refine (ref_int_any _ _).mono ?_; rintro e w' ⟨rfl, hbl⟩; obtain ⟨hc, hf, hz⟩ := cif hbl; (try simp only [World.size_alloc, World.size_setCell, World.size_drew, World.heap_drewN] at hz))
    | (go_at_call 24; with_reducible refine (ptrOf_any _ _ _).mono ?_; rintro e w' ⟨rfl, hbl⟩; obtain ⟨hc, hf, hz⟩ := cif hbl; (try simp only [World.size_alloc, World.size_setCell, World.size_drew, World.heap_drewN] at hz))
    | (go_at_call 25; with_reducible refine (ref_ptr_any _ _ _).mono ?_; rintro e w' ⟨rfl, hbl⟩; obtain ⟨hc, hf, hz⟩ := cif hbl; (try simp only [World.size_alloc, World.size_setCell, World.size_drew, World.heap_drewN] at hz))
    | (go_at_call 15; with_reducible refine (doubleOf_any _ _).mono ?_; rintro e w' ⟨rfl, hbl⟩; obtain ⟨hc, hf, hz⟩ := cif hbl; (try simp only [World.size_alloc, World.size_setCell, World.size_drew, World.heap_drewN] at hz)))
  go_returns
  exact ⟨rfl, by (repeat' (first | exact Below.refl _ _ | assumption | refine below_next ?_ (by assumption) | refine Below.alloc ?_ ?_ _ | refine Below.setCell ?_ ?_ _ | refine Below.drew ?_ | refine below_drewN ?_ _ | go_size | (simp; omega)))⟩

end Go.Proofs.Ytonhphiajjkgaaa
