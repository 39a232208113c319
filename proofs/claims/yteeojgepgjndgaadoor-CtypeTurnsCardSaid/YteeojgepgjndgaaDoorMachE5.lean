/-
  An operation of one, joined: the program's and the reference's answer eval1.
-/
import Derived.Test.YteeojgepgjndgaaDoorMachE4
namespace Go.Proofs.YteeojgepgjndgaaDoor
open Go.RowKit
set_option linter.unusedVariables false
set_option maxRecDepth 100000
set_option linter.unusedSimpArgs false
attribute [local go_sem] frombits_run tobits_run

set_option maxRecDepth 100000 in
set_option maxHeartbeats 4000000 in
theorem ev_91 (b l : Int) (hb : U64 b) (w : World) :
    Calls Tryd.prog 74 #[.int .i64 91, .agg #[.int .i64 3, .int .u64 b, .int .i64 l]] w fun e w' => e = .returned (.tuple #[.agg #[.int .i64 (toWholeV 91 b.toNat).1.k, .int .u64 (toWholeV 91 b.toNat).1.b, .int .i64 (toWholeV 91 b.toNat).1.l], .bool (toWholeV 91 b.toNat).2]) ∧ Below w.heap.size w w' := by
  have HT := Lib.hid (toWhole_any 91 b.toNat (by simp))
  have hsh := shape_any 91 (by unfold I64; omega)
  rw [show shape 91 = (3, 0, 1) from by kernel_rfl] at hsh
  have HS := Lib.hid hsh
  clear hsh
  have hb0 := hb
  obtain ⟨b1, b2⟩ := hb
  have hA1 := cell_alloc_if
  have hA2 := frozen_alloc_if
  have hA3 := cell_set_if
  go_enter Tryd.func74, Tryd.ntmps74
  go_wp2_with (first
    | (go_at_call 90; with_reducible refine (HS.out _).mono ?_; rintro e w' ⟨rfl, rfl⟩)
    | (go_at_call 91; with_reducible refine (intOf_any _ _).mono ?_; rintro e w' ⟨rfl, hbl⟩; obtain ⟨hc, hf, hz⟩ := cif hbl; (try simp only [World.size_alloc, World.size_setCell, World.size_drew, World.heap_drewN] at hz))
    | (go_at_call 38; with_reducible refine (longOf_any _ _).mono ?_; rintro e w' ⟨rfl, hbl⟩; obtain ⟨hc, hf, hz⟩ := cif hbl; (try simp only [World.size_alloc, World.size_setCell, World.size_drew, World.heap_drewN] at hz))
    | (go_at_call 92; with_reducible refine (doubleOf_any _ _).mono ?_; rintro e w' ⟨rfl, hbl⟩; obtain ⟨hc, hf, hz⟩ := cif hbl; (try simp only [World.size_alloc, World.size_setCell, World.size_drew, World.heap_drewN] at hz))
    | (go_at_call 93; with_reducible refine (float_any _ _).mono ?_; rintro e w' ⟨rfl, hbl⟩; obtain ⟨hc, hf, hz⟩ := cif hbl; (try simp only [World.size_alloc, World.size_setCell, World.size_drew, World.heap_drewN] at hz))
    | (go_at_call 94; with_reducible refine (HT.out _).mono ?_; rintro e w' ⟨rfl, hbl⟩; obtain ⟨hc, hf, hz⟩ := cif hbl; (try simp only [World.size_alloc, World.size_setCell, World.size_drew, World.heap_drewN] at hz))
    | (go_at_call 88; with_reducible refine (HR.out _).mono ?_; rintro e w' ⟨rfl, hbl⟩; obtain ⟨hc, hf, hz⟩ := cif hbl; (try simp only [World.size_alloc, World.size_setCell, World.size_drew, World.heap_drewN] at hz))
    | (go_at_call 89; with_reducible refine (flag_any _ _).mono ?_; rintro e w' ⟨rfl, hbl⟩; obtain ⟨hc, hf, hz⟩ := cif hbl; (try simp only [World.size_alloc, World.size_setCell, World.size_drew, World.heap_drewN] at hz)))
  go_quiet (fail)
  go_wp2_with (first
    | (go_at_call 90; with_reducible refine (HS.out _).mono ?_; rintro e w' ⟨rfl, rfl⟩)
    | (go_at_call 91; with_reducible refine (intOf_any _ _).mono ?_; rintro e w' ⟨rfl, hbl⟩; obtain ⟨hc, hf, hz⟩ := cif hbl; (try simp only [World.size_alloc, World.size_setCell, World.size_drew, World.heap_drewN] at hz))
    | (go_at_call 38; with_reducible refine (longOf_any _ _).mono ?_; rintro e w' ⟨rfl, hbl⟩; obtain ⟨hc, hf, hz⟩ := cif hbl; (try simp only [World.size_alloc, World.size_setCell, World.size_drew, World.heap_drewN] at hz))
    | (go_at_call 92; with_reducible refine (doubleOf_any _ _).mono ?_; rintro e w' ⟨rfl, hbl⟩; obtain ⟨hc, hf, hz⟩ := cif hbl; (try simp only [World.size_alloc, World.size_setCell, World.size_drew, World.heap_drewN] at hz))
    | (go_at_call 93; with_reducible refine (float_any _ _).mono ?_; rintro e w' ⟨rfl, hbl⟩; obtain ⟨hc, hf, hz⟩ := cif hbl; (try simp only [World.size_alloc, World.size_setCell, World.size_drew, World.heap_drewN] at hz))
    | (go_at_call 94; with_reducible refine (HT.out _).mono ?_; rintro e w' ⟨rfl, hbl⟩; obtain ⟨hc, hf, hz⟩ := cif hbl; (try simp only [World.size_alloc, World.size_setCell, World.size_drew, World.heap_drewN] at hz))
    | (go_at_call 88; with_reducible refine (HR.out _).mono ?_; rintro e w' ⟨rfl, hbl⟩; obtain ⟨hc, hf, hz⟩ := cif hbl; (try simp only [World.size_alloc, World.size_setCell, World.size_drew, World.heap_drewN] at hz))
    | (go_at_call 89; with_reducible refine (flag_any _ _).mono ?_; rintro e w' ⟨rfl, hbl⟩; obtain ⟨hc, hf, hz⟩ := cif hbl; (try simp only [World.size_alloc, World.size_setCell, World.size_drew, World.heap_drewN] at hz)))
  all_goals (((try simp only [Exit.inBlock, Exit.then]); go_light; refine bodyPost_ret (by simp [results, Tryd.results74, go_sem, *, ↓IntWalk.iteOmega]; try rfl) rfl ?_); refine ⟨congrArg Ending.returned ?_, by (repeat' (first | (with_reducible exact Below.refl _ _) | (with_reducible assumption) | (with_reducible refine Below.setCell ?_ ?_ _) | (with_reducible refine Below.alloc ?_ ?_ _) | (with_reducible refine Below.drew ?_) | (with_reducible refine below_drewN ?_ _) | (with_reducible refine below_next ?_ (by with_reducible assumption)) | omega | (dsimp only; omega) | (simp only [World.size_alloc, World.size_setCell, World.size_drew, World.heap_drewN]; omega)))⟩; simp [conv1, intV, longV, dblV, IntKind.wrap_u64, wrap32_mod, wrap64_mod, wrap32_mod', i8_w, i8_m, i16_w, i16_m, not_i32, not_i64, IntKind.wrap_u16, mod_u64 b hb0]; try (simp only [wrap32, wrap64]; omega))
set_option maxRecDepth 100000 in
set_option maxHeartbeats 4000000 in
theorem ev_92 (b l : Int) (hb : U64 b) (w : World) :
    Calls Tryd.prog 74 #[.int .i64 92, .agg #[.int .i64 3, .int .u64 b, .int .i64 l]] w fun e w' => e = .returned (.tuple #[.agg #[.int .i64 (toWholeV 92 b.toNat).1.k, .int .u64 (toWholeV 92 b.toNat).1.b, .int .i64 (toWholeV 92 b.toNat).1.l], .bool (toWholeV 92 b.toNat).2]) ∧ Below w.heap.size w w' := by
  have HT := Lib.hid (toWhole_any 92 b.toNat (by simp))
  have hsh := shape_any 92 (by unfold I64; omega)
  rw [show shape 92 = (3, 0, 1) from by kernel_rfl] at hsh
  have HS := Lib.hid hsh
  clear hsh
  have hb0 := hb
  obtain ⟨b1, b2⟩ := hb
  have hA1 := cell_alloc_if
  have hA2 := frozen_alloc_if
  have hA3 := cell_set_if
  go_enter Tryd.func74, Tryd.ntmps74
  go_wp2_with (first
    | (go_at_call 90; with_reducible refine (HS.out _).mono ?_; rintro e w' ⟨rfl, rfl⟩)
    | (go_at_call 91; with_reducible refine (intOf_any _ _).mono ?_; rintro e w' ⟨rfl, hbl⟩; obtain ⟨hc, hf, hz⟩ := cif hbl; (try simp only [World.size_alloc, World.size_setCell, World.size_drew, World.heap_drewN] at hz))
    | (go_at_call 38; with_reducible refine (longOf_any _ _).mono ?_; rintro e w' ⟨rfl, hbl⟩; obtain ⟨hc, hf, hz⟩ := cif hbl; (try simp only [World.size_alloc, World.size_setCell, World.size_drew, World.heap_drewN] at hz))
    | (go_at_call 92; with_reducible refine (doubleOf_any _ _).mono ?_; rintro e w' ⟨rfl, hbl⟩; obtain ⟨hc, hf, hz⟩ := cif hbl; (try simp only [World.size_alloc, World.size_setCell, World.size_drew, World.heap_drewN] at hz))
    | (go_at_call 93; with_reducible refine (float_any _ _).mono ?_; rintro e w' ⟨rfl, hbl⟩; obtain ⟨hc, hf, hz⟩ := cif hbl; (try simp only [World.size_alloc, World.size_setCell, World.size_drew, World.heap_drewN] at hz))
    | (go_at_call 94; with_reducible refine (HT.out _).mono ?_; rintro e w' ⟨rfl, hbl⟩; obtain ⟨hc, hf, hz⟩ := cif hbl; (try simp only [World.size_alloc, World.size_setCell, World.size_drew, World.heap_drewN] at hz))
    | (go_at_call 88; with_reducible refine (HR.out _).mono ?_; rintro e w' ⟨rfl, hbl⟩; obtain ⟨hc, hf, hz⟩ := cif hbl; (try simp only [World.size_alloc, World.size_setCell, World.size_drew, World.heap_drewN] at hz))
    | (go_at_call 89; with_reducible refine (flag_any _ _).mono ?_; rintro e w' ⟨rfl, hbl⟩; obtain ⟨hc, hf, hz⟩ := cif hbl; (try simp only [World.size_alloc, World.size_setCell, World.size_drew, World.heap_drewN] at hz)))
  go_quiet (fail)
  go_wp2_with (first
    | (go_at_call 90; with_reducible refine (HS.out _).mono ?_; rintro e w' ⟨rfl, rfl⟩)
    | (go_at_call 91; with_reducible refine (intOf_any _ _).mono ?_; rintro e w' ⟨rfl, hbl⟩; obtain ⟨hc, hf, hz⟩ := cif hbl; (try simp only [World.size_alloc, World.size_setCell, World.size_drew, World.heap_drewN] at hz))
    | (go_at_call 38; with_reducible refine (longOf_any _ _).mono ?_; rintro e w' ⟨rfl, hbl⟩; obtain ⟨hc, hf, hz⟩ := cif hbl; (try simp only [World.size_alloc, World.size_setCell, World.size_drew, World.heap_drewN] at hz))
    | (go_at_call 92; with_reducible refine (doubleOf_any _ _).mono ?_; rintro e w' ⟨rfl, hbl⟩; obtain ⟨hc, hf, hz⟩ := cif hbl; (try simp only [World.size_alloc, World.size_setCell, World.size_drew, World.heap_drewN] at hz))
    | (go_at_call 93; with_reducible refine (float_any _ _).mono ?_; rintro e w' ⟨rfl, hbl⟩; obtain ⟨hc, hf, hz⟩ := cif hbl; (try simp only [World.size_alloc, World.size_setCell, World.size_drew, World.heap_drewN] at hz))
    | (go_at_call 94; with_reducible refine (HT.out _).mono ?_; rintro e w' ⟨rfl, hbl⟩; obtain ⟨hc, hf, hz⟩ := cif hbl; (try simp only [World.size_alloc, World.size_setCell, World.size_drew, World.heap_drewN] at hz))
    | (go_at_call 88; with_reducible refine (HR.out _).mono ?_; rintro e w' ⟨rfl, hbl⟩; obtain ⟨hc, hf, hz⟩ := cif hbl; (try simp only [World.size_alloc, World.size_setCell, World.size_drew, World.heap_drewN] at hz))
    | (go_at_call 89; with_reducible refine (flag_any _ _).mono ?_; rintro e w' ⟨rfl, hbl⟩; obtain ⟨hc, hf, hz⟩ := cif hbl; (try simp only [World.size_alloc, World.size_setCell, World.size_drew, World.heap_drewN] at hz)))
  all_goals (((try simp only [Exit.inBlock, Exit.then]); go_light; refine bodyPost_ret (by simp [results, Tryd.results74, go_sem, *, ↓IntWalk.iteOmega]; try rfl) rfl ?_); refine ⟨congrArg Ending.returned ?_, by (repeat' (first | (with_reducible exact Below.refl _ _) | (with_reducible assumption) | (with_reducible refine Below.setCell ?_ ?_ _) | (with_reducible refine Below.alloc ?_ ?_ _) | (with_reducible refine Below.drew ?_) | (with_reducible refine below_drewN ?_ _) | (with_reducible refine below_next ?_ (by with_reducible assumption)) | omega | (dsimp only; omega) | (simp only [World.size_alloc, World.size_setCell, World.size_drew, World.heap_drewN]; omega)))⟩; simp [conv1, intV, longV, dblV, IntKind.wrap_u64, wrap32_mod, wrap64_mod, wrap32_mod', i8_w, i8_m, i16_w, i16_m, not_i32, not_i64, IntKind.wrap_u16, mod_u64 b hb0]; try (simp only [wrap32, wrap64]; omega))
set_option maxRecDepth 100000 in
set_option maxHeartbeats 4000000 in
theorem ev_93 (b l : Int) (hb : U64 b) (w : World) :
    Calls Tryd.prog 74 #[.int .i64 93, .agg #[.int .i64 3, .int .u64 b, .int .i64 l]] w fun e w' => e = .returned (.tuple #[.agg #[.int .i64 (toWholeV 93 b.toNat).1.k, .int .u64 (toWholeV 93 b.toNat).1.b, .int .i64 (toWholeV 93 b.toNat).1.l], .bool (toWholeV 93 b.toNat).2]) ∧ Below w.heap.size w w' := by
  have HT := Lib.hid (toWhole_any 93 b.toNat (by simp))
  have hsh := shape_any 93 (by unfold I64; omega)
  rw [show shape 93 = (3, 0, 2) from by kernel_rfl] at hsh
  have HS := Lib.hid hsh
  clear hsh
  have hb0 := hb
  obtain ⟨b1, b2⟩ := hb
  have hA1 := cell_alloc_if
  have hA2 := frozen_alloc_if
  have hA3 := cell_set_if
  go_enter Tryd.func74, Tryd.ntmps74
  go_wp2_with (first
    | (go_at_call 90; with_reducible refine (HS.out _).mono ?_; rintro e w' ⟨rfl, rfl⟩)
    | (go_at_call 91; with_reducible refine (intOf_any _ _).mono ?_; rintro e w' ⟨rfl, hbl⟩; obtain ⟨hc, hf, hz⟩ := cif hbl; (try simp only [World.size_alloc, World.size_setCell, World.size_drew, World.heap_drewN] at hz))
    | (go_at_call 38; with_reducible refine (longOf_any _ _).mono ?_; rintro e w' ⟨rfl, hbl⟩; obtain ⟨hc, hf, hz⟩ := cif hbl; (try simp only [World.size_alloc, World.size_setCell, World.size_drew, World.heap_drewN] at hz))
    | (go_at_call 92; with_reducible refine (doubleOf_any _ _).mono ?_; rintro e w' ⟨rfl, hbl⟩; obtain ⟨hc, hf, hz⟩ := cif hbl; (try simp only [World.size_alloc, World.size_setCell, World.size_drew, World.heap_drewN] at hz))
    | (go_at_call 93; with_reducible refine (float_any _ _).mono ?_; rintro e w' ⟨rfl, hbl⟩; obtain ⟨hc, hf, hz⟩ := cif hbl; (try simp only [World.size_alloc, World.size_setCell, World.size_drew, World.heap_drewN] at hz))
    | (go_at_call 94; with_reducible refine (HT.out _).mono ?_; rintro e w' ⟨rfl, hbl⟩; obtain ⟨hc, hf, hz⟩ := cif hbl; (try simp only [World.size_alloc, World.size_setCell, World.size_drew, World.heap_drewN] at hz))
    | (go_at_call 88; with_reducible refine (HR.out _).mono ?_; rintro e w' ⟨rfl, hbl⟩; obtain ⟨hc, hf, hz⟩ := cif hbl; (try simp only [World.size_alloc, World.size_setCell, World.size_drew, World.heap_drewN] at hz))
    | (go_at_call 89; with_reducible refine (flag_any _ _).mono ?_; rintro e w' ⟨rfl, hbl⟩; obtain ⟨hc, hf, hz⟩ := cif hbl; (try simp only [World.size_alloc, World.size_setCell, World.size_drew, World.heap_drewN] at hz)))
  go_quiet (fail)
  go_wp2_with (first
    | (go_at_call 90; with_reducible refine (HS.out _).mono ?_; rintro e w' ⟨rfl, rfl⟩)
    | (go_at_call 91; with_reducible refine (intOf_any _ _).mono ?_; rintro e w' ⟨rfl, hbl⟩; obtain ⟨hc, hf, hz⟩ := cif hbl; (try simp only [World.size_alloc, World.size_setCell, World.size_drew, World.heap_drewN] at hz))
    | (go_at_call 38; with_reducible refine (longOf_any _ _).mono ?_; rintro e w' ⟨rfl, hbl⟩; obtain ⟨hc, hf, hz⟩ := cif hbl; (try simp only [World.size_alloc, World.size_setCell, World.size_drew, World.heap_drewN] at hz))
    | (go_at_call 92; with_reducible refine (doubleOf_any _ _).mono ?_; rintro e w' ⟨rfl, hbl⟩; obtain ⟨hc, hf, hz⟩ := cif hbl; (try simp only [World.size_alloc, World.size_setCell, World.size_drew, World.heap_drewN] at hz))
    | (go_at_call 93; with_reducible refine (float_any _ _).mono ?_; rintro e w' ⟨rfl, hbl⟩; obtain ⟨hc, hf, hz⟩ := cif hbl; (try simp only [World.size_alloc, World.size_setCell, World.size_drew, World.heap_drewN] at hz))
    | (go_at_call 94; with_reducible refine (HT.out _).mono ?_; rintro e w' ⟨rfl, hbl⟩; obtain ⟨hc, hf, hz⟩ := cif hbl; (try simp only [World.size_alloc, World.size_setCell, World.size_drew, World.heap_drewN] at hz))
    | (go_at_call 88; with_reducible refine (HR.out _).mono ?_; rintro e w' ⟨rfl, hbl⟩; obtain ⟨hc, hf, hz⟩ := cif hbl; (try simp only [World.size_alloc, World.size_setCell, World.size_drew, World.heap_drewN] at hz))
    | (go_at_call 89; with_reducible refine (flag_any _ _).mono ?_; rintro e w' ⟨rfl, hbl⟩; obtain ⟨hc, hf, hz⟩ := cif hbl; (try simp only [World.size_alloc, World.size_setCell, World.size_drew, World.heap_drewN] at hz)))
  all_goals (((try simp only [Exit.inBlock, Exit.then]); go_light; refine bodyPost_ret (by simp [results, Tryd.results74, go_sem, *, ↓IntWalk.iteOmega]; try rfl) rfl ?_); refine ⟨congrArg Ending.returned ?_, by (repeat' (first | (with_reducible exact Below.refl _ _) | (with_reducible assumption) | (with_reducible refine Below.setCell ?_ ?_ _) | (with_reducible refine Below.alloc ?_ ?_ _) | (with_reducible refine Below.drew ?_) | (with_reducible refine below_drewN ?_ _) | (with_reducible refine below_next ?_ (by with_reducible assumption)) | omega | (dsimp only; omega) | (simp only [World.size_alloc, World.size_setCell, World.size_drew, World.heap_drewN]; omega)))⟩; simp [conv1, intV, longV, dblV, IntKind.wrap_u64, wrap32_mod, wrap64_mod, wrap32_mod', i8_w, i8_m, i16_w, i16_m, not_i32, not_i64, IntKind.wrap_u16, mod_u64 b hb0]; try (simp only [wrap32, wrap64]; omega))
set_option maxRecDepth 100000 in
set_option maxHeartbeats 4000000 in
theorem ev_94 (b l : Int) (hb : U64 b) (w : World) :
    Calls Tryd.prog 74 #[.int .i64 94, .agg #[.int .i64 3, .int .u64 b, .int .i64 l]] w fun e w' => e = .returned (.tuple #[.agg #[.int .i64 (toWholeV 94 b.toNat).1.k, .int .u64 (toWholeV 94 b.toNat).1.b, .int .i64 (toWholeV 94 b.toNat).1.l], .bool (toWholeV 94 b.toNat).2]) ∧ Below w.heap.size w w' := by
  have HT := Lib.hid (toWhole_any 94 b.toNat (by simp))
  have hsh := shape_any 94 (by unfold I64; omega)
  rw [show shape 94 = (3, 0, 2) from by kernel_rfl] at hsh
  have HS := Lib.hid hsh
  clear hsh
  have hb0 := hb
  obtain ⟨b1, b2⟩ := hb
  have hA1 := cell_alloc_if
  have hA2 := frozen_alloc_if
  have hA3 := cell_set_if
  go_enter Tryd.func74, Tryd.ntmps74
  go_wp2_with (first
    | (go_at_call 90; with_reducible refine (HS.out _).mono ?_; rintro e w' ⟨rfl, rfl⟩)
    | (go_at_call 91; with_reducible refine (intOf_any _ _).mono ?_; rintro e w' ⟨rfl, hbl⟩; obtain ⟨hc, hf, hz⟩ := cif hbl; (try simp only [World.size_alloc, World.size_setCell, World.size_drew, World.heap_drewN] at hz))
    | (go_at_call 38; with_reducible refine (longOf_any _ _).mono ?_; rintro e w' ⟨rfl, hbl⟩; obtain ⟨hc, hf, hz⟩ := cif hbl; (try simp only [World.size_alloc, World.size_setCell, World.size_drew, World.heap_drewN] at hz))
    | (go_at_call 92; with_reducible refine (doubleOf_any _ _).mono ?_; rintro e w' ⟨rfl, hbl⟩; obtain ⟨hc, hf, hz⟩ := cif hbl; (try simp only [World.size_alloc, World.size_setCell, World.size_drew, World.heap_drewN] at hz))
    | (go_at_call 93; with_reducible refine (float_any _ _).mono ?_; rintro e w' ⟨rfl, hbl⟩; obtain ⟨hc, hf, hz⟩ := cif hbl; (try simp only [World.size_alloc, World.size_setCell, World.size_drew, World.heap_drewN] at hz))
    | (go_at_call 94; with_reducible refine (HT.out _).mono ?_; rintro e w' ⟨rfl, hbl⟩; obtain ⟨hc, hf, hz⟩ := cif hbl; (try simp only [World.size_alloc, World.size_setCell, World.size_drew, World.heap_drewN] at hz))
    | (go_at_call 88; with_reducible refine (HR.out _).mono ?_; rintro e w' ⟨rfl, hbl⟩; obtain ⟨hc, hf, hz⟩ := cif hbl; (try simp only [World.size_alloc, World.size_setCell, World.size_drew, World.heap_drewN] at hz))
    | (go_at_call 89; with_reducible refine (flag_any _ _).mono ?_; rintro e w' ⟨rfl, hbl⟩; obtain ⟨hc, hf, hz⟩ := cif hbl; (try simp only [World.size_alloc, World.size_setCell, World.size_drew, World.heap_drewN] at hz)))
  go_quiet (fail)
  go_wp2_with (first
    | (go_at_call 90; with_reducible refine (HS.out _).mono ?_; rintro e w' ⟨rfl, rfl⟩)
    | (go_at_call 91; with_reducible refine (intOf_any _ _).mono ?_; rintro e w' ⟨rfl, hbl⟩; obtain ⟨hc, hf, hz⟩ := cif hbl; (try simp only [World.size_alloc, World.size_setCell, World.size_drew, World.heap_drewN] at hz))
    | (go_at_call 38; with_reducible refine (longOf_any _ _).mono ?_; rintro e w' ⟨rfl, hbl⟩; obtain ⟨hc, hf, hz⟩ := cif hbl; (try simp only [World.size_alloc, World.size_setCell, World.size_drew, World.heap_drewN] at hz))
    | (go_at_call 92; with_reducible refine (doubleOf_any _ _).mono ?_; rintro e w' ⟨rfl, hbl⟩; obtain ⟨hc, hf, hz⟩ := cif hbl; (try simp only [World.size_alloc, World.size_setCell, World.size_drew, World.heap_drewN] at hz))
    | (go_at_call 93; with_reducible refine (float_any _ _).mono ?_; rintro e w' ⟨rfl, hbl⟩; obtain ⟨hc, hf, hz⟩ := cif hbl; (try simp only [World.size_alloc, World.size_setCell, World.size_drew, World.heap_drewN] at hz))
    | (go_at_call 94; with_reducible refine (HT.out _).mono ?_; rintro e w' ⟨rfl, hbl⟩; obtain ⟨hc, hf, hz⟩ := cif hbl; (try simp only [World.size_alloc, World.size_setCell, World.size_drew, World.heap_drewN] at hz))
    | (go_at_call 88; with_reducible refine (HR.out _).mono ?_; rintro e w' ⟨rfl, hbl⟩; obtain ⟨hc, hf, hz⟩ := cif hbl; (try simp only [World.size_alloc, World.size_setCell, World.size_drew, World.heap_drewN] at hz))
    | (go_at_call 89; with_reducible refine (flag_any _ _).mono ?_; rintro e w' ⟨rfl, hbl⟩; obtain ⟨hc, hf, hz⟩ := cif hbl; (try simp only [World.size_alloc, World.size_setCell, World.size_drew, World.heap_drewN] at hz)))
  all_goals (((try simp only [Exit.inBlock, Exit.then]); go_light; refine bodyPost_ret (by simp [results, Tryd.results74, go_sem, *, ↓IntWalk.iteOmega]; try rfl) rfl ?_); refine ⟨congrArg Ending.returned ?_, by (repeat' (first | (with_reducible exact Below.refl _ _) | (with_reducible assumption) | (with_reducible refine Below.setCell ?_ ?_ _) | (with_reducible refine Below.alloc ?_ ?_ _) | (with_reducible refine Below.drew ?_) | (with_reducible refine below_drewN ?_ _) | (with_reducible refine below_next ?_ (by with_reducible assumption)) | omega | (dsimp only; omega) | (simp only [World.size_alloc, World.size_setCell, World.size_drew, World.heap_drewN]; omega)))⟩; simp [conv1, intV, longV, dblV, IntKind.wrap_u64, wrap32_mod, wrap64_mod, wrap32_mod', i8_w, i8_m, i16_w, i16_m, not_i32, not_i64, IntKind.wrap_u16, mod_u64 b hb0]; try (simp only [wrap32, wrap64]; omega))
set_option maxRecDepth 100000 in
set_option maxHeartbeats 4000000 in
theorem ev_95 (k b l : Int) (t ok : Bool) (r : V × Bool) (HR : Hid (∀ w, Calls Tryd.prog 88 #[.agg #[.int .i64 k, .int .u64 b, .int .i64 l]] w fun e w' => e = .returned (.tuple #[.bool t, .bool ok]) ∧ Below w.heap.size w w'))
    (hr : r = if ok then (flagV (t == true), true) else (undefV, false)) (w : World) :
    Calls Tryd.prog 74 #[.int .i64 95, .agg #[.int .i64 k, .int .u64 b, .int .i64 l]] w fun e w' => e = .returned (.tuple #[.agg #[.int .i64 r.1.k, .int .u64 r.1.b, .int .i64 r.1.l], .bool r.2]) ∧ Below w.heap.size w w' := by
  have hr2 := hr
  cases ok
  · simp at hr2
    have HV := Lib.hid hr2
    clear hr hr2
    have hA1 := cell_alloc_if
    have hA2 := frozen_alloc_if
    have hA3 := cell_set_if
    go_enter Tryd.func74, Tryd.ntmps74
    go_wp2_with (first
      | (go_at_call 88; with_reducible refine (HR.out _).mono ?_; rintro e w' ⟨rfl, hbl⟩; obtain ⟨hc, hf, hz⟩ := cif hbl; (try simp only [World.size_alloc, World.size_setCell, World.size_drew, World.heap_drewN] at hz))
      | (go_at_call 89; with_reducible refine (flag_any _ _).mono ?_; rintro e w' ⟨rfl, hbl⟩; obtain ⟨hc, hf, hz⟩ := cif hbl; (try simp only [World.size_alloc, World.size_setCell, World.size_drew, World.heap_drewN] at hz)))
    all_goals (((try simp only [Exit.inBlock, Exit.then]); go_light; refine bodyPost_ret (by simp [results, Tryd.results74, go_sem, *, ↓IntWalk.iteOmega]; try rfl) rfl ?_); refine ⟨congrArg Ending.returned ?_, by (repeat' (first | (with_reducible exact Below.refl _ _) | (with_reducible assumption) | (with_reducible refine Below.setCell ?_ ?_ _) | (with_reducible refine Below.alloc ?_ ?_ _) | (with_reducible refine Below.drew ?_) | (with_reducible refine below_drewN ?_ _) | (with_reducible refine below_next ?_ (by with_reducible assumption)) | omega | (dsimp only; omega) | (simp only [World.size_alloc, World.size_setCell, World.size_drew, World.heap_drewN]; omega)))⟩; rw [HV.out]; simp [flagV_eq, undefV])
  · simp at hr2
    have HV := Lib.hid hr2
    clear hr hr2
    have hA1 := cell_alloc_if
    have hA2 := frozen_alloc_if
    have hA3 := cell_set_if
    go_enter Tryd.func74, Tryd.ntmps74
    go_wp2_with (first
      | (go_at_call 88; with_reducible refine (HR.out _).mono ?_; rintro e w' ⟨rfl, hbl⟩; obtain ⟨hc, hf, hz⟩ := cif hbl; (try simp only [World.size_alloc, World.size_setCell, World.size_drew, World.heap_drewN] at hz))
      | (go_at_call 89; with_reducible refine (flag_any _ _).mono ?_; rintro e w' ⟨rfl, hbl⟩; obtain ⟨hc, hf, hz⟩ := cif hbl; (try simp only [World.size_alloc, World.size_setCell, World.size_drew, World.heap_drewN] at hz)))
    all_goals (((try simp only [Exit.inBlock, Exit.then]); go_light; refine bodyPost_ret (by simp [results, Tryd.results74, go_sem, *, ↓IntWalk.iteOmega]; try rfl) rfl ?_); refine ⟨congrArg Ending.returned ?_, by (repeat' (first | (with_reducible exact Below.refl _ _) | (with_reducible assumption) | (with_reducible refine Below.setCell ?_ ?_ _) | (with_reducible refine Below.alloc ?_ ?_ _) | (with_reducible refine Below.drew ?_) | (with_reducible refine below_drewN ?_ _) | (with_reducible refine below_next ?_ (by with_reducible assumption)) | omega | (dsimp only; omega) | (simp only [World.size_alloc, World.size_setCell, World.size_drew, World.heap_drewN]; omega)))⟩; rw [HV.out]; simp [flagV_eq, undefV])
set_option maxRecDepth 100000 in
set_option maxHeartbeats 4000000 in
theorem ev_96 (k b l : Int) (t ok : Bool) (r : V × Bool) (HR : Hid (∀ w, Calls Tryd.prog 88 #[.agg #[.int .i64 k, .int .u64 b, .int .i64 l]] w fun e w' => e = .returned (.tuple #[.bool t, .bool ok]) ∧ Below w.heap.size w w'))
    (hr : r = if ok then (flagV (t == false), true) else (undefV, false)) (w : World) :
    Calls Tryd.prog 74 #[.int .i64 96, .agg #[.int .i64 k, .int .u64 b, .int .i64 l]] w fun e w' => e = .returned (.tuple #[.agg #[.int .i64 r.1.k, .int .u64 r.1.b, .int .i64 r.1.l], .bool r.2]) ∧ Below w.heap.size w w' := by
  have hr2 := hr
  cases ok
  · simp at hr2
    have HV := Lib.hid hr2
    clear hr hr2
    have hA1 := cell_alloc_if
    have hA2 := frozen_alloc_if
    have hA3 := cell_set_if
    go_enter Tryd.func74, Tryd.ntmps74
    go_wp2_with (first
      | (go_at_call 88; with_reducible refine (HR.out _).mono ?_; rintro e w' ⟨rfl, hbl⟩; obtain ⟨hc, hf, hz⟩ := cif hbl; (try simp only [World.size_alloc, World.size_setCell, World.size_drew, World.heap_drewN] at hz))
      | (go_at_call 89; with_reducible refine (flag_any _ _).mono ?_; rintro e w' ⟨rfl, hbl⟩; obtain ⟨hc, hf, hz⟩ := cif hbl; (try simp only [World.size_alloc, World.size_setCell, World.size_drew, World.heap_drewN] at hz)))
    all_goals (((try simp only [Exit.inBlock, Exit.then]); go_light; refine bodyPost_ret (by simp [results, Tryd.results74, go_sem, *, ↓IntWalk.iteOmega]; try rfl) rfl ?_); refine ⟨congrArg Ending.returned ?_, by (repeat' (first | (with_reducible exact Below.refl _ _) | (with_reducible assumption) | (with_reducible refine Below.setCell ?_ ?_ _) | (with_reducible refine Below.alloc ?_ ?_ _) | (with_reducible refine Below.drew ?_) | (with_reducible refine below_drewN ?_ _) | (with_reducible refine below_next ?_ (by with_reducible assumption)) | omega | (dsimp only; omega) | (simp only [World.size_alloc, World.size_setCell, World.size_drew, World.heap_drewN]; omega)))⟩; rw [HV.out]; simp [flagV_eq, undefV])
  · simp at hr2
    have HV := Lib.hid hr2
    clear hr hr2
    have hA1 := cell_alloc_if
    have hA2 := frozen_alloc_if
    have hA3 := cell_set_if
    go_enter Tryd.func74, Tryd.ntmps74
    go_wp2_with (first
      | (go_at_call 88; with_reducible refine (HR.out _).mono ?_; rintro e w' ⟨rfl, hbl⟩; obtain ⟨hc, hf, hz⟩ := cif hbl; (try simp only [World.size_alloc, World.size_setCell, World.size_drew, World.heap_drewN] at hz))
      | (go_at_call 89; with_reducible refine (flag_any _ _).mono ?_; rintro e w' ⟨rfl, hbl⟩; obtain ⟨hc, hf, hz⟩ := cif hbl; (try simp only [World.size_alloc, World.size_setCell, World.size_drew, World.heap_drewN] at hz)))
    all_goals (((try simp only [Exit.inBlock, Exit.then]); go_light; refine bodyPost_ret (by simp [results, Tryd.results74, go_sem, *, ↓IntWalk.iteOmega]; try rfl) rfl ?_); refine ⟨congrArg Ending.returned ?_, by (repeat' (first | (with_reducible exact Below.refl _ _) | (with_reducible assumption) | (with_reducible refine Below.setCell ?_ ?_ _) | (with_reducible refine Below.alloc ?_ ?_ _) | (with_reducible refine Below.drew ?_) | (with_reducible refine below_drewN ?_ _) | (with_reducible refine below_next ?_ (by with_reducible assumption)) | omega | (dsimp only; omega) | (simp only [World.size_alloc, World.size_setCell, World.size_drew, World.heap_drewN]; omega)))⟩; rw [HV.out]; simp [flagV_eq, undefV])
set_option maxRecDepth 100000 in
set_option maxHeartbeats 4000000 in
theorem ev_no (op k b l a s z : Int) (h5 : (op == 95) = false) (h6 : (op == 96) = false) (HS : Hid (∀ w, Calls Tryd.prog 90 #[.int .i64 op] w fun e w' => e = .returned (.tuple #[.int .i64 a, .int .i64 s, .int .i64 z]) ∧ w = w'))
    (h : a = 0 ∨ s ≠ 0 ∨ a ≠ k) (w : World) :
    Calls Tryd.prog 74 #[.int .i64 op, .agg #[.int .i64 k, .int .u64 b, .int .i64 l]] w fun e w' => e = .returned (.tuple #[.agg #[.int .i64 0, .int .u64 0, .int .i64 0], .bool false]) ∧ Below w.heap.size w w' := by
  have hA1 := cell_alloc_if
  have hA2 := frozen_alloc_if
  have hA3 := cell_set_if
  by_cases c1 : a = 0
  · subst c1
    clear h
    go_enter Tryd.func74, Tryd.ntmps74
    go_wp2_with ((go_at_call 90; with_reducible refine (HS.out _).mono ?_; rintro e w' ⟨rfl, rfl⟩))
    all_goals (((try simp only [Exit.inBlock, Exit.then]); go_light; refine bodyPost_ret (by simp [results, Tryd.results74, go_sem, *, ↓IntWalk.iteOmega]; try rfl) rfl ?_); exact ⟨rfl, by (repeat' (first | (with_reducible exact Below.refl _ _) | (with_reducible assumption) | (with_reducible refine Below.setCell ?_ ?_ _) | (with_reducible refine Below.alloc ?_ ?_ _) | (with_reducible refine Below.drew ?_) | (with_reducible refine below_drewN ?_ _) | (with_reducible refine below_next ?_ (by with_reducible assumption)) | omega | (dsimp only; omega) | (simp only [World.size_alloc, World.size_setCell, World.size_drew, World.heap_drewN]; omega)))⟩)
  · have d1 : (a == 0) = false := beq_eq_false_iff_ne.2 c1
    by_cases c2 : s = 0
    · subst c2
      have c3 : a ≠ k := by rcases h with h | h | h <;> first | exact h | exact absurd rfl h | exact absurd h c1
      have d3 : (a != k) = true := bne_iff_ne.2 c3
      have d4 : (k != a) = true := bne_iff_ne.2 (fun h => c3 h.symm)
      clear h c3 c1
      go_enter Tryd.func74, Tryd.ntmps74
      go_wp2_with ((go_at_call 90; with_reducible refine (HS.out _).mono ?_; rintro e w' ⟨rfl, rfl⟩))
      all_goals (((try simp only [Exit.inBlock, Exit.then]); go_light; refine bodyPost_ret (by simp [results, Tryd.results74, go_sem, *, ↓IntWalk.iteOmega]; try rfl) rfl ?_); exact ⟨rfl, by (repeat' (first | (with_reducible exact Below.refl _ _) | (with_reducible assumption) | (with_reducible refine Below.setCell ?_ ?_ _) | (with_reducible refine Below.alloc ?_ ?_ _) | (with_reducible refine Below.drew ?_) | (with_reducible refine below_drewN ?_ _) | (with_reducible refine below_next ?_ (by with_reducible assumption)) | omega | (dsimp only; omega) | (simp only [World.size_alloc, World.size_setCell, World.size_drew, World.heap_drewN]; omega)))⟩)
    · have d2 : (s != 0) = true := bne_iff_ne.2 c2
      clear h c2 c1
      go_enter Tryd.func74, Tryd.ntmps74
      go_wp2_with ((go_at_call 90; with_reducible refine (HS.out _).mono ?_; rintro e w' ⟨rfl, rfl⟩))
      all_goals (((try simp only [Exit.inBlock, Exit.then]); go_light; refine bodyPost_ret (by simp [results, Tryd.results74, go_sem, *, ↓IntWalk.iteOmega]; try rfl) rfl ?_); exact ⟨rfl, by (repeat' (first | (with_reducible exact Below.refl _ _) | (with_reducible assumption) | (with_reducible refine Below.setCell ?_ ?_ _) | (with_reducible refine Below.alloc ?_ ?_ _) | (with_reducible refine Below.drew ?_) | (with_reducible refine below_drewN ?_ _) | (with_reducible refine below_next ?_ (by with_reducible assumption)) | omega | (dsimp only; omega) | (simp only [World.size_alloc, World.size_setCell, World.size_drew, World.heap_drewN]; omega)))⟩)
theorem shape_one (op : Int) (h1 : ¬ op = 95) (h2 : ¬ op = 96) (h3 : ¬ (shape op).1 = 0) (h4 : (shape op).2.1 = 0) :
    (op = 1 ∨ op = 2 ∨ op = 31 ∨ op = 32 ∨ op = 61 ∨ op = 80 ∨ op = 81 ∨ op = 82 ∨ op = 83 ∨ op = 84 ∨ op = 85 ∨ op = 86 ∨ op = 87 ∨ op = 88 ∨ op = 89 ∨ op = 90 ∨ op = 91 ∨ op = 92 ∨ op = 93 ∨ op = 94) := by
  have ho : op ≤ 96 ∨ 96 < op := by omega
  unfold shape split at h3 h4
  by_cases c : 30 < op ∧ op ≤ 55
  · rw [if_pos c] at h3 h4
    dsimp only at h3 h4
    grind (splits := 40)
  · rw [if_neg c] at h3 h4
    dsimp only at h3 h4
    grind (splits := 60)

theorem eval1_any (op k b l : Int) (hi : I64 op) (hb : U64 b) (w : World) :
    Calls Tryd.prog 74 #[.int .i64 op, .agg #[.int .i64 k, .int .u64 b, .int .i64 l]] w fun e w' => e = .returned (.tuple #[.agg #[.int .i64 (eval1 op ⟨k, b, l⟩).1.k, .int .u64 (eval1 op ⟨k, b, l⟩).1.b, .int .i64 (eval1 op ⟨k, b, l⟩).1.l], .bool (eval1 op ⟨k, b, l⟩).2]) ∧ Below w.heap.size w w' := by
  by_cases h1 : op = 95
  · subst h1
    refine ev_95 k b l _ _ (eval1 95 ⟨k, b, l⟩) (Lib.hid (truth_any k b l hb)) ?_ w
    simp [eval1]
  by_cases h2 : op = 96
  · subst h2
    refine ev_96 k b l _ _ (eval1 96 ⟨k, b, l⟩) (Lib.hid (truth_any k b l hb)) ?_ w
    simp [eval1]
  by_cases h3 : (shape op).1 = 0 ∨ (shape op).2.1 ≠ 0 ∨ (shape op).1 ≠ k
  · have e : eval1 op ⟨k, b, l⟩ = (undefV, false) := by unfold eval1; rw [if_neg (by omega), if_pos h3]
    rw [e]
    exact ev_no op k b l _ _ _ (beq_eq_false_iff_ne.2 h1) (beq_eq_false_iff_ne.2 h2) (Lib.hid (shape_any op hi)) h3 w
  · have e : eval1 op ⟨k, b, l⟩ = conv1 op b := by unfold eval1; rw [if_neg (by omega), if_neg h3]
    rw [e]
    have h4 := shape_one op h1 h2 (fun h => h3 (.inl h)) (by omega)
    have h5 : (shape op).1 = k := by omega
    rcases h4 with rfl | rfl | rfl | rfl | rfl | rfl | rfl | rfl | rfl | rfl | rfl | rfl | rfl | rfl | rfl | rfl | rfl | rfl | rfl | rfl <;> (rw [show k = _ from h5.symm])
    · exact ev_1 b l hb w
    · exact ev_2 b l hb w
    · exact ev_31 b l hb w
    · exact ev_32 b l hb w
    · exact ev_61 b l hb w
    · exact ev_80 b l hb w
    · exact ev_81 b l hb w
    · exact ev_82 b l hb w
    · exact ev_83 b l hb w
    · exact ev_84 b l hb w
    · exact ev_85 b l hb w
    · exact ev_86 b l hb w
    · exact ev_87 b l hb w
    · exact ev_88 b l hb w
    · exact ev_89 b l hb w
    · exact ev_90 b l hb w
    · exact ev_91 b l hb w
    · exact ev_92 b l hb w
    · exact ev_93 b l hb w
    · exact ev_94 b l hb w
end Go.Proofs.YteeojgepgjndgaaDoor
