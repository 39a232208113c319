/-
  An operation of one: the program's and the reference's.
-/
import Derived.Test.YteeojgepgjndgaaDoorMachE3
namespace Go.Proofs.YteeojgepgjndgaaDoor
open Go.RowKit
set_option linter.unusedVariables false
set_option maxRecDepth 100000
set_option linter.unusedSimpArgs false

/-- An operation of one, of a right kind. -/
def conv1 (op b : Int) : V × Bool :=
  if op = 1 then (intV (-b), true) else if op = 2 then (intV (-b - 1), true) else if op = 31 then (longV (-b), true) else if op = 32 then (longV (-b - 1), true)
  else if op = 61 then (dblV (bxor b 9223372036854775808), true)
  else if op = 80 then (intV (IntKind.i8.wrap b), true) else if op = 81 then (intV (b % 256), true) else if op = 82 then (intV (IntKind.i16.wrap b), true) else if op = 83 then (intV (b % 65536), true)
  else if op = 84 then (longV (wrap32 b), true) else if op = 85 then (longV (b % 4294967296), true) else if op = 86 then (intV b, true)
  else if op = 87 then (canonF (floatOfInt .f64 (wrap32 b)), true) else if op = 88 then (canonF (floatOfInt .f64 (b % 4294967296)), true)
  else if op = 89 then (canonF (floatOfInt .f64 (wrap64 b)), true) else if op = 90 then (canonF (floatOfInt .f64 b), true)
  else toWholeV op b.toNat

def eval1 (op : Int) (x : V) : V × Bool :=
  if op = 95 ∨ op = 96 then (if (truthV x.k x.b).2 then (flagV ((truthV x.k x.b).1 == decide (op = 95)), true) else (undefV, false))
  else if (shape op).1 = 0 ∨ (shape op).2.1 ≠ 0 ∨ (shape op).1 ≠ x.k then (undefV, false) else conv1 op x.b

theorem wrap32_mod' (b : Int) : wrap32 (b % 4294967296) = wrap32 b := by unfold wrap32; omega

theorem wr_i8 (n : Int) : IntKind.i8.wrap n = (n + 128) % 256 - 128 := by simp [IntKind.wrap, IntKind.bits, IntKind.signed]; try omega
theorem wr_i16 (n : Int) : IntKind.i16.wrap n = (n + 32768) % 65536 - 32768 := by simp [IntKind.wrap, IntKind.bits, IntKind.signed]; try omega
theorem not_i32 (x : Int) : bits .xor .i32 (-1) x % 4294967296 = (-x - 1) % 4294967296 := by
  show IntKind.i32.wrap ((BitVec.ofInt 32 (-1) ^^^ BitVec.ofInt 32 x).toNat : Int) % 4294967296 = _
  have h1 : BitVec.ofInt 32 (-1) = BitVec.allOnes 32 := by decide
  rw [h1, BitVec.allOnes_xor, BitVec.toNat_not, BitVec.toNat_ofInt, IntKind.wrap_i32]
  have h2 : (2 : Nat) ^ 32 = 4294967296 := rfl
  rw [h2]
  omega
theorem not_i64 (x : Int) : bits .xor .i64 (-1) x % 18446744073709551616 = (-x - 1) % 18446744073709551616 := by
  show IntKind.i64.wrap ((BitVec.ofInt 64 (-1) ^^^ BitVec.ofInt 64 x).toNat : Int) % 18446744073709551616 = _
  have h1 : BitVec.ofInt 64 (-1) = BitVec.allOnes 64 := by decide
  rw [h1, BitVec.allOnes_xor, BitVec.toNat_not, BitVec.toNat_ofInt, IntKind.wrap_i64]
  have h2 : (2 : Nat) ^ 64 = 18446744073709551616 := rfl
  rw [h2]
  omega
theorem mod_u64 (b : Int) (h : U64 b) : b % 18446744073709551616 = b := by obtain ⟨h1, h2⟩ := h; omega
theorem i8_w (b : Int) : IntKind.i8.wrap (wrap32 b) = IntKind.i8.wrap b := by rw [wr_i8, wr_i8]; unfold wrap32; omega
theorem i8_m (b : Int) : IntKind.i8.wrap (b % 4294967296) = IntKind.i8.wrap b := by rw [wr_i8, wr_i8]; omega
theorem i16_w (b : Int) : IntKind.i16.wrap (wrap32 b) = IntKind.i16.wrap b := by rw [wr_i16, wr_i16]; unfold wrap32; omega
theorem i16_m (b : Int) : IntKind.i16.wrap (b % 4294967296) = IntKind.i16.wrap b := by rw [wr_i16, wr_i16]; omega
set_option maxRecDepth 100000 in
set_option maxHeartbeats 4000000 in
theorem ev_1 (b l : Int) (hb : U64 b) (w : World) :
    Calls Tryd.prog 74 #[.int .i64 1, .agg #[.int .i64 1, .int .u64 b, .int .i64 l]] w fun e w' => e = .returned (.tuple #[.agg #[.int .i64 (conv1 1 b).1.k, .int .u64 (conv1 1 b).1.b, .int .i64 (conv1 1 b).1.l], .bool (conv1 1 b).2]) ∧ Below w.heap.size w w' := by
  have hx := bits_xor_u64 b 9223372036854775808 hb (by unfold U64; omega)
  have hsh := shape_any 1 (by unfold I64; omega)
  rw [show shape 1 = (1, 0, 1) from by kernel_rfl] at hsh
  have HS := Lib.hid hsh
  clear hsh
  have hb0 := hb
  obtain ⟨b1, b2⟩ := hb
  have hA1 := cell_alloc_if
  have hA2 := frozen_alloc_if
  have hA3 := cell_set_if
  go_enter Tryd.func74, Tryd.ntmps74
  go_wp2_with (first
    | (go_at_call 90; with_reducible refine (HS.out _).mono ?_; rintro e w' ⟨rfl, rfl⟩)
    | (go_at_call 91; with_reducible refine (intOf_any _ _).mono ?_; rintro e w' ⟨rfl, hbl⟩; obtain ⟨hc, hf, hz⟩ := cif hbl; (try simp only [World.size_alloc, World.size_setCell, World.size_drew, World.heap_drewN] at hz))
    | (go_at_call 38; with_reducible refine (longOf_any _ _).mono ?_; rintro e w' ⟨rfl, hbl⟩; obtain ⟨hc, hf, hz⟩ := cif hbl; (try simp only [World.size_alloc, World.size_setCell, World.size_drew, World.heap_drewN] at hz))
    | (go_at_call 92; with_reducible refine (doubleOf_any _ _).mono ?_; rintro e w' ⟨rfl, hbl⟩; obtain ⟨hc, hf, hz⟩ := cif hbl; (try simp only [World.size_alloc, World.size_setCell, World.size_drew, World.heap_drewN] at hz))
    | (go_at_call 93; with_reducible refine (float_any _ _).mono ?_; rintro e w' ⟨rfl, hbl⟩; obtain ⟨hc, hf, hz⟩ := cif hbl; (try simp only [World.size_alloc, World.size_setCell, World.size_drew, World.heap_drewN] at hz))
    | (go_at_call 94; with_reducible refine (toWhole_any _ _ ho _).mono ?_; rintro e w' ⟨rfl, hbl⟩; obtain ⟨hc, hf, hz⟩ := cif hbl; (try simp only [World.size_alloc, World.size_setCell, World.size_drew, World.heap_drewN] at hz)))
  go_quiet (fail)
  go_wp2_with (first
    | (go_at_call 90; with_reducible refine (HS.out _).mono ?_; rintro e w' ⟨rfl, rfl⟩)
    | (go_at_call 91; with_reducible refine (intOf_any _ _).mono ?_; rintro e w' ⟨rfl, hbl⟩; obtain ⟨hc, hf, hz⟩ := cif hbl; (try simp only [World.size_alloc, World.size_setCell, World.size_drew, World.heap_drewN] at hz))
    | (go_at_call 38; with_reducible refine (longOf_any _ _).mono ?_; rintro e w' ⟨rfl, hbl⟩; obtain ⟨hc, hf, hz⟩ := cif hbl; (try simp only [World.size_alloc, World.size_setCell, World.size_drew, World.heap_drewN] at hz))
    | (go_at_call 92; with_reducible refine (doubleOf_any _ _).mono ?_; rintro e w' ⟨rfl, hbl⟩; obtain ⟨hc, hf, hz⟩ := cif hbl; (try simp only [World.size_alloc, World.size_setCell, World.size_drew, World.heap_drewN] at hz))
    | (go_at_call 93; with_reducible refine (float_any _ _).mono ?_; rintro e w' ⟨rfl, hbl⟩; obtain ⟨hc, hf, hz⟩ := cif hbl; (try simp only [World.size_alloc, World.size_setCell, World.size_drew, World.heap_drewN] at hz))
    | (go_at_call 94; with_reducible refine (toWhole_any _ _ ho _).mono ?_; rintro e w' ⟨rfl, hbl⟩; obtain ⟨hc, hf, hz⟩ := cif hbl; (try simp only [World.size_alloc, World.size_setCell, World.size_drew, World.heap_drewN] at hz)))
  all_goals (((try simp only [Exit.inBlock, Exit.then]); go_light; refine bodyPost_ret (by simp [results, Tryd.results74, go_sem, *, ↓IntWalk.iteOmega]; try rfl) rfl ?_); refine ⟨congrArg Ending.returned ?_, by (repeat' (first | (with_reducible exact Below.refl _ _) | (with_reducible assumption) | (with_reducible refine Below.setCell ?_ ?_ _) | (with_reducible refine Below.alloc ?_ ?_ _) | (with_reducible refine Below.drew ?_) | (with_reducible refine below_drewN ?_ _) | (with_reducible refine below_next ?_ (by with_reducible assumption)) | omega | (dsimp only; omega) | (simp only [World.size_alloc, World.size_setCell, World.size_drew, World.heap_drewN]; omega)))⟩; simp [conv1, intV, longV, dblV, IntKind.wrap_u64, wrap32_mod, wrap64_mod, wrap32_mod', i8_w, i8_m, i16_w, i16_m, not_i32, not_i64, IntKind.wrap_u16, mod_u64 b hb0]; try (simp only [wrap32, wrap64]; omega))
set_option maxRecDepth 100000 in
set_option maxHeartbeats 4000000 in
theorem ev_2 (b l : Int) (hb : U64 b) (w : World) :
    Calls Tryd.prog 74 #[.int .i64 2, .agg #[.int .i64 1, .int .u64 b, .int .i64 l]] w fun e w' => e = .returned (.tuple #[.agg #[.int .i64 (conv1 2 b).1.k, .int .u64 (conv1 2 b).1.b, .int .i64 (conv1 2 b).1.l], .bool (conv1 2 b).2]) ∧ Below w.heap.size w w' := by
  have hx := bits_xor_u64 b 9223372036854775808 hb (by unfold U64; omega)
  have hsh := shape_any 2 (by unfold I64; omega)
  rw [show shape 2 = (1, 0, 1) from by kernel_rfl] at hsh
  have HS := Lib.hid hsh
  clear hsh
  have hb0 := hb
  obtain ⟨b1, b2⟩ := hb
  have hA1 := cell_alloc_if
  have hA2 := frozen_alloc_if
  have hA3 := cell_set_if
  go_enter Tryd.func74, Tryd.ntmps74
  go_wp2_with (first
    | (go_at_call 90; with_reducible refine (HS.out _).mono ?_; rintro e w' ⟨rfl, rfl⟩)
    | (go_at_call 91; with_reducible refine (intOf_any _ _).mono ?_; rintro e w' ⟨rfl, hbl⟩; obtain ⟨hc, hf, hz⟩ := cif hbl; (try simp only [World.size_alloc, World.size_setCell, World.size_drew, World.heap_drewN] at hz))
    | (go_at_call 38; with_reducible refine (longOf_any _ _).mono ?_; rintro e w' ⟨rfl, hbl⟩; obtain ⟨hc, hf, hz⟩ := cif hbl; (try simp only [World.size_alloc, World.size_setCell, World.size_drew, World.heap_drewN] at hz))
    | (go_at_call 92; with_reducible refine (doubleOf_any _ _).mono ?_; rintro e w' ⟨rfl, hbl⟩; obtain ⟨hc, hf, hz⟩ := cif hbl; (try simp only [World.size_alloc, World.size_setCell, World.size_drew, World.heap_drewN] at hz))
    | (go_at_call 93; with_reducible refine (float_any _ _).mono ?_; rintro e w' ⟨rfl, hbl⟩; obtain ⟨hc, hf, hz⟩ := cif hbl; (try simp only [World.size_alloc, World.size_setCell, World.size_drew, World.heap_drewN] at hz))
    | (go_at_call 94; with_reducible refine (toWhole_any _ _ ho _).mono ?_; rintro e w' ⟨rfl, hbl⟩; obtain ⟨hc, hf, hz⟩ := cif hbl; (try simp only [World.size_alloc, World.size_setCell, World.size_drew, World.heap_drewN] at hz)))
  go_quiet (fail)
  go_wp2_with (first
    | (go_at_call 90; with_reducible refine (HS.out _).mono ?_; rintro e w' ⟨rfl, rfl⟩)
    | (go_at_call 91; with_reducible refine (intOf_any _ _).mono ?_; rintro e w' ⟨rfl, hbl⟩; obtain ⟨hc, hf, hz⟩ := cif hbl; (try simp only [World.size_alloc, World.size_setCell, World.size_drew, World.heap_drewN] at hz))
    | (go_at_call 38; with_reducible refine (longOf_any _ _).mono ?_; rintro e w' ⟨rfl, hbl⟩; obtain ⟨hc, hf, hz⟩ := cif hbl; (try simp only [World.size_alloc, World.size_setCell, World.size_drew, World.heap_drewN] at hz))
    | (go_at_call 92; with_reducible refine (doubleOf_any _ _).mono ?_; rintro e w' ⟨rfl, hbl⟩; obtain ⟨hc, hf, hz⟩ := cif hbl; (try simp only [World.size_alloc, World.size_setCell, World.size_drew, World.heap_drewN] at hz))
    | (go_at_call 93; with_reducible refine (float_any _ _).mono ?_; rintro e w' ⟨rfl, hbl⟩; obtain ⟨hc, hf, hz⟩ := cif hbl; (try simp only [World.size_alloc, World.size_setCell, World.size_drew, World.heap_drewN] at hz))
    | (go_at_call 94; with_reducible refine (toWhole_any _ _ ho _).mono ?_; rintro e w' ⟨rfl, hbl⟩; obtain ⟨hc, hf, hz⟩ := cif hbl; (try simp only [World.size_alloc, World.size_setCell, World.size_drew, World.heap_drewN] at hz)))
  all_goals (((try simp only [Exit.inBlock, Exit.then]); go_light; refine bodyPost_ret (by simp [results, Tryd.results74, go_sem, *, ↓IntWalk.iteOmega]; try rfl) rfl ?_); refine ⟨congrArg Ending.returned ?_, by (repeat' (first | (with_reducible exact Below.refl _ _) | (with_reducible assumption) | (with_reducible refine Below.setCell ?_ ?_ _) | (with_reducible refine Below.alloc ?_ ?_ _) | (with_reducible refine Below.drew ?_) | (with_reducible refine below_drewN ?_ _) | (with_reducible refine below_next ?_ (by with_reducible assumption)) | omega | (dsimp only; omega) | (simp only [World.size_alloc, World.size_setCell, World.size_drew, World.heap_drewN]; omega)))⟩; simp [conv1, intV, longV, dblV, IntKind.wrap_u64, wrap32_mod, wrap64_mod, wrap32_mod', i8_w, i8_m, i16_w, i16_m, not_i32, not_i64, IntKind.wrap_u16, mod_u64 b hb0]; try (simp only [wrap32, wrap64]; omega))
set_option maxRecDepth 100000 in
set_option maxHeartbeats 4000000 in
theorem ev_31 (b l : Int) (hb : U64 b) (w : World) :
    Calls Tryd.prog 74 #[.int .i64 31, .agg #[.int .i64 2, .int .u64 b, .int .i64 l]] w fun e w' => e = .returned (.tuple #[.agg #[.int .i64 (conv1 31 b).1.k, .int .u64 (conv1 31 b).1.b, .int .i64 (conv1 31 b).1.l], .bool (conv1 31 b).2]) ∧ Below w.heap.size w w' := by
  have hx := bits_xor_u64 b 9223372036854775808 hb (by unfold U64; omega)
  have hsh := shape_any 31 (by unfold I64; omega)
  rw [show shape 31 = (2, 0, 2) from by kernel_rfl] at hsh
  have HS := Lib.hid hsh
  clear hsh
  have hb0 := hb
  obtain ⟨b1, b2⟩ := hb
  have hA1 := cell_alloc_if
  have hA2 := frozen_alloc_if
  have hA3 := cell_set_if
  go_enter Tryd.func74, Tryd.ntmps74
  go_wp2_with (first
    | (go_at_call 90; with_reducible refine (HS.out _).mono ?_; rintro e w' ⟨rfl, rfl⟩)
    | (go_at_call 91; with_reducible refine (intOf_any _ _).mono ?_; rintro e w' ⟨rfl, hbl⟩; obtain ⟨hc, hf, hz⟩ := cif hbl; (try simp only [World.size_alloc, World.size_setCell, World.size_drew, World.heap_drewN] at hz))
    | (go_at_call 38; with_reducible refine (longOf_any _ _).mono ?_; rintro e w' ⟨rfl, hbl⟩; obtain ⟨hc, hf, hz⟩ := cif hbl; (try simp only [World.size_alloc, World.size_setCell, World.size_drew, World.heap_drewN] at hz))
    | (go_at_call 92; with_reducible refine (doubleOf_any _ _).mono ?_; rintro e w' ⟨rfl, hbl⟩; obtain ⟨hc, hf, hz⟩ := cif hbl; (try simp only [World.size_alloc, World.size_setCell, World.size_drew, World.heap_drewN] at hz))
    | (go_at_call 93; with_reducible refine (float_any _ _).mono ?_; rintro e w' ⟨rfl, hbl⟩; obtain ⟨hc, hf, hz⟩ := cif hbl; (try simp only [World.size_alloc, World.size_setCell, World.size_drew, World.heap_drewN] at hz))
    | (go_at_call 94; with_reducible refine (toWhole_any _ _ ho _).mono ?_; rintro e w' ⟨rfl, hbl⟩; obtain ⟨hc, hf, hz⟩ := cif hbl; (try simp only [World.size_alloc, World.size_setCell, World.size_drew, World.heap_drewN] at hz)))
  go_quiet (fail)
  go_wp2_with (first
    | (go_at_call 90; with_reducible refine (HS.out _).mono ?_; rintro e w' ⟨rfl, rfl⟩)
    | (go_at_call 91; with_reducible refine (intOf_any _ _).mono ?_; rintro e w' ⟨rfl, hbl⟩; obtain ⟨hc, hf, hz⟩ := cif hbl; (try simp only [World.size_alloc, World.size_setCell, World.size_drew, World.heap_drewN] at hz))
    | (go_at_call 38; with_reducible refine (longOf_any _ _).mono ?_; rintro e w' ⟨rfl, hbl⟩; obtain ⟨hc, hf, hz⟩ := cif hbl; (try simp only [World.size_alloc, World.size_setCell, World.size_drew, World.heap_drewN] at hz))
    | (go_at_call 92; with_reducible refine (doubleOf_any _ _).mono ?_; rintro e w' ⟨rfl, hbl⟩; obtain ⟨hc, hf, hz⟩ := cif hbl; (try simp only [World.size_alloc, World.size_setCell, World.size_drew, World.heap_drewN] at hz))
    | (go_at_call 93; with_reducible refine (float_any _ _).mono ?_; rintro e w' ⟨rfl, hbl⟩; obtain ⟨hc, hf, hz⟩ := cif hbl; (try simp only [World.size_alloc, World.size_setCell, World.size_drew, World.heap_drewN] at hz))
    | (go_at_call 94; with_reducible refine (toWhole_any _ _ ho _).mono ?_; rintro e w' ⟨rfl, hbl⟩; obtain ⟨hc, hf, hz⟩ := cif hbl; (try simp only [World.size_alloc, World.size_setCell, World.size_drew, World.heap_drewN] at hz)))
  all_goals (((try simp only [Exit.inBlock, Exit.then]); go_light; refine bodyPost_ret (by simp [results, Tryd.results74, go_sem, *, ↓IntWalk.iteOmega]; try rfl) rfl ?_); refine ⟨congrArg Ending.returned ?_, by (repeat' (first | (with_reducible exact Below.refl _ _) | (with_reducible assumption) | (with_reducible refine Below.setCell ?_ ?_ _) | (with_reducible refine Below.alloc ?_ ?_ _) | (with_reducible refine Below.drew ?_) | (with_reducible refine below_drewN ?_ _) | (with_reducible refine below_next ?_ (by with_reducible assumption)) | omega | (dsimp only; omega) | (simp only [World.size_alloc, World.size_setCell, World.size_drew, World.heap_drewN]; omega)))⟩; simp [conv1, intV, longV, dblV, IntKind.wrap_u64, wrap32_mod, wrap64_mod, wrap32_mod', i8_w, i8_m, i16_w, i16_m, not_i32, not_i64, IntKind.wrap_u16, mod_u64 b hb0]; try (simp only [wrap32, wrap64]; omega))
set_option maxRecDepth 100000 in
set_option maxHeartbeats 4000000 in
theorem ev_32 (b l : Int) (hb : U64 b) (w : World) :
    Calls Tryd.prog 74 #[.int .i64 32, .agg #[.int .i64 2, .int .u64 b, .int .i64 l]] w fun e w' => e = .returned (.tuple #[.agg #[.int .i64 (conv1 32 b).1.k, .int .u64 (conv1 32 b).1.b, .int .i64 (conv1 32 b).1.l], .bool (conv1 32 b).2]) ∧ Below w.heap.size w w' := by
  have hx := bits_xor_u64 b 9223372036854775808 hb (by unfold U64; omega)
  have hsh := shape_any 32 (by unfold I64; omega)
  rw [show shape 32 = (2, 0, 2) from by kernel_rfl] at hsh
  have HS := Lib.hid hsh
  clear hsh
  have hb0 := hb
  obtain ⟨b1, b2⟩ := hb
  have hA1 := cell_alloc_if
  have hA2 := frozen_alloc_if
  have hA3 := cell_set_if
  go_enter Tryd.func74, Tryd.ntmps74
  go_wp2_with (first
    | (go_at_call 90; with_reducible refine (HS.out _).mono ?_; rintro e w' ⟨rfl, rfl⟩)
    | (go_at_call 91; with_reducible refine (intOf_any _ _).mono ?_; rintro e w' ⟨rfl, hbl⟩; obtain ⟨hc, hf, hz⟩ := cif hbl; (try simp only [World.size_alloc, World.size_setCell, World.size_drew, World.heap_drewN] at hz))
    | (go_at_call 38; with_reducible refine (longOf_any _ _).mono ?_; rintro e w' ⟨rfl, hbl⟩; obtain ⟨hc, hf, hz⟩ := cif hbl; (try simp only [World.size_alloc, World.size_setCell, World.size_drew, World.heap_drewN] at hz))
    | (go_at_call 92; with_reducible refine (doubleOf_any _ _).mono ?_; rintro e w' ⟨rfl, hbl⟩; obtain ⟨hc, hf, hz⟩ := cif hbl; (try simp only [World.size_alloc, World.size_setCell, World.size_drew, World.heap_drewN] at hz))
    | (go_at_call 93; with_reducible refine (float_any _ _).mono ?_; rintro e w' ⟨rfl, hbl⟩; obtain ⟨hc, hf, hz⟩ := cif hbl; (try simp only [World.size_alloc, World.size_setCell, World.size_drew, World.heap_drewN] at hz))
    | (go_at_call 94; with_reducible refine (toWhole_any _ _ ho _).mono ?_; rintro e w' ⟨rfl, hbl⟩; obtain ⟨hc, hf, hz⟩ := cif hbl; (try simp only [World.size_alloc, World.size_setCell, World.size_drew, World.heap_drewN] at hz)))
  go_quiet (fail)
  go_wp2_with (first
    | (go_at_call 90; with_reducible refine (HS.out _).mono ?_; rintro e w' ⟨rfl, rfl⟩)
    | (go_at_call 91; with_reducible refine (intOf_any _ _).mono ?_; rintro e w' ⟨rfl, hbl⟩; obtain ⟨hc, hf, hz⟩ := cif hbl; (try simp only [World.size_alloc, World.size_setCell, World.size_drew, World.heap_drewN] at hz))
    | (go_at_call 38; with_reducible refine (longOf_any _ _).mono ?_; rintro e w' ⟨rfl, hbl⟩; obtain ⟨hc, hf, hz⟩ := cif hbl; (try simp only [World.size_alloc, World.size_setCell, World.size_drew, World.heap_drewN] at hz))
    | (go_at_call 92; with_reducible refine (doubleOf_any _ _).mono ?_; rintro e w' ⟨rfl, hbl⟩; obtain ⟨hc, hf, hz⟩ := cif hbl; (try simp only [World.size_alloc, World.size_setCell, World.size_drew, World.heap_drewN] at hz))
    | (go_at_call 93; with_reducible refine (float_any _ _).mono ?_; rintro e w' ⟨rfl, hbl⟩; obtain ⟨hc, hf, hz⟩ := cif hbl; (try simp only [World.size_alloc, World.size_setCell, World.size_drew, World.heap_drewN] at hz))
    | (go_at_call 94; with_reducible refine (toWhole_any _ _ ho _).mono ?_; rintro e w' ⟨rfl, hbl⟩; obtain ⟨hc, hf, hz⟩ := cif hbl; (try simp only [World.size_alloc, World.size_setCell, World.size_drew, World.heap_drewN] at hz)))
  all_goals (((try simp only [Exit.inBlock, Exit.then]); go_light; refine bodyPost_ret (by simp [results, Tryd.results74, go_sem, *, ↓IntWalk.iteOmega]; try rfl) rfl ?_); refine ⟨congrArg Ending.returned ?_, by (repeat' (first | (with_reducible exact Below.refl _ _) | (with_reducible assumption) | (with_reducible refine Below.setCell ?_ ?_ _) | (with_reducible refine Below.alloc ?_ ?_ _) | (with_reducible refine Below.drew ?_) | (with_reducible refine below_drewN ?_ _) | (with_reducible refine below_next ?_ (by with_reducible assumption)) | omega | (dsimp only; omega) | (simp only [World.size_alloc, World.size_setCell, World.size_drew, World.heap_drewN]; omega)))⟩; simp [conv1, intV, longV, dblV, IntKind.wrap_u64, wrap32_mod, wrap64_mod, wrap32_mod', i8_w, i8_m, i16_w, i16_m, not_i32, not_i64, IntKind.wrap_u16, mod_u64 b hb0]; try (simp only [wrap32, wrap64]; omega))
set_option maxRecDepth 100000 in
set_option maxHeartbeats 4000000 in
theorem ev_61 (b l : Int) (hb : U64 b) (w : World) :
    Calls Tryd.prog 74 #[.int .i64 61, .agg #[.int .i64 3, .int .u64 b, .int .i64 l]] w fun e w' => e = .returned (.tuple #[.agg #[.int .i64 (conv1 61 b).1.k, .int .u64 (conv1 61 b).1.b, .int .i64 (conv1 61 b).1.l], .bool (conv1 61 b).2]) ∧ Below w.heap.size w w' := by
  have hx := bits_xor_u64 b 9223372036854775808 hb (by unfold U64; omega)
  have hsh := shape_any 61 (by unfold I64; omega)
  rw [show shape 61 = (3, 0, 3) from by kernel_rfl] at hsh
  have HS := Lib.hid hsh
  clear hsh
  have hb0 := hb
  obtain ⟨b1, b2⟩ := hb
  have hA1 := cell_alloc_if
  have hA2 := frozen_alloc_if
  have hA3 := cell_set_if
  go_enter Tryd.func74, Tryd.ntmps74
  go_wp2_with (first
    | (go_at_call 90; with_reducible refine (HS.out _).mono ?_; rintro e w' ⟨rfl, rfl⟩)
    | (go_at_call 91; with_reducible refine (intOf_any _ _).mono ?_; rintro e w' ⟨rfl, hbl⟩; obtain ⟨hc, hf, hz⟩ := cif hbl; (try simp only [World.size_alloc, World.size_setCell, World.size_drew, World.heap_drewN] at hz))
    | (go_at_call 38; with_reducible refine (longOf_any _ _).mono ?_; rintro e w' ⟨rfl, hbl⟩; obtain ⟨hc, hf, hz⟩ := cif hbl; (try simp only [World.size_alloc, World.size_setCell, World.size_drew, World.heap_drewN] at hz))
    | (go_at_call 92; with_reducible refine (doubleOf_any _ _).mono ?_; rintro e w' ⟨rfl, hbl⟩; obtain ⟨hc, hf, hz⟩ := cif hbl; (try simp only [World.size_alloc, World.size_setCell, World.size_drew, World.heap_drewN] at hz))
    | (go_at_call 93; with_reducible refine (float_any _ _).mono ?_; rintro e w' ⟨rfl, hbl⟩; obtain ⟨hc, hf, hz⟩ := cif hbl; (try simp only [World.size_alloc, World.size_setCell, World.size_drew, World.heap_drewN] at hz))
    | (go_at_call 94; with_reducible refine (toWhole_any _ _ ho _).mono ?_; rintro e w' ⟨rfl, hbl⟩; obtain ⟨hc, hf, hz⟩ := cif hbl; (try simp only [World.size_alloc, World.size_setCell, World.size_drew, World.heap_drewN] at hz)))
  go_quiet (fail)
  go_wp2_with (first
    | (go_at_call 90; with_reducible refine (HS.out _).mono ?_; rintro e w' ⟨rfl, rfl⟩)
    | (go_at_call 91; with_reducible refine (intOf_any _ _).mono ?_; rintro e w' ⟨rfl, hbl⟩; obtain ⟨hc, hf, hz⟩ := cif hbl; (try simp only [World.size_alloc, World.size_setCell, World.size_drew, World.heap_drewN] at hz))
    | (go_at_call 38; with_reducible refine (longOf_any _ _).mono ?_; rintro e w' ⟨rfl, hbl⟩; obtain ⟨hc, hf, hz⟩ := cif hbl; (try simp only [World.size_alloc, World.size_setCell, World.size_drew, World.heap_drewN] at hz))
    | (go_at_call 92; with_reducible refine (doubleOf_any _ _).mono ?_; rintro e w' ⟨rfl, hbl⟩; obtain ⟨hc, hf, hz⟩ := cif hbl; (try simp only [World.size_alloc, World.size_setCell, World.size_drew, World.heap_drewN] at hz))
    | (go_at_call 93; with_reducible refine (float_any _ _).mono ?_; rintro e w' ⟨rfl, hbl⟩; obtain ⟨hc, hf, hz⟩ := cif hbl; (try simp only [World.size_alloc, World.size_setCell, World.size_drew, World.heap_drewN] at hz))
    | (go_at_call 94; with_reducible refine (toWhole_any _ _ ho _).mono ?_; rintro e w' ⟨rfl, hbl⟩; obtain ⟨hc, hf, hz⟩ := cif hbl; (try simp only [World.size_alloc, World.size_setCell, World.size_drew, World.heap_drewN] at hz)))
  all_goals (((try simp only [Exit.inBlock, Exit.then]); go_light; refine bodyPost_ret (by simp [results, Tryd.results74, go_sem, *, ↓IntWalk.iteOmega]; try rfl) rfl ?_); refine ⟨congrArg Ending.returned ?_, by (repeat' (first | (with_reducible exact Below.refl _ _) | (with_reducible assumption) | (with_reducible refine Below.setCell ?_ ?_ _) | (with_reducible refine Below.alloc ?_ ?_ _) | (with_reducible refine Below.drew ?_) | (with_reducible refine below_drewN ?_ _) | (with_reducible refine below_next ?_ (by with_reducible assumption)) | omega | (dsimp only; omega) | (simp only [World.size_alloc, World.size_setCell, World.size_drew, World.heap_drewN]; omega)))⟩; simp [conv1, intV, longV, dblV, IntKind.wrap_u64, wrap32_mod, wrap64_mod, wrap32_mod', i8_w, i8_m, i16_w, i16_m, not_i32, not_i64, IntKind.wrap_u16, mod_u64 b hb0]; try (simp only [wrap32, wrap64]; omega))
set_option maxRecDepth 100000 in
set_option maxHeartbeats 4000000 in
theorem ev_80 (b l : Int) (hb : U64 b) (w : World) :
    Calls Tryd.prog 74 #[.int .i64 80, .agg #[.int .i64 1, .int .u64 b, .int .i64 l]] w fun e w' => e = .returned (.tuple #[.agg #[.int .i64 (conv1 80 b).1.k, .int .u64 (conv1 80 b).1.b, .int .i64 (conv1 80 b).1.l], .bool (conv1 80 b).2]) ∧ Below w.heap.size w w' := by
  have hx := bits_xor_u64 b 9223372036854775808 hb (by unfold U64; omega)
  have hsh := shape_any 80 (by unfold I64; omega)
  rw [show shape 80 = (1, 0, 1) from by kernel_rfl] at hsh
  have HS := Lib.hid hsh
  clear hsh
  have hb0 := hb
  obtain ⟨b1, b2⟩ := hb
  have hA1 := cell_alloc_if
  have hA2 := frozen_alloc_if
  have hA3 := cell_set_if
  go_enter Tryd.func74, Tryd.ntmps74
  go_wp2_with (first
    | (go_at_call 90; with_reducible refine (HS.out _).mono ?_; rintro e w' ⟨rfl, rfl⟩)
    | (go_at_call 91; with_reducible refine (intOf_any _ _).mono ?_; rintro e w' ⟨rfl, hbl⟩; obtain ⟨hc, hf, hz⟩ := cif hbl; (try simp only [World.size_alloc, World.size_setCell, World.size_drew, World.heap_drewN] at hz))
    | (go_at_call 38; with_reducible refine (longOf_any _ _).mono ?_; rintro e w' ⟨rfl, hbl⟩; obtain ⟨hc, hf, hz⟩ := cif hbl; (try simp only [World.size_alloc, World.size_setCell, World.size_drew, World.heap_drewN] at hz))
    | (go_at_call 92; with_reducible refine (doubleOf_any _ _).mono ?_; rintro e w' ⟨rfl, hbl⟩; obtain ⟨hc, hf, hz⟩ := cif hbl; (try simp only [World.size_alloc, World.size_setCell, World.size_drew, World.heap_drewN] at hz))
    | (go_at_call 93; with_reducible refine (float_any _ _).mono ?_; rintro e w' ⟨rfl, hbl⟩; obtain ⟨hc, hf, hz⟩ := cif hbl; (try simp only [World.size_alloc, World.size_setCell, World.size_drew, World.heap_drewN] at hz))
    | (go_at_call 94; with_reducible refine (toWhole_any _ _ ho _).mono ?_; rintro e w' ⟨rfl, hbl⟩; obtain ⟨hc, hf, hz⟩ := cif hbl; (try simp only [World.size_alloc, World.size_setCell, World.size_drew, World.heap_drewN] at hz)))
  go_quiet (fail)
  go_wp2_with (first
    | (go_at_call 90; with_reducible refine (HS.out _).mono ?_; rintro e w' ⟨rfl, rfl⟩)
    | (go_at_call 91; with_reducible refine (intOf_any _ _).mono ?_; rintro e w' ⟨rfl, hbl⟩; obtain ⟨hc, hf, hz⟩ := cif hbl; (try simp only [World.size_alloc, World.size_setCell, World.size_drew, World.heap_drewN] at hz))
    | (go_at_call 38; with_reducible refine (longOf_any _ _).mono ?_; rintro e w' ⟨rfl, hbl⟩; obtain ⟨hc, hf, hz⟩ := cif hbl; (try simp only [World.size_alloc, World.size_setCell, World.size_drew, World.heap_drewN] at hz))
    | (go_at_call 92; with_reducible refine (doubleOf_any _ _).mono ?_; rintro e w' ⟨rfl, hbl⟩; obtain ⟨hc, hf, hz⟩ := cif hbl; (try simp only [World.size_alloc, World.size_setCell, World.size_drew, World.heap_drewN] at hz))
    | (go_at_call 93; with_reducible refine (float_any _ _).mono ?_; rintro e w' ⟨rfl, hbl⟩; obtain ⟨hc, hf, hz⟩ := cif hbl; (try simp only [World.size_alloc, World.size_setCell, World.size_drew, World.heap_drewN] at hz))
    | (go_at_call 94; with_reducible refine (toWhole_any _ _ ho _).mono ?_; rintro e w' ⟨rfl, hbl⟩; obtain ⟨hc, hf, hz⟩ := cif hbl; (try simp only [World.size_alloc, World.size_setCell, World.size_drew, World.heap_drewN] at hz)))
  all_goals (((try simp only [Exit.inBlock, Exit.then]); go_light; refine bodyPost_ret (by simp [results, Tryd.results74, go_sem, *, ↓IntWalk.iteOmega]; try rfl) rfl ?_); refine ⟨congrArg Ending.returned ?_, by (repeat' (first | (with_reducible exact Below.refl _ _) | (with_reducible assumption) | (with_reducible refine Below.setCell ?_ ?_ _) | (with_reducible refine Below.alloc ?_ ?_ _) | (with_reducible refine Below.drew ?_) | (with_reducible refine below_drewN ?_ _) | (with_reducible refine below_next ?_ (by with_reducible assumption)) | omega | (dsimp only; omega) | (simp only [World.size_alloc, World.size_setCell, World.size_drew, World.heap_drewN]; omega)))⟩; simp [conv1, intV, longV, dblV, IntKind.wrap_u64, wrap32_mod, wrap64_mod, wrap32_mod', i8_w, i8_m, i16_w, i16_m, not_i32, not_i64, IntKind.wrap_u16, mod_u64 b hb0]; try (simp only [wrap32, wrap64]; omega))
set_option maxRecDepth 100000 in
set_option maxHeartbeats 4000000 in
theorem ev_81 (b l : Int) (hb : U64 b) (w : World) :
    Calls Tryd.prog 74 #[.int .i64 81, .agg #[.int .i64 1, .int .u64 b, .int .i64 l]] w fun e w' => e = .returned (.tuple #[.agg #[.int .i64 (conv1 81 b).1.k, .int .u64 (conv1 81 b).1.b, .int .i64 (conv1 81 b).1.l], .bool (conv1 81 b).2]) ∧ Below w.heap.size w w' := by
  have hx := bits_xor_u64 b 9223372036854775808 hb (by unfold U64; omega)
  have hsh := shape_any 81 (by unfold I64; omega)
  rw [show shape 81 = (1, 0, 1) from by kernel_rfl] at hsh
  have HS := Lib.hid hsh
  clear hsh
  have hb0 := hb
  obtain ⟨b1, b2⟩ := hb
  have hA1 := cell_alloc_if
  have hA2 := frozen_alloc_if
  have hA3 := cell_set_if
  go_enter Tryd.func74, Tryd.ntmps74
  go_wp2_with (first
    | (go_at_call 90; with_reducible refine (HS.out _).mono ?_; rintro e w' ⟨rfl, rfl⟩)
    | (go_at_call 91; with_reducible refine (intOf_any _ _).mono ?_; rintro e w' ⟨rfl, hbl⟩; obtain ⟨hc, hf, hz⟩ := cif hbl; (try simp only [World.size_alloc, World.size_setCell, World.size_drew, World.heap_drewN] at hz))
    | (go_at_call 38; with_reducible refine (longOf_any _ _).mono ?_; rintro e w' ⟨rfl, hbl⟩; obtain ⟨hc, hf, hz⟩ := cif hbl; (try simp only [World.size_alloc, World.size_setCell, World.size_drew, World.heap_drewN] at hz))
    | (go_at_call 92; with_reducible refine (doubleOf_any _ _).mono ?_; rintro e w' ⟨rfl, hbl⟩; obtain ⟨hc, hf, hz⟩ := cif hbl; (try simp only [World.size_alloc, World.size_setCell, World.size_drew, World.heap_drewN] at hz))
    | (go_at_call 93; with_reducible refine (float_any _ _).mono ?_; rintro e w' ⟨rfl, hbl⟩; obtain ⟨hc, hf, hz⟩ := cif hbl; (try simp only [World.size_alloc, World.size_setCell, World.size_drew, World.heap_drewN] at hz))
    | (go_at_call 94; with_reducible refine (toWhole_any _ _ ho _).mono ?_; rintro e w' ⟨rfl, hbl⟩; obtain ⟨hc, hf, hz⟩ := cif hbl; (try simp only [World.size_alloc, World.size_setCell, World.size_drew, World.heap_drewN] at hz)))
  go_quiet (fail)
  go_wp2_with (first
    | (go_at_call 90; with_reducible refine (HS.out _).mono ?_; rintro e w' ⟨rfl, rfl⟩)
    | (go_at_call 91; with_reducible refine (intOf_any _ _).mono ?_; rintro e w' ⟨rfl, hbl⟩; obtain ⟨hc, hf, hz⟩ := cif hbl; (try simp only [World.size_alloc, World.size_setCell, World.size_drew, World.heap_drewN] at hz))
    | (go_at_call 38; with_reducible refine (longOf_any _ _).mono ?_; rintro e w' ⟨rfl, hbl⟩; obtain ⟨hc, hf, hz⟩ := cif hbl; (try simp only [World.size_alloc, World.size_setCell, World.size_drew, World.heap_drewN] at hz))
    | (go_at_call 92; with_reducible refine (doubleOf_any _ _).mono ?_; rintro e w' ⟨rfl, hbl⟩; obtain ⟨hc, hf, hz⟩ := cif hbl; (try simp only [World.size_alloc, World.size_setCell, World.size_drew, World.heap_drewN] at hz))
    | (go_at_call 93; with_reducible refine (float_any _ _).mono ?_; rintro e w' ⟨rfl, hbl⟩; obtain ⟨hc, hf, hz⟩ := cif hbl; (try simp only [World.size_alloc, World.size_setCell, World.size_drew, World.heap_drewN] at hz))
    | (go_at_call 94; with_reducible refine (toWhole_any _ _ ho _).mono ?_; rintro e w' ⟨rfl, hbl⟩; obtain ⟨hc, hf, hz⟩ := cif hbl; (try simp only [World.size_alloc, World.size_setCell, World.size_drew, World.heap_drewN] at hz)))
  all_goals (((try simp only [Exit.inBlock, Exit.then]); go_light; refine bodyPost_ret (by simp [results, Tryd.results74, go_sem, *, ↓IntWalk.iteOmega]; try rfl) rfl ?_); refine ⟨congrArg Ending.returned ?_, by (repeat' (first | (with_reducible exact Below.refl _ _) | (with_reducible assumption) | (with_reducible refine Below.setCell ?_ ?_ _) | (with_reducible refine Below.alloc ?_ ?_ _) | (with_reducible refine Below.drew ?_) | (with_reducible refine below_drewN ?_ _) | (with_reducible refine below_next ?_ (by with_reducible assumption)) | omega | (dsimp only; omega) | (simp only [World.size_alloc, World.size_setCell, World.size_drew, World.heap_drewN]; omega)))⟩; simp [conv1, intV, longV, dblV, IntKind.wrap_u64, wrap32_mod, wrap64_mod, wrap32_mod', i8_w, i8_m, i16_w, i16_m, not_i32, not_i64, IntKind.wrap_u16, mod_u64 b hb0]; try (simp only [wrap32, wrap64]; omega))
set_option maxRecDepth 100000 in
set_option maxHeartbeats 4000000 in
theorem ev_82 (b l : Int) (hb : U64 b) (w : World) :
    Calls Tryd.prog 74 #[.int .i64 82, .agg #[.int .i64 1, .int .u64 b, .int .i64 l]] w fun e w' => e = .returned (.tuple #[.agg #[.int .i64 (conv1 82 b).1.k, .int .u64 (conv1 82 b).1.b, .int .i64 (conv1 82 b).1.l], .bool (conv1 82 b).2]) ∧ Below w.heap.size w w' := by
  have hx := bits_xor_u64 b 9223372036854775808 hb (by unfold U64; omega)
  have hsh := shape_any 82 (by unfold I64; omega)
  rw [show shape 82 = (1, 0, 1) from by kernel_rfl] at hsh
  have HS := Lib.hid hsh
  clear hsh
  have hb0 := hb
  obtain ⟨b1, b2⟩ := hb
  have hA1 := cell_alloc_if
  have hA2 := frozen_alloc_if
  have hA3 := cell_set_if
  go_enter Tryd.func74, Tryd.ntmps74
  go_wp2_with (first
    | (go_at_call 90; with_reducible refine (HS.out _).mono ?_; rintro e w' ⟨rfl, rfl⟩)
    | (go_at_call 91; with_reducible refine (intOf_any _ _).mono ?_; rintro e w' ⟨rfl, hbl⟩; obtain ⟨hc, hf, hz⟩ := cif hbl; (try simp only [World.size_alloc, World.size_setCell, World.size_drew, World.heap_drewN] at hz))
    | (go_at_call 38; with_reducible refine (longOf_any _ _).mono ?_; rintro e w' ⟨rfl, hbl⟩; obtain ⟨hc, hf, hz⟩ := cif hbl; (try simp only [World.size_alloc, World.size_setCell, World.size_drew, World.heap_drewN] at hz))
    | (go_at_call 92; with_reducible refine (doubleOf_any _ _).mono ?_; rintro e w' ⟨rfl, hbl⟩; obtain ⟨hc, hf, hz⟩ := cif hbl; (try simp only [World.size_alloc, World.size_setCell, World.size_drew, World.heap_drewN] at hz))
    | (go_at_call 93; with_reducible refine (float_any _ _).mono ?_; rintro e w' ⟨rfl, hbl⟩; obtain ⟨hc, hf, hz⟩ := cif hbl; (try simp only [World.size_alloc, World.size_setCell, World.size_drew, World.heap_drewN] at hz))
    | (go_at_call 94; with_reducible refine (toWhole_any _ _ ho _).mono ?_; rintro e w' ⟨rfl, hbl⟩; obtain ⟨hc, hf, hz⟩ := cif hbl; (try simp only [World.size_alloc, World.size_setCell, World.size_drew, World.heap_drewN] at hz)))
  go_quiet (fail)
  go_wp2_with (first
    | (go_at_call 90; with_reducible refine (HS.out _).mono ?_; rintro e w' ⟨rfl, rfl⟩)
    | (go_at_call 91; with_reducible refine (intOf_any _ _).mono ?_; rintro e w' ⟨rfl, hbl⟩; obtain ⟨hc, hf, hz⟩ := cif hbl; (try simp only [World.size_alloc, World.size_setCell, World.size_drew, World.heap_drewN] at hz))
    | (go_at_call 38; with_reducible refine (longOf_any _ _).mono ?_; rintro e w' ⟨rfl, hbl⟩; obtain ⟨hc, hf, hz⟩ := cif hbl; (try simp only [World.size_alloc, World.size_setCell, World.size_drew, World.heap_drewN] at hz))
    | (go_at_call 92; with_reducible refine (doubleOf_any _ _).mono ?_; rintro e w' ⟨rfl, hbl⟩; obtain ⟨hc, hf, hz⟩ := cif hbl; (try simp only [World.size_alloc, World.size_setCell, World.size_drew, World.heap_drewN] at hz))
    | (go_at_call 93; with_reducible refine (float_any _ _).mono ?_; rintro e w' ⟨rfl, hbl⟩; obtain ⟨hc, hf, hz⟩ := cif hbl; (try simp only [World.size_alloc, World.size_setCell, World.size_drew, World.heap_drewN] at hz))
    | (go_at_call 94; with_reducible refine (toWhole_any _ _ ho _).mono ?_; rintro e w' ⟨rfl, hbl⟩; obtain ⟨hc, hf, hz⟩ := cif hbl; (try simp only [World.size_alloc, World.size_setCell, World.size_drew, World.heap_drewN] at hz)))
  all_goals (((try simp only [Exit.inBlock, Exit.then]); go_light; refine bodyPost_ret (by simp [results, Tryd.results74, go_sem, *, ↓IntWalk.iteOmega]; try rfl) rfl ?_); refine ⟨congrArg Ending.returned ?_, by (repeat' (first | (with_reducible exact Below.refl _ _) | (with_reducible assumption) | (with_reducible refine Below.setCell ?_ ?_ _) | (with_reducible refine Below.alloc ?_ ?_ _) | (with_reducible refine Below.drew ?_) | (with_reducible refine below_drewN ?_ _) | (with_reducible refine below_next ?_ (by with_reducible assumption)) | omega | (dsimp only; omega) | (simp only [World.size_alloc, World.size_setCell, World.size_drew, World.heap_drewN]; omega)))⟩; simp [conv1, intV, longV, dblV, IntKind.wrap_u64, wrap32_mod, wrap64_mod, wrap32_mod', i8_w, i8_m, i16_w, i16_m, not_i32, not_i64, IntKind.wrap_u16, mod_u64 b hb0]; try (simp only [wrap32, wrap64]; omega))
set_option maxRecDepth 100000 in
set_option maxHeartbeats 4000000 in
theorem ev_83 (b l : Int) (hb : U64 b) (w : World) :
    Calls Tryd.prog 74 #[.int .i64 83, .agg #[.int .i64 1, .int .u64 b, .int .i64 l]] w fun e w' => e = .returned (.tuple #[.agg #[.int .i64 (conv1 83 b).1.k, .int .u64 (conv1 83 b).1.b, .int .i64 (conv1 83 b).1.l], .bool (conv1 83 b).2]) ∧ Below w.heap.size w w' := by
  have hx := bits_xor_u64 b 9223372036854775808 hb (by unfold U64; omega)
  have hsh := shape_any 83 (by unfold I64; omega)
  rw [show shape 83 = (1, 0, 1) from by kernel_rfl] at hsh
  have HS := Lib.hid hsh
  clear hsh
  have hb0 := hb
  obtain ⟨b1, b2⟩ := hb
  have hA1 := cell_alloc_if
  have hA2 := frozen_alloc_if
  have hA3 := cell_set_if
  go_enter Tryd.func74, Tryd.ntmps74
  go_wp2_with (first
    | (go_at_call 90; with_reducible refine (HS.out _).mono ?_; rintro e w' ⟨rfl, rfl⟩)
    | (go_at_call 91; with_reducible refine (intOf_any _ _).mono ?_; rintro e w' ⟨rfl, hbl⟩; obtain ⟨hc, hf, hz⟩ := cif hbl; (try simp only [World.size_alloc, World.size_setCell, World.size_drew, World.heap_drewN] at hz))
    | (go_at_call 38; with_reducible refine (longOf_any _ _).mono ?_; rintro e w' ⟨rfl, hbl⟩; obtain ⟨hc, hf, hz⟩ := cif hbl; (try simp only [World.size_alloc, World.size_setCell, World.size_drew, World.heap_drewN] at hz))
    | (go_at_call 92; with_reducible refine (doubleOf_any _ _).mono ?_; rintro e w' ⟨rfl, hbl⟩; obtain ⟨hc, hf, hz⟩ := cif hbl; (try simp only [World.size_alloc, World.size_setCell, World.size_drew, World.heap_drewN] at hz))
    | (go_at_call 93; with_reducible refine (float_any _ _).mono ?_; rintro e w' ⟨rfl, hbl⟩; obtain ⟨hc, hf, hz⟩ := cif hbl; (try simp only [World.size_alloc, World.size_setCell, World.size_drew, World.heap_drewN] at hz))
    | (go_at_call 94; with_reducible refine (toWhole_any _ _ ho _).mono ?_; rintro e w' ⟨rfl, hbl⟩; obtain ⟨hc, hf, hz⟩ := cif hbl; (try simp only [World.size_alloc, World.size_setCell, World.size_drew, World.heap_drewN] at hz)))
  go_quiet (fail)
  go_wp2_with (first
    | (go_at_call 90; with_reducible refine (HS.out _).mono ?_; rintro e w' ⟨rfl, rfl⟩)
    | (go_at_call 91; with_reducible refine (intOf_any _ _).mono ?_; rintro e w' ⟨rfl, hbl⟩; obtain ⟨hc, hf, hz⟩ := cif hbl; (try simp only [World.size_alloc, World.size_setCell, World.size_drew, World.heap_drewN] at hz))
    | (go_at_call 38; with_reducible refine (longOf_any _ _).mono ?_; rintro e w' ⟨rfl, hbl⟩; obtain ⟨hc, hf, hz⟩ := cif hbl; (try simp only [World.size_alloc, World.size_setCell, World.size_drew, World.heap_drewN] at hz))
    | (go_at_call 92; with_reducible refine (doubleOf_any _ _).mono ?_; rintro e w' ⟨rfl, hbl⟩; obtain ⟨hc, hf, hz⟩ := cif hbl; (try simp only [World.size_alloc, World.size_setCell, World.size_drew, World.heap_drewN] at hz))
    | (go_at_call 93; with_reducible refine (float_any _ _).mono ?_; rintro e w' ⟨rfl, hbl⟩; obtain ⟨hc, hf, hz⟩ := cif hbl; (try simp only [World.size_alloc, World.size_setCell, World.size_drew, World.heap_drewN] at hz))
    | (go_at_call 94; with_reducible refine (toWhole_any _ _ ho _).mono ?_; rintro e w' ⟨rfl, hbl⟩; obtain ⟨hc, hf, hz⟩ := cif hbl; (try simp only [World.size_alloc, World.size_setCell, World.size_drew, World.heap_drewN] at hz)))
  all_goals (((try simp only [Exit.inBlock, Exit.then]); go_light; refine bodyPost_ret (by simp [results, Tryd.results74, go_sem, *, ↓IntWalk.iteOmega]; try rfl) rfl ?_); refine ⟨congrArg Ending.returned ?_, by (repeat' (first | (with_reducible exact Below.refl _ _) | (with_reducible assumption) | (with_reducible refine Below.setCell ?_ ?_ _) | (with_reducible refine Below.alloc ?_ ?_ _) | (with_reducible refine Below.drew ?_) | (with_reducible refine below_drewN ?_ _) | (with_reducible refine below_next ?_ (by with_reducible assumption)) | omega | (dsimp only; omega) | (simp only [World.size_alloc, World.size_setCell, World.size_drew, World.heap_drewN]; omega)))⟩; simp [conv1, intV, longV, dblV, IntKind.wrap_u64, wrap32_mod, wrap64_mod, wrap32_mod', i8_w, i8_m, i16_w, i16_m, not_i32, not_i64, IntKind.wrap_u16, mod_u64 b hb0]; try (simp only [wrap32, wrap64]; omega))
set_option maxRecDepth 100000 in
set_option maxHeartbeats 4000000 in
theorem ev_84 (b l : Int) (hb : U64 b) (w : World) :
    Calls Tryd.prog 74 #[.int .i64 84, .agg #[.int .i64 1, .int .u64 b, .int .i64 l]] w fun e w' => e = .returned (.tuple #[.agg #[.int .i64 (conv1 84 b).1.k, .int .u64 (conv1 84 b).1.b, .int .i64 (conv1 84 b).1.l], .bool (conv1 84 b).2]) ∧ Below w.heap.size w w' := by
  have hx := bits_xor_u64 b 9223372036854775808 hb (by unfold U64; omega)
  have hsh := shape_any 84 (by unfold I64; omega)
  rw [show shape 84 = (1, 0, 2) from by kernel_rfl] at hsh
  have HS := Lib.hid hsh
  clear hsh
  have hb0 := hb
  obtain ⟨b1, b2⟩ := hb
  have hA1 := cell_alloc_if
  have hA2 := frozen_alloc_if
  have hA3 := cell_set_if
  go_enter Tryd.func74, Tryd.ntmps74
  go_wp2_with (first
    | (go_at_call 90; with_reducible refine (HS.out _).mono ?_; rintro e w' ⟨rfl, rfl⟩)
    | (go_at_call 91; with_reducible refine (intOf_any _ _).mono ?_; rintro e w' ⟨rfl, hbl⟩; obtain ⟨hc, hf, hz⟩ := cif hbl; (try simp only [World.size_alloc, World.size_setCell, World.size_drew, World.heap_drewN] at hz))
    | (go_at_call 38; with_reducible refine (longOf_any _ _).mono ?_; rintro e w' ⟨rfl, hbl⟩; obtain ⟨hc, hf, hz⟩ := cif hbl; (try simp only [World.size_alloc, World.size_setCell, World.size_drew, World.heap_drewN] at hz))
    | (go_at_call 92; with_reducible refine (doubleOf_any _ _).mono ?_; rintro e w' ⟨rfl, hbl⟩; obtain ⟨hc, hf, hz⟩ := cif hbl; (try simp only [World.size_alloc, World.size_setCell, World.size_drew, World.heap_drewN] at hz))
    | (go_at_call 93; with_reducible refine (float_any _ _).mono ?_; rintro e w' ⟨rfl, hbl⟩; obtain ⟨hc, hf, hz⟩ := cif hbl; (try simp only [World.size_alloc, World.size_setCell, World.size_drew, World.heap_drewN] at hz))
    | (go_at_call 94; with_reducible refine (toWhole_any _ _ ho _).mono ?_; rintro e w' ⟨rfl, hbl⟩; obtain ⟨hc, hf, hz⟩ := cif hbl; (try simp only [World.size_alloc, World.size_setCell, World.size_drew, World.heap_drewN] at hz)))
  go_quiet (fail)
  go_wp2_with (first
    | (go_at_call 90; with_reducible refine (HS.out _).mono ?_; rintro e w' ⟨rfl, rfl⟩)
    | (go_at_call 91; with_reducible refine (intOf_any _ _).mono ?_; rintro e w' ⟨rfl, hbl⟩; obtain ⟨hc, hf, hz⟩ := cif hbl; (try simp only [World.size_alloc, World.size_setCell, World.size_drew, World.heap_drewN] at hz))
    | (go_at_call 38; with_reducible refine (longOf_any _ _).mono ?_; rintro e w' ⟨rfl, hbl⟩; obtain ⟨hc, hf, hz⟩ := cif hbl; (try simp only [World.size_alloc, World.size_setCell, World.size_drew, World.heap_drewN] at hz))
    | (go_at_call 92; with_reducible refine (doubleOf_any _ _).mono ?_; rintro e w' ⟨rfl, hbl⟩; obtain ⟨hc, hf, hz⟩ := cif hbl; (try simp only [World.size_alloc, World.size_setCell, World.size_drew, World.heap_drewN] at hz))
    | (go_at_call 93; with_reducible refine (float_any _ _).mono ?_; rintro e w' ⟨rfl, hbl⟩; obtain ⟨hc, hf, hz⟩ := cif hbl; (try simp only [World.size_alloc, World.size_setCell, World.size_drew, World.heap_drewN] at hz))
    | (go_at_call 94; with_reducible refine (toWhole_any _ _ ho _).mono ?_; rintro e w' ⟨rfl, hbl⟩; obtain ⟨hc, hf, hz⟩ := cif hbl; (try simp only [World.size_alloc, World.size_setCell, World.size_drew, World.heap_drewN] at hz)))
  all_goals (((try simp only [Exit.inBlock, Exit.then]); go_light; refine bodyPost_ret (by simp [results, Tryd.results74, go_sem, *, ↓IntWalk.iteOmega]; try rfl) rfl ?_); refine ⟨congrArg Ending.returned ?_, by (repeat' (first | (with_reducible exact Below.refl _ _) | (with_reducible assumption) | (with_reducible refine Below.setCell ?_ ?_ _) | (with_reducible refine Below.alloc ?_ ?_ _) | (with_reducible refine Below.drew ?_) | (with_reducible refine below_drewN ?_ _) | (with_reducible refine below_next ?_ (by with_reducible assumption)) | omega | (dsimp only; omega) | (simp only [World.size_alloc, World.size_setCell, World.size_drew, World.heap_drewN]; omega)))⟩; simp [conv1, intV, longV, dblV, IntKind.wrap_u64, wrap32_mod, wrap64_mod, wrap32_mod', i8_w, i8_m, i16_w, i16_m, not_i32, not_i64, IntKind.wrap_u16, mod_u64 b hb0]; try (simp only [wrap32, wrap64]; omega))
set_option maxRecDepth 100000 in
set_option maxHeartbeats 4000000 in
theorem ev_85 (b l : Int) (hb : U64 b) (w : World) :
    Calls Tryd.prog 74 #[.int .i64 85, .agg #[.int .i64 1, .int .u64 b, .int .i64 l]] w fun e w' => e = .returned (.tuple #[.agg #[.int .i64 (conv1 85 b).1.k, .int .u64 (conv1 85 b).1.b, .int .i64 (conv1 85 b).1.l], .bool (conv1 85 b).2]) ∧ Below w.heap.size w w' := by
  have hx := bits_xor_u64 b 9223372036854775808 hb (by unfold U64; omega)
  have hsh := shape_any 85 (by unfold I64; omega)
  rw [show shape 85 = (1, 0, 2) from by kernel_rfl] at hsh
  have HS := Lib.hid hsh
  clear hsh
  have hb0 := hb
  obtain ⟨b1, b2⟩ := hb
  have hA1 := cell_alloc_if
  have hA2 := frozen_alloc_if
  have hA3 := cell_set_if
  go_enter Tryd.func74, Tryd.ntmps74
  go_wp2_with (first
    | (go_at_call 90; with_reducible refine (HS.out _).mono ?_; rintro e w' ⟨rfl, rfl⟩)
    | (go_at_call 91; with_reducible refine (intOf_any _ _).mono ?_; rintro e w' ⟨rfl, hbl⟩; obtain ⟨hc, hf, hz⟩ := cif hbl; (try simp only [World.size_alloc, World.size_setCell, World.size_drew, World.heap_drewN] at hz))
    | (go_at_call 38; with_reducible refine (longOf_any _ _).mono ?_; rintro e w' ⟨rfl, hbl⟩; obtain ⟨hc, hf, hz⟩ := cif hbl; (try simp only [World.size_alloc, World.size_setCell, World.size_drew, World.heap_drewN] at hz))
    | (go_at_call 92; with_reducible refine (doubleOf_any _ _).mono ?_; rintro e w' ⟨rfl, hbl⟩; obtain ⟨hc, hf, hz⟩ := cif hbl; (try simp only [World.size_alloc, World.size_setCell, World.size_drew, World.heap_drewN] at hz))
    | (go_at_call 93; with_reducible refine (float_any _ _).mono ?_; rintro e w' ⟨rfl, hbl⟩; obtain ⟨hc, hf, hz⟩ := cif hbl; (try simp only [World.size_alloc, World.size_setCell, World.size_drew, World.heap_drewN] at hz))
    | (go_at_call 94; with_reducible refine (toWhole_any _ _ ho _).mono ?_; rintro e w' ⟨rfl, hbl⟩; obtain ⟨hc, hf, hz⟩ := cif hbl; (try simp only [World.size_alloc, World.size_setCell, World.size_drew, World.heap_drewN] at hz)))
  go_quiet (fail)
  go_wp2_with (first
    | (go_at_call 90; with_reducible refine (HS.out _).mono ?_; rintro e w' ⟨rfl, rfl⟩)
    | (go_at_call 91; with_reducible refine (intOf_any _ _).mono ?_; rintro e w' ⟨rfl, hbl⟩; obtain ⟨hc, hf, hz⟩ := cif hbl; (try simp only [World.size_alloc, World.size_setCell, World.size_drew, World.heap_drewN] at hz))
    | (go_at_call 38; with_reducible refine (longOf_any _ _).mono ?_; rintro e w' ⟨rfl, hbl⟩; obtain ⟨hc, hf, hz⟩ := cif hbl; (try simp only [World.size_alloc, World.size_setCell, World.size_drew, World.heap_drewN] at hz))
    | (go_at_call 92; with_reducible refine (doubleOf_any _ _).mono ?_; rintro e w' ⟨rfl, hbl⟩; obtain ⟨hc, hf, hz⟩ := cif hbl; (try simp only [World.size_alloc, World.size_setCell, World.size_drew, World.heap_drewN] at hz))
    | (go_at_call 93; with_reducible refine (float_any _ _).mono ?_; rintro e w' ⟨rfl, hbl⟩; obtain ⟨hc, hf, hz⟩ := cif hbl; (try simp only [World.size_alloc, World.size_setCell, World.size_drew, World.heap_drewN] at hz))
    | (go_at_call 94; with_reducible refine (toWhole_any _ _ ho _).mono ?_; rintro e w' ⟨rfl, hbl⟩; obtain ⟨hc, hf, hz⟩ := cif hbl; (try simp only [World.size_alloc, World.size_setCell, World.size_drew, World.heap_drewN] at hz)))
  all_goals (((try simp only [Exit.inBlock, Exit.then]); go_light; refine bodyPost_ret (by simp [results, Tryd.results74, go_sem, *, ↓IntWalk.iteOmega]; try rfl) rfl ?_); refine ⟨congrArg Ending.returned ?_, by (repeat' (first | (with_reducible exact Below.refl _ _) | (with_reducible assumption) | (with_reducible refine Below.setCell ?_ ?_ _) | (with_reducible refine Below.alloc ?_ ?_ _) | (with_reducible refine Below.drew ?_) | (with_reducible refine below_drewN ?_ _) | (with_reducible refine below_next ?_ (by with_reducible assumption)) | omega | (dsimp only; omega) | (simp only [World.size_alloc, World.size_setCell, World.size_drew, World.heap_drewN]; omega)))⟩; simp [conv1, intV, longV, dblV, IntKind.wrap_u64, wrap32_mod, wrap64_mod, wrap32_mod', i8_w, i8_m, i16_w, i16_m, not_i32, not_i64, IntKind.wrap_u16, mod_u64 b hb0]; try (simp only [wrap32, wrap64]; omega))
set_option maxRecDepth 100000 in
set_option maxHeartbeats 4000000 in
theorem ev_86 (b l : Int) (hb : U64 b) (w : World) :
    Calls Tryd.prog 74 #[.int .i64 86, .agg #[.int .i64 2, .int .u64 b, .int .i64 l]] w fun e w' => e = .returned (.tuple #[.agg #[.int .i64 (conv1 86 b).1.k, .int .u64 (conv1 86 b).1.b, .int .i64 (conv1 86 b).1.l], .bool (conv1 86 b).2]) ∧ Below w.heap.size w w' := by
  have hx := bits_xor_u64 b 9223372036854775808 hb (by unfold U64; omega)
  have hsh := shape_any 86 (by unfold I64; omega)
  rw [show shape 86 = (2, 0, 1) from by kernel_rfl] at hsh
  have HS := Lib.hid hsh
  clear hsh
  have hb0 := hb
  obtain ⟨b1, b2⟩ := hb
  have hA1 := cell_alloc_if
  have hA2 := frozen_alloc_if
  have hA3 := cell_set_if
  go_enter Tryd.func74, Tryd.ntmps74
  go_wp2_with (first
    | (go_at_call 90; with_reducible refine (HS.out _).mono ?_; rintro e w' ⟨rfl, rfl⟩)
    | (go_at_call 91; with_reducible refine (intOf_any _ _).mono ?_; rintro e w' ⟨rfl, hbl⟩; obtain ⟨hc, hf, hz⟩ := cif hbl; (try simp only [World.size_alloc, World.size_setCell, World.size_drew, World.heap_drewN] at hz))
    | (go_at_call 38; with_reducible refine (longOf_any _ _).mono ?_; rintro e w' ⟨rfl, hbl⟩; obtain ⟨hc, hf, hz⟩ := cif hbl; (try simp only [World.size_alloc, World.size_setCell, World.size_drew, World.heap_drewN] at hz))
    | (go_at_call 92; with_reducible refine (doubleOf_any _ _).mono ?_; rintro e w' ⟨rfl, hbl⟩; obtain ⟨hc, hf, hz⟩ := cif hbl; (try simp only [World.size_alloc, World.size_setCell, World.size_drew, World.heap_drewN] at hz))
    | (go_at_call 93; with_reducible refine (float_any _ _).mono ?_; rintro e w' ⟨rfl, hbl⟩; obtain ⟨hc, hf, hz⟩ := cif hbl; (try simp only [World.size_alloc, World.size_setCell, World.size_drew, World.heap_drewN] at hz))
    | (go_at_call 94; with_reducible refine (toWhole_any _ _ ho _).mono ?_; rintro e w' ⟨rfl, hbl⟩; obtain ⟨hc, hf, hz⟩ := cif hbl; (try simp only [World.size_alloc, World.size_setCell, World.size_drew, World.heap_drewN] at hz)))
  go_quiet (fail)
  go_wp2_with (first
    | (go_at_call 90; with_reducible refine (HS.out _).mono ?_; rintro e w' ⟨rfl, rfl⟩)
    | (go_at_call 91; with_reducible refine (intOf_any _ _).mono ?_; rintro e w' ⟨rfl, hbl⟩; obtain ⟨hc, hf, hz⟩ := cif hbl; (try simp only [World.size_alloc, World.size_setCell, World.size_drew, World.heap_drewN] at hz))
    | (go_at_call 38; with_reducible refine (longOf_any _ _).mono ?_; rintro e w' ⟨rfl, hbl⟩; obtain ⟨hc, hf, hz⟩ := cif hbl; (try simp only [World.size_alloc, World.size_setCell, World.size_drew, World.heap_drewN] at hz))
    | (go_at_call 92; with_reducible refine (doubleOf_any _ _).mono ?_; rintro e w' ⟨rfl, hbl⟩; obtain ⟨hc, hf, hz⟩ := cif hbl; (try simp only [World.size_alloc, World.size_setCell, World.size_drew, World.heap_drewN] at hz))
    | (go_at_call 93; with_reducible refine (float_any _ _).mono ?_; rintro e w' ⟨rfl, hbl⟩; obtain ⟨hc, hf, hz⟩ := cif hbl; (try simp only [World.size_alloc, World.size_setCell, World.size_drew, World.heap_drewN] at hz))
    | (go_at_call 94; with_reducible refine (toWhole_any _ _ ho _).mono ?_; rintro e w' ⟨rfl, hbl⟩; obtain ⟨hc, hf, hz⟩ := cif hbl; (try simp only [World.size_alloc, World.size_setCell, World.size_drew, World.heap_drewN] at hz)))
  all_goals (((try simp only [Exit.inBlock, Exit.then]); go_light; refine bodyPost_ret (by simp [results, Tryd.results74, go_sem, *, ↓IntWalk.iteOmega]; try rfl) rfl ?_); refine ⟨congrArg Ending.returned ?_, by (repeat' (first | (with_reducible exact Below.refl _ _) | (with_reducible assumption) | (with_reducible refine Below.setCell ?_ ?_ _) | (with_reducible refine Below.alloc ?_ ?_ _) | (with_reducible refine Below.drew ?_) | (with_reducible refine below_drewN ?_ _) | (with_reducible refine below_next ?_ (by with_reducible assumption)) | omega | (dsimp only; omega) | (simp only [World.size_alloc, World.size_setCell, World.size_drew, World.heap_drewN]; omega)))⟩; simp [conv1, intV, longV, dblV, IntKind.wrap_u64, wrap32_mod, wrap64_mod, wrap32_mod', i8_w, i8_m, i16_w, i16_m, not_i32, not_i64, IntKind.wrap_u16, mod_u64 b hb0]; try (simp only [wrap32, wrap64]; omega))
set_option maxRecDepth 100000 in
set_option maxHeartbeats 4000000 in
theorem ev_87 (b l : Int) (hb : U64 b) (w : World) :
    Calls Tryd.prog 74 #[.int .i64 87, .agg #[.int .i64 1, .int .u64 b, .int .i64 l]] w fun e w' => e = .returned (.tuple #[.agg #[.int .i64 (conv1 87 b).1.k, .int .u64 (conv1 87 b).1.b, .int .i64 (conv1 87 b).1.l], .bool (conv1 87 b).2]) ∧ Below w.heap.size w w' := by
  have hx := bits_xor_u64 b 9223372036854775808 hb (by unfold U64; omega)
  have hsh := shape_any 87 (by unfold I64; omega)
  rw [show shape 87 = (1, 0, 3) from by kernel_rfl] at hsh
  have HS := Lib.hid hsh
  clear hsh
  have hb0 := hb
  obtain ⟨b1, b2⟩ := hb
  have hA1 := cell_alloc_if
  have hA2 := frozen_alloc_if
  have hA3 := cell_set_if
  go_enter Tryd.func74, Tryd.ntmps74
  go_wp2_with (first
    | (go_at_call 90; with_reducible refine (HS.out _).mono ?_; rintro e w' ⟨rfl, rfl⟩)
    | (go_at_call 91; with_reducible refine (intOf_any _ _).mono ?_; rintro e w' ⟨rfl, hbl⟩; obtain ⟨hc, hf, hz⟩ := cif hbl; (try simp only [World.size_alloc, World.size_setCell, World.size_drew, World.heap_drewN] at hz))
    | (go_at_call 38; with_reducible refine (longOf_any _ _).mono ?_; rintro e w' ⟨rfl, hbl⟩; obtain ⟨hc, hf, hz⟩ := cif hbl; (try simp only [World.size_alloc, World.size_setCell, World.size_drew, World.heap_drewN] at hz))
    | (go_at_call 92; with_reducible refine (doubleOf_any _ _).mono ?_; rintro e w' ⟨rfl, hbl⟩; obtain ⟨hc, hf, hz⟩ := cif hbl; (try simp only [World.size_alloc, World.size_setCell, World.size_drew, World.heap_drewN] at hz))
    | (go_at_call 93; with_reducible refine (float_any _ _).mono ?_; rintro e w' ⟨rfl, hbl⟩; obtain ⟨hc, hf, hz⟩ := cif hbl; (try simp only [World.size_alloc, World.size_setCell, World.size_drew, World.heap_drewN] at hz))
    | (go_at_call 94; with_reducible refine (toWhole_any _ _ ho _).mono ?_; rintro e w' ⟨rfl, hbl⟩; obtain ⟨hc, hf, hz⟩ := cif hbl; (try simp only [World.size_alloc, World.size_setCell, World.size_drew, World.heap_drewN] at hz)))
  go_quiet (fail)
  go_wp2_with (first
    | (go_at_call 90; with_reducible refine (HS.out _).mono ?_; rintro e w' ⟨rfl, rfl⟩)
    | (go_at_call 91; with_reducible refine (intOf_any _ _).mono ?_; rintro e w' ⟨rfl, hbl⟩; obtain ⟨hc, hf, hz⟩ := cif hbl; (try simp only [World.size_alloc, World.size_setCell, World.size_drew, World.heap_drewN] at hz))
    | (go_at_call 38; with_reducible refine (longOf_any _ _).mono ?_; rintro e w' ⟨rfl, hbl⟩; obtain ⟨hc, hf, hz⟩ := cif hbl; (try simp only [World.size_alloc, World.size_setCell, World.size_drew, World.heap_drewN] at hz))
    | (go_at_call 92; with_reducible refine (doubleOf_any _ _).mono ?_; rintro e w' ⟨rfl, hbl⟩; obtain ⟨hc, hf, hz⟩ := cif hbl; (try simp only [World.size_alloc, World.size_setCell, World.size_drew, World.heap_drewN] at hz))
    | (go_at_call 93; with_reducible refine (float_any _ _).mono ?_; rintro e w' ⟨rfl, hbl⟩; obtain ⟨hc, hf, hz⟩ := cif hbl; (try simp only [World.size_alloc, World.size_setCell, World.size_drew, World.heap_drewN] at hz))
    | (go_at_call 94; with_reducible refine (toWhole_any _ _ ho _).mono ?_; rintro e w' ⟨rfl, hbl⟩; obtain ⟨hc, hf, hz⟩ := cif hbl; (try simp only [World.size_alloc, World.size_setCell, World.size_drew, World.heap_drewN] at hz)))
  all_goals (((try simp only [Exit.inBlock, Exit.then]); go_light; refine bodyPost_ret (by simp [results, Tryd.results74, go_sem, *, ↓IntWalk.iteOmega]; try rfl) rfl ?_); refine ⟨congrArg Ending.returned ?_, by (repeat' (first | (with_reducible exact Below.refl _ _) | (with_reducible assumption) | (with_reducible refine Below.setCell ?_ ?_ _) | (with_reducible refine Below.alloc ?_ ?_ _) | (with_reducible refine Below.drew ?_) | (with_reducible refine below_drewN ?_ _) | (with_reducible refine below_next ?_ (by with_reducible assumption)) | omega | (dsimp only; omega) | (simp only [World.size_alloc, World.size_setCell, World.size_drew, World.heap_drewN]; omega)))⟩; simp [conv1, intV, longV, dblV, IntKind.wrap_u64, wrap32_mod, wrap64_mod, wrap32_mod', i8_w, i8_m, i16_w, i16_m, not_i32, not_i64, IntKind.wrap_u16, mod_u64 b hb0]; try (simp only [wrap32, wrap64]; omega))
set_option maxRecDepth 100000 in
set_option maxHeartbeats 4000000 in
theorem ev_88 (b l : Int) (hb : U64 b) (w : World) :
    Calls Tryd.prog 74 #[.int .i64 88, .agg #[.int .i64 1, .int .u64 b, .int .i64 l]] w fun e w' => e = .returned (.tuple #[.agg #[.int .i64 (conv1 88 b).1.k, .int .u64 (conv1 88 b).1.b, .int .i64 (conv1 88 b).1.l], .bool (conv1 88 b).2]) ∧ Below w.heap.size w w' := by
  have hx := bits_xor_u64 b 9223372036854775808 hb (by unfold U64; omega)
  have hsh := shape_any 88 (by unfold I64; omega)
  rw [show shape 88 = (1, 0, 3) from by kernel_rfl] at hsh
  have HS := Lib.hid hsh
  clear hsh
  have hb0 := hb
  obtain ⟨b1, b2⟩ := hb
  have hA1 := cell_alloc_if
  have hA2 := frozen_alloc_if
  have hA3 := cell_set_if
  go_enter Tryd.func74, Tryd.ntmps74
  go_wp2_with (first
    | (go_at_call 90; with_reducible refine (HS.out _).mono ?_; rintro e w' ⟨rfl, rfl⟩)
    | (go_at_call 91; with_reducible refine (intOf_any _ _).mono ?_; rintro e w' ⟨rfl, hbl⟩; obtain ⟨hc, hf, hz⟩ := cif hbl; (try simp only [World.size_alloc, World.size_setCell, World.size_drew, World.heap_drewN] at hz))
    | (go_at_call 38; with_reducible refine (longOf_any _ _).mono ?_; rintro e w' ⟨rfl, hbl⟩; obtain ⟨hc, hf, hz⟩ := cif hbl; (try simp only [World.size_alloc, World.size_setCell, World.size_drew, World.heap_drewN] at hz))
    | (go_at_call 92; with_reducible refine (doubleOf_any _ _).mono ?_; rintro e w' ⟨rfl, hbl⟩; obtain ⟨hc, hf, hz⟩ := cif hbl; (try simp only [World.size_alloc, World.size_setCell, World.size_drew, World.heap_drewN] at hz))
    | (go_at_call 93; with_reducible refine (float_any _ _).mono ?_; rintro e w' ⟨rfl, hbl⟩; obtain ⟨hc, hf, hz⟩ := cif hbl; (try simp only [World.size_alloc, World.size_setCell, World.size_drew, World.heap_drewN] at hz))
    | (go_at_call 94; with_reducible refine (toWhole_any _ _ ho _).mono ?_; rintro e w' ⟨rfl, hbl⟩; obtain ⟨hc, hf, hz⟩ := cif hbl; (try simp only [World.size_alloc, World.size_setCell, World.size_drew, World.heap_drewN] at hz)))
  go_quiet (fail)
  go_wp2_with (first
    | (go_at_call 90; with_reducible refine (HS.out _).mono ?_; rintro e w' ⟨rfl, rfl⟩)
    | (go_at_call 91; with_reducible refine (intOf_any _ _).mono ?_; rintro e w' ⟨rfl, hbl⟩; obtain ⟨hc, hf, hz⟩ := cif hbl; (try simp only [World.size_alloc, World.size_setCell, World.size_drew, World.heap_drewN] at hz))
    | (go_at_call 38; with_reducible refine (longOf_any _ _).mono ?_; rintro e w' ⟨rfl, hbl⟩; obtain ⟨hc, hf, hz⟩ := cif hbl; (try simp only [World.size_alloc, World.size_setCell, World.size_drew, World.heap_drewN] at hz))
    | (go_at_call 92; with_reducible refine (doubleOf_any _ _).mono ?_; rintro e w' ⟨rfl, hbl⟩; obtain ⟨hc, hf, hz⟩ := cif hbl; (try simp only [World.size_alloc, World.size_setCell, World.size_drew, World.heap_drewN] at hz))
    | (go_at_call 93; with_reducible refine (float_any _ _).mono ?_; rintro e w' ⟨rfl, hbl⟩; obtain ⟨hc, hf, hz⟩ := cif hbl; (try simp only [World.size_alloc, World.size_setCell, World.size_drew, World.heap_drewN] at hz))
    | (go_at_call 94; with_reducible refine (toWhole_any _ _ ho _).mono ?_; rintro e w' ⟨rfl, hbl⟩; obtain ⟨hc, hf, hz⟩ := cif hbl; (try simp only [World.size_alloc, World.size_setCell, World.size_drew, World.heap_drewN] at hz)))
  all_goals (((try simp only [Exit.inBlock, Exit.then]); go_light; refine bodyPost_ret (by simp [results, Tryd.results74, go_sem, *, ↓IntWalk.iteOmega]; try rfl) rfl ?_); refine ⟨congrArg Ending.returned ?_, by (repeat' (first | (with_reducible exact Below.refl _ _) | (with_reducible assumption) | (with_reducible refine Below.setCell ?_ ?_ _) | (with_reducible refine Below.alloc ?_ ?_ _) | (with_reducible refine Below.drew ?_) | (with_reducible refine below_drewN ?_ _) | (with_reducible refine below_next ?_ (by with_reducible assumption)) | omega | (dsimp only; omega) | (simp only [World.size_alloc, World.size_setCell, World.size_drew, World.heap_drewN]; omega)))⟩; simp [conv1, intV, longV, dblV, IntKind.wrap_u64, wrap32_mod, wrap64_mod, wrap32_mod', i8_w, i8_m, i16_w, i16_m, not_i32, not_i64, IntKind.wrap_u16, mod_u64 b hb0]; try (simp only [wrap32, wrap64]; omega))
set_option maxRecDepth 100000 in
set_option maxHeartbeats 4000000 in
theorem ev_89 (b l : Int) (hb : U64 b) (w : World) :
    Calls Tryd.prog 74 #[.int .i64 89, .agg #[.int .i64 2, .int .u64 b, .int .i64 l]] w fun e w' => e = .returned (.tuple #[.agg #[.int .i64 (conv1 89 b).1.k, .int .u64 (conv1 89 b).1.b, .int .i64 (conv1 89 b).1.l], .bool (conv1 89 b).2]) ∧ Below w.heap.size w w' := by
  have hx := bits_xor_u64 b 9223372036854775808 hb (by unfold U64; omega)
  have hsh := shape_any 89 (by unfold I64; omega)
  rw [show shape 89 = (2, 0, 3) from by kernel_rfl] at hsh
  have HS := Lib.hid hsh
  clear hsh
  have hb0 := hb
  obtain ⟨b1, b2⟩ := hb
  have hA1 := cell_alloc_if
  have hA2 := frozen_alloc_if
  have hA3 := cell_set_if
  go_enter Tryd.func74, Tryd.ntmps74
  go_wp2_with (first
    | (go_at_call 90; with_reducible refine (HS.out _).mono ?_; rintro e w' ⟨rfl, rfl⟩)
    | (go_at_call 91; with_reducible refine (intOf_any _ _).mono ?_; rintro e w' ⟨rfl, hbl⟩; obtain ⟨hc, hf, hz⟩ := cif hbl; (try simp only [World.size_alloc, World.size_setCell, World.size_drew, World.heap_drewN] at hz))
    | (go_at_call 38; with_reducible refine (longOf_any _ _).mono ?_; rintro e w' ⟨rfl, hbl⟩; obtain ⟨hc, hf, hz⟩ := cif hbl; (try simp only [World.size_alloc, World.size_setCell, World.size_drew, World.heap_drewN] at hz))
    | (go_at_call 92; with_reducible refine (doubleOf_any _ _).mono ?_; rintro e w' ⟨rfl, hbl⟩; obtain ⟨hc, hf, hz⟩ := cif hbl; (try simp only [World.size_alloc, World.size_setCell, World.size_drew, World.heap_drewN] at hz))
    | (go_at_call 93; with_reducible refine (float_any _ _).mono ?_; rintro e w' ⟨rfl, hbl⟩; obtain ⟨hc, hf, hz⟩ := cif hbl; (try simp only [World.size_alloc, World.size_setCell, World.size_drew, World.heap_drewN] at hz))
    | (go_at_call 94; with_reducible refine (toWhole_any _ _ ho _).mono ?_; rintro e w' ⟨rfl, hbl⟩; obtain ⟨hc, hf, hz⟩ := cif hbl; (try simp only [World.size_alloc, World.size_setCell, World.size_drew, World.heap_drewN] at hz)))
  go_quiet (fail)
  go_wp2_with (first
    | (go_at_call 90; with_reducible refine (HS.out _).mono ?_; rintro e w' ⟨rfl, rfl⟩)
    | (go_at_call 91; with_reducible refine (intOf_any _ _).mono ?_; rintro e w' ⟨rfl, hbl⟩; obtain ⟨hc, hf, hz⟩ := cif hbl; (try simp only [World.size_alloc, World.size_setCell, World.size_drew, World.heap_drewN] at hz))
    | (go_at_call 38; with_reducible refine (longOf_any _ _).mono ?_; rintro e w' ⟨rfl, hbl⟩; obtain ⟨hc, hf, hz⟩ := cif hbl; (try simp only [World.size_alloc, World.size_setCell, World.size_drew, World.heap_drewN] at hz))
    | (go_at_call 92; with_reducible refine (doubleOf_any _ _).mono ?_; rintro e w' ⟨rfl, hbl⟩; obtain ⟨hc, hf, hz⟩ := cif hbl; (try simp only [World.size_alloc, World.size_setCell, World.size_drew, World.heap_drewN] at hz))
    | (go_at_call 93; with_reducible refine (float_any _ _).mono ?_; rintro e w' ⟨rfl, hbl⟩; obtain ⟨hc, hf, hz⟩ := cif hbl; (try simp only [World.size_alloc, World.size_setCell, World.size_drew, World.heap_drewN] at hz))
    | (go_at_call 94; with_reducible refine (toWhole_any _ _ ho _).mono ?_; rintro e w' ⟨rfl, hbl⟩; obtain ⟨hc, hf, hz⟩ := cif hbl; (try simp only [World.size_alloc, World.size_setCell, World.size_drew, World.heap_drewN] at hz)))
  all_goals (((try simp only [Exit.inBlock, Exit.then]); go_light; refine bodyPost_ret (by simp [results, Tryd.results74, go_sem, *, ↓IntWalk.iteOmega]; try rfl) rfl ?_); refine ⟨congrArg Ending.returned ?_, by (repeat' (first | (with_reducible exact Below.refl _ _) | (with_reducible assumption) | (with_reducible refine Below.setCell ?_ ?_ _) | (with_reducible refine Below.alloc ?_ ?_ _) | (with_reducible refine Below.drew ?_) | (with_reducible refine below_drewN ?_ _) | (with_reducible refine below_next ?_ (by with_reducible assumption)) | omega | (dsimp only; omega) | (simp only [World.size_alloc, World.size_setCell, World.size_drew, World.heap_drewN]; omega)))⟩; simp [conv1, intV, longV, dblV, IntKind.wrap_u64, wrap32_mod, wrap64_mod, wrap32_mod', i8_w, i8_m, i16_w, i16_m, not_i32, not_i64, IntKind.wrap_u16, mod_u64 b hb0]; try (simp only [wrap32, wrap64]; omega))
set_option maxRecDepth 100000 in
set_option maxHeartbeats 4000000 in
theorem ev_90 (b l : Int) (hb : U64 b) (w : World) :
    Calls Tryd.prog 74 #[.int .i64 90, .agg #[.int .i64 2, .int .u64 b, .int .i64 l]] w fun e w' => e = .returned (.tuple #[.agg #[.int .i64 (conv1 90 b).1.k, .int .u64 (conv1 90 b).1.b, .int .i64 (conv1 90 b).1.l], .bool (conv1 90 b).2]) ∧ Below w.heap.size w w' := by
  have hx := bits_xor_u64 b 9223372036854775808 hb (by unfold U64; omega)
  have hsh := shape_any 90 (by unfold I64; omega)
  rw [show shape 90 = (2, 0, 3) from by kernel_rfl] at hsh
  have HS := Lib.hid hsh
  clear hsh
  have hb0 := hb
  obtain ⟨b1, b2⟩ := hb
  have hA1 := cell_alloc_if
  have hA2 := frozen_alloc_if
  have hA3 := cell_set_if
  go_enter Tryd.func74, Tryd.ntmps74
  go_wp2_with (first
    | (go_at_call 90; with_reducible refine (HS.out _).mono ?_; rintro e w' ⟨rfl, rfl⟩)
    | (go_at_call 91; with_reducible refine (intOf_any _ _).mono ?_; rintro e w' ⟨rfl, hbl⟩; obtain ⟨hc, hf, hz⟩ := cif hbl; (try simp only [World.size_alloc, World.size_setCell, World.size_drew, World.heap_drewN] at hz))
    | (go_at_call 38; with_reducible refine (longOf_any _ _).mono ?_; rintro e w' ⟨rfl, hbl⟩; obtain ⟨hc, hf, hz⟩ := cif hbl; (try simp only [World.size_alloc, World.size_setCell, World.size_drew, World.heap_drewN] at hz))
    | (go_at_call 92; with_reducible refine (doubleOf_any _ _).mono ?_; rintro e w' ⟨rfl, hbl⟩; obtain ⟨hc, hf, hz⟩ := cif hbl; (try simp only [World.size_alloc, World.size_setCell, World.size_drew, World.heap_drewN] at hz))
    | (go_at_call 93; with_reducible refine (float_any _ _).mono ?_; rintro e w' ⟨rfl, hbl⟩; obtain ⟨hc, hf, hz⟩ := cif hbl; (try simp only [World.size_alloc, World.size_setCell, World.size_drew, World.heap_drewN] at hz))
    | (go_at_call 94; with_reducible refine (toWhole_any _ _ ho _).mono ?_; rintro e w' ⟨rfl, hbl⟩; obtain ⟨hc, hf, hz⟩ := cif hbl; (try simp only [World.size_alloc, World.size_setCell, World.size_drew, World.heap_drewN] at hz)))
  go_quiet (fail)
  go_wp2_with (first
    | (go_at_call 90; with_reducible refine (HS.out _).mono ?_; rintro e w' ⟨rfl, rfl⟩)
    | (go_at_call 91; with_reducible refine (intOf_any _ _).mono ?_; rintro e w' ⟨rfl, hbl⟩; obtain ⟨hc, hf, hz⟩ := cif hbl; (try simp only [World.size_alloc, World.size_setCell, World.size_drew, World.heap_drewN] at hz))
    | (go_at_call 38; with_reducible refine (longOf_any _ _).mono ?_; rintro e w' ⟨rfl, hbl⟩; obtain ⟨hc, hf, hz⟩ := cif hbl; (try simp only [World.size_alloc, World.size_setCell, World.size_drew, World.heap_drewN] at hz))
    | (go_at_call 92; with_reducible refine (doubleOf_any _ _).mono ?_; rintro e w' ⟨rfl, hbl⟩; obtain ⟨hc, hf, hz⟩ := cif hbl; (try simp only [World.size_alloc, World.size_setCell, World.size_drew, World.heap_drewN] at hz))
    | (go_at_call 93; with_reducible refine (float_any _ _).mono ?_; rintro e w' ⟨rfl, hbl⟩; obtain ⟨hc, hf, hz⟩ := cif hbl; (try simp only [World.size_alloc, World.size_setCell, World.size_drew, World.heap_drewN] at hz))
    | (go_at_call 94; with_reducible refine (toWhole_any _ _ ho _).mono ?_; rintro e w' ⟨rfl, hbl⟩; obtain ⟨hc, hf, hz⟩ := cif hbl; (try simp only [World.size_alloc, World.size_setCell, World.size_drew, World.heap_drewN] at hz)))
  all_goals (((try simp only [Exit.inBlock, Exit.then]); go_light; refine bodyPost_ret (by simp [results, Tryd.results74, go_sem, *, ↓IntWalk.iteOmega]; try rfl) rfl ?_); refine ⟨congrArg Ending.returned ?_, by (repeat' (first | (with_reducible exact Below.refl _ _) | (with_reducible assumption) | (with_reducible refine Below.setCell ?_ ?_ _) | (with_reducible refine Below.alloc ?_ ?_ _) | (with_reducible refine Below.drew ?_) | (with_reducible refine below_drewN ?_ _) | (with_reducible refine below_next ?_ (by with_reducible assumption)) | omega | (dsimp only; omega) | (simp only [World.size_alloc, World.size_setCell, World.size_drew, World.heap_drewN]; omega)))⟩; simp [conv1, intV, longV, dblV, IntKind.wrap_u64, wrap32_mod, wrap64_mod, wrap32_mod', i8_w, i8_m, i16_w, i16_m, not_i32, not_i64, IntKind.wrap_u16, mod_u64 b hb0]; try (simp only [wrap32, wrap64]; omega))
end Go.Proofs.YteeojgepgjndgaaDoor
