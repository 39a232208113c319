/-
  What this seat needs of layer 1 (mach): the makers of values, and a whole number as a double.
-/
import Derived.Test.YteepjngkbjbheaaDoorProg
import Derived.Test.YteepjngkbjbheaaDoorMachDefs
import Derived.Test.YteepjngkbjbheaaDoorIf
import Derived.Deep.Light
import Derived.Deep.QuietTactic
import Derived.BigQuiet
namespace Go.Proofs.YteepjngkbjbheaaDoor
open Go.RowKit
set_option linter.unusedVariables false
set_option linter.unusedSimpArgs false

set_option maxHeartbeats 400000 in
theorem split_any (op : Int) (h : I64 op) (w : World) :
    Calls Tryd.prog 54 #[.int .i64 op] w fun e w' => e = .returned (.tuple #[.int .i64 (split op).1, .int .i64 (split op).2]) ∧ w = w' := by
  obtain ⟨h1, h2⟩ := h
  go_enter Tryd.func54, Tryd.ntmps54
  go_wp2
  all_goals (go_returns; refine ⟨?_, rfl⟩; go_light; simp; grind [split])

set_option maxHeartbeats 1000000 in
theorem shape_any (op : Int) (h : I64 op) (w : World) :
    Calls Tryd.prog 42 #[.int .i64 op] w fun e w' => e = .returned (.tuple #[.int .i64 (shape op).1, .int .i64 (shape op).2.1, .int .i64 (shape op).2.2]) ∧ w = w' := by
  have hs := h
  obtain ⟨h1, h2⟩ := h
  obtain ⟨h3, h4⟩ := split_b op hs
  go_enter Tryd.func42, Tryd.ntmps42
  go_wp2_with (go_at_call 54; refine (split_any _ hs _).mono ?_; rintro e w' ⟨rfl, rfl⟩)
  all_goals (go_returns; refine ⟨?_, rfl⟩; go_light; simp; grind (splits := 40) [shape])

set_option maxHeartbeats 400000 in
theorem intOf_any (n : Int) (w : World) :
    Calls Tryd.prog 25 #[.int .i32 n] w fun e w' => e = .returned (.agg #[.int .i64 1, .int .u64 (n % 4294967296), .int .i64 0]) ∧ Below w.heap.size w w' := by
  go_enter Tryd.func25, Tryd.ntmps25
  go_wp2
  go_returns
  exact ⟨rfl, by go_grown⟩

set_option maxHeartbeats 400000 in
theorem ref_int_any (n : Int) (w : World) :
    Calls Tryd.prog 28 #[.int .i32 n] w fun e w' => e = .returned (.agg #[.int .i64 1, .int .u64 (n % 4294967296), .int .i64 0]) ∧ Below w.heap.size w w' := by
  go_enter Tryd.func28, Tryd.ntmps28
  go_wp2
  go_returns
  exact ⟨rfl, by go_grown⟩

set_option maxHeartbeats 400000 in
theorem longOf_any (n : Int) (w : World) :
    Calls Tryd.prog 26 #[.int .i64 n] w fun e w' => e = .returned (.agg #[.int .i64 2, .int .u64 (n % 18446744073709551616), .int .i64 0]) ∧ Below w.heap.size w w' := by
  go_enter Tryd.func26, Tryd.ntmps26
  go_wp2
  go_returns
  exact ⟨by rw [IntKind.wrap_u64], by go_grown⟩

set_option maxHeartbeats 400000 in
theorem ref_long_any (n : Int) (w : World) :
    Calls Tryd.prog 29 #[.int .i64 n] w fun e w' => e = .returned (.agg #[.int .i64 2, .int .u64 (n % 18446744073709551616), .int .i64 0]) ∧ Below w.heap.size w w' := by
  go_enter Tryd.func29, Tryd.ntmps29
  go_wp2
  go_returns
  exact ⟨by rw [IntKind.wrap_u64], by go_grown⟩

set_option maxHeartbeats 400000 in
theorem doubleOf_any (n : Int) (w : World) :
    Calls Tryd.prog 43 #[.int .u64 n] w fun e w' => e = .returned (.agg #[.int .i64 3, .int .u64 n, .int .i64 0]) ∧ Below w.heap.size w w' := by
  go_enter Tryd.func43, Tryd.ntmps43
  go_wp2
  go_returns
  exact ⟨rfl, by go_grown⟩

/-- How two doubles stand to each other. -/
def ford (x y : Nat) : Option Ordering := FloatKind.f64.format.order x y

/-- The double of a word; what isn't a number has one form. -/
def canonF (n : Nat) : V := if ford n n = some .eq then dblV n else dblV 9221120237041090560

theorem frombits_run (n : Int) (w : World) : (callFunc 46 #[.int .u64 n]).run Tryd.prog w = .ok (.value (.float .f64 n.toNat)) w := by kernel_rfl

theorem tobits_run (n : Nat) (w : World) : (callFunc 47 #[.float .f64 n]).run Tryd.prog w = .ok (.value (.int .u64 n)) w := by kernel_rfl

attribute [local go_sem] frombits_run tobits_run

set_option maxHeartbeats 400000 in
theorem isNaN_any (n : Nat) (w : World) :
    Calls Tryd.prog 55 #[.float .f64 n] w fun e w' => e = .returned (.bool (ford n n != some .eq)) ∧ w = w' := by
  go_enter Tryd.func55, Tryd.ntmps55
  go_wp2
  go_returns
  exact ⟨rfl, rfl⟩

set_option maxHeartbeats 400000 in
theorem float_any (n : Nat) (w : World) :
    Calls Tryd.prog 44 #[.float .f64 n] w fun e w' => e = .returned (.agg #[.int .i64 (canonF n).k, .int .u64 (canonF n).b, .int .i64 (canonF n).l]) ∧ Below w.heap.size w w' := by
  by_cases h : ford n n = some .eq
  · have h1 : (ford n n != some .eq) = false := by simp [h]
    go_enter Tryd.func44, Tryd.ntmps44
    go_wp2_with (first | (go_at_call 55; refine (isNaN_any _ _).mono ?_; rw [h1]; rintro e w' ⟨rfl, rfl⟩) | (go_at_call 43; refine (doubleOf_any _ _).mono ?_; rintro e w' ⟨rfl, hbl⟩; obtain ⟨hc, hf, hz⟩ := cif hbl; (try simp only [World.size_alloc, World.size_setCell, World.size_drew, World.heap_drewN] at hz)))
    all_goals (((try simp only [Exit.inBlock, Exit.then]); go_light; refine bodyPost_ret (by simp [results, Tryd.results44, go_sem, *]; try rfl) rfl ?_); refine ⟨congrArg Ending.returned ?_, by (repeat' (first | (with_reducible exact Below.refl _ _) | (with_reducible assumption) | (with_reducible refine Below.setCell ?_ ?_ _) | (with_reducible refine Below.alloc ?_ ?_ _) | (with_reducible refine Below.drew ?_) | (with_reducible refine below_drewN ?_ _) | (with_reducible refine below_next ?_ (by with_reducible assumption)) | omega | (dsimp only; omega) | (simp only [World.size_alloc, World.size_setCell, World.size_drew, World.heap_drewN]; omega)))⟩; simp [canonF, h, dblV])
  · have h1 : (ford n n != some .eq) = true := by simpa using h
    go_enter Tryd.func44, Tryd.ntmps44
    go_wp2_with (first | (go_at_call 55; refine (isNaN_any _ _).mono ?_; rw [h1]; rintro e w' ⟨rfl, rfl⟩) | (go_at_call 43; refine (doubleOf_any _ _).mono ?_; rintro e w' ⟨rfl, hbl⟩; obtain ⟨hc, hf, hz⟩ := cif hbl; (try simp only [World.size_alloc, World.size_setCell, World.size_drew, World.heap_drewN] at hz)))
    all_goals (((try simp only [Exit.inBlock, Exit.then]); go_light; refine bodyPost_ret (by simp [results, Tryd.results44, go_sem, *]; try rfl) rfl ?_); refine ⟨congrArg Ending.returned ?_, by (repeat' (first | (with_reducible exact Below.refl _ _) | (with_reducible assumption) | (with_reducible refine Below.setCell ?_ ?_ _) | (with_reducible refine Below.alloc ?_ ?_ _) | (with_reducible refine Below.drew ?_) | (with_reducible refine below_drewN ?_ _) | (with_reducible refine below_next ?_ (by with_reducible assumption)) | omega | (dsimp only; omega) | (simp only [World.size_alloc, World.size_setCell, World.size_drew, World.heap_drewN]; omega)))⟩; simp [canonF, h, dblV])

set_option maxHeartbeats 400000 in
theorem ref_dbl_any (n : Nat) (w : World) :
    Calls Tryd.prog 30 #[.float .f64 n] w fun e w' => e = .returned (.agg #[.int .i64 (canonF n).k, .int .u64 (canonF n).b, .int .i64 (canonF n).l]) ∧ Below w.heap.size w w' := by
  by_cases h : ford n n = some .eq
  · have h1 : (FloatKind.f64.format.order n n != some .eq) = false := by simpa [ford] using h
    go_enter Tryd.func30, Tryd.ntmps30
    go_wp2
    all_goals (go_returns; refine ⟨congrArg Ending.returned ?_, by (repeat' (first | (with_reducible exact Below.refl _ _) | (with_reducible assumption) | (with_reducible refine Below.setCell ?_ ?_ _) | (with_reducible refine Below.alloc ?_ ?_ _) | (with_reducible refine Below.drew ?_) | (with_reducible refine below_drewN ?_ _) | (with_reducible refine below_next ?_ (by with_reducible assumption)) | omega | (dsimp only; omega) | (simp only [World.size_alloc, World.size_setCell, World.size_drew, World.heap_drewN]; omega)))⟩; go_light; simp [canonF, h, dblV])
  · have h1 : (FloatKind.f64.format.order n n != some .eq) = true := by simpa [ford] using h
    go_enter Tryd.func30, Tryd.ntmps30
    go_wp2
    all_goals (go_returns; refine ⟨congrArg Ending.returned ?_, by (repeat' (first | (with_reducible exact Below.refl _ _) | (with_reducible assumption) | (with_reducible refine Below.setCell ?_ ?_ _) | (with_reducible refine Below.alloc ?_ ?_ _) | (with_reducible refine Below.drew ?_) | (with_reducible refine below_drewN ?_ _) | (with_reducible refine below_next ?_ (by with_reducible assumption)) | omega | (dsimp only; omega) | (simp only [World.size_alloc, World.size_setCell, World.size_drew, World.heap_drewN]; omega)))⟩; go_light; simp [canonF, h, dblV])

set_option maxRecDepth 100000 in
set_option maxHeartbeats 4000000 in
theorem ev_89 (b l : Int) (hb : U64 b) (w : World) :
    Calls Tryd.prog 27 #[.int .i64 89, .agg #[.int .i64 2, .int .u64 b, .int .i64 l]] w fun e w' => e = .returned (.tuple #[.agg #[.int .i64 (canonF (floatOfInt .f64 (wrap64 b))).k, .int .u64 (canonF (floatOfInt .f64 (wrap64 b))).b, .int .i64 (canonF (floatOfInt .f64 (wrap64 b))).l], .bool true]) ∧ Below w.heap.size w w' := by
  have hsh := shape_any 89 (by unfold I64; omega)
  rw [show shape 89 = (2, 0, 3) from by kernel_rfl] at hsh
  have HS := Lib.hid hsh
  clear hsh
  obtain ⟨b1, b2⟩ := hb
  have hA1 := cell_alloc_if
  have hA2 := frozen_alloc_if
  have hA3 := cell_set_if
  go_enter Tryd.func27, Tryd.ntmps27
  go_wp2_with (first
    | (go_at_call 42; with_reducible refine (HS.out _).mono ?_; rintro e w' ⟨rfl, rfl⟩)
    | (go_at_call 44; with_reducible refine (float_any _ _).mono ?_; rintro e w' ⟨rfl, hbl⟩; obtain ⟨hc, hf, hz⟩ := cif hbl; (try simp only [World.size_alloc, World.size_setCell, World.size_drew, World.heap_drewN] at hz)))
  go_quiet (fail)
  go_wp2_with (first
    | (go_at_call 42; with_reducible refine (HS.out _).mono ?_; rintro e w' ⟨rfl, rfl⟩)
    | (go_at_call 44; with_reducible refine (float_any _ _).mono ?_; rintro e w' ⟨rfl, hbl⟩; obtain ⟨hc, hf, hz⟩ := cif hbl; (try simp only [World.size_alloc, World.size_setCell, World.size_drew, World.heap_drewN] at hz)))
  all_goals (((try simp only [Exit.inBlock, Exit.then]); go_light; refine bodyPost_ret (by simp [results, Tryd.results27, go_sem, *, ↓IntWalk.iteOmega]; try rfl) rfl ?_); exact ⟨rfl, by (repeat' (first | (with_reducible exact Below.refl _ _) | (with_reducible assumption) | (with_reducible refine Below.setCell ?_ ?_ _) | (with_reducible refine Below.alloc ?_ ?_ _) | (with_reducible refine Below.drew ?_) | (with_reducible refine below_drewN ?_ _) | (with_reducible refine below_next ?_ (by with_reducible assumption)) | omega | (dsimp only; omega) | (simp only [World.size_alloc, World.size_setCell, World.size_drew, World.heap_drewN]; omega)))⟩)

end Go.Proofs.YteepjngkbjbheaaDoor
