/-
  The walks of layer 1's small functions.
-/
import Derived.Test.YteeojgepgjndgaaDoorProg
import Derived.Test.YteeojgepgjndgaaDoorMachDefs
import Derived.Deep.Light
namespace Go.Proofs.YteeojgepgjndgaaDoor
open Go.RowKit

set_option maxHeartbeats 400000 in
theorem split_any (op : Int) (h : I64 op) (w : World) :
    Calls Tryd.prog 100 #[.int .i64 op] w fun e w' => e = .returned (.tuple #[.int .i64 (split op).1, .int .i64 (split op).2]) ∧ w = w' := by
  obtain ⟨h1, h2⟩ := h
  go_enter Tryd.func100, Tryd.ntmps100
  go_wp2
  all_goals (go_returns; refine ⟨?_, rfl⟩; go_light; simp; grind [split])

set_option maxHeartbeats 1000000 in
theorem shape_any (op : Int) (h : I64 op) (w : World) :
    Calls Tryd.prog 90 #[.int .i64 op] w fun e w' => e = .returned (.tuple #[.int .i64 (shape op).1, .int .i64 (shape op).2.1, .int .i64 (shape op).2.2]) ∧ w = w' := by
  have hs := h
  obtain ⟨h1, h2⟩ := h
  obtain ⟨h3, h4⟩ := split_b op hs
  go_enter Tryd.func90, Tryd.ntmps90
  go_wp2_with (go_at_call 100; refine (split_any _ hs _).mono ?_; rintro e w' ⟨rfl, rfl⟩)
  all_goals (go_returns; refine ⟨?_, rfl⟩; go_light; simp; grind (splits := 40) [shape])

set_option maxHeartbeats 400000 in
theorem intOf_any (n : Int) (w : World) :
    Calls Tryd.prog 91 #[.int .i32 n] w fun e w' => e = .returned (.agg #[.int .i64 1, .int .u64 (n % 4294967296), .int .i64 0]) ∧ Below w.heap.size w w' := by
  go_enter Tryd.func91, Tryd.ntmps91
  go_wp2
  go_returns
  exact ⟨rfl, by go_grown⟩

set_option maxHeartbeats 400000 in
theorem longOf_any (n : Int) (w : World) :
    Calls Tryd.prog 38 #[.int .i64 n] w fun e w' => e = .returned (.agg #[.int .i64 2, .int .u64 (n % 18446744073709551616), .int .i64 0]) ∧ Below w.heap.size w w' := by
  go_enter Tryd.func38, Tryd.ntmps38
  go_wp2
  go_returns
  exact ⟨by rw [IntKind.wrap_u64], by go_grown⟩

set_option maxHeartbeats 400000 in
theorem doubleOf_any (n : Int) (w : World) :
    Calls Tryd.prog 92 #[.int .u64 n] w fun e w' => e = .returned (.agg #[.int .i64 3, .int .u64 n, .int .i64 0]) ∧ Below w.heap.size w w' := by
  go_enter Tryd.func92, Tryd.ntmps92
  go_wp2
  go_returns
  exact ⟨rfl, by go_grown⟩

set_option maxHeartbeats 400000 in
theorem flag_any (b : Bool) (w : World) :
    Calls Tryd.prog 89 #[.bool b] w fun e w' => e = .returned (.agg #[.int .i64 1, .int .u64 (cond b 1 0), .int .i64 0]) ∧ Below w.heap.size w w' := by
  cases b
  all_goals
    go_enter Tryd.func89, Tryd.ntmps89
    go_wp2
    go_returns
    exact ⟨rfl, by go_grown⟩

end Go.Proofs.YteeojgepgjndgaaDoor
