/-
  The walks of layer 1's small functions.
-/
import Derived.Test.YtddipbpllogbaaaProg
import Derived.Test.YtddipbpllogbaaaMachDefs
import Derived.Deep.Light
namespace Go.Proofs.Ytddipbpllogbaaa
open Go.RowKit

set_option maxHeartbeats 400000 in
theorem split_any (op : Int) (h : I64 op) (w : World) :
    Calls Try.prog 55 #[.int .i64 op] w fun e w' => e = .returned (.tuple #[.int .i64 (split op).1, .int .i64 (split op).2]) ∧ w = w' := by
  obtain ⟨h1, h2⟩ := h
  go_enter Try.func55, Try.ntmps55
  go_wp2
  all_goals (go_returns; refine ⟨?_, rfl⟩; go_light; simp; grind [split])

set_option maxHeartbeats 1000000 in
theorem shape_any (op : Int) (h : I64 op) (w : World) :
    Calls Try.prog 51 #[.int .i64 op] w fun e w' => e = .returned (.tuple #[.int .i64 (shape op).1, .int .i64 (shape op).2.1, .int .i64 (shape op).2.2]) ∧ w = w' := by
  have hs := h
  obtain ⟨h1, h2⟩ := h
  obtain ⟨h3, h4⟩ := split_b op hs
  go_enter Try.func51, Try.ntmps51
  go_wp2_with (go_at_call 55; refine (split_any _ hs _).mono ?_; rintro e w' ⟨rfl, rfl⟩)
  all_goals (go_returns; refine ⟨?_, rfl⟩; go_light; simp; grind (splits := 40) [shape])

set_option maxHeartbeats 1000000 in
theorem ref_shape_any (op : Int) (h : I64 op) (w : World) :
    Calls Try.prog 60 #[.int .i64 op] w fun e w' => e = .returned (.tuple #[.int .i64 (shape op).1, .int .i64 (shape op).2.1, .int .i64 (shape op).2.2]) ∧ w = w' := by
  obtain ⟨h1, h2⟩ := h
  go_enter Try.func60, Try.ntmps60
  go_wp2
  all_goals (go_returns; refine ⟨?_, rfl⟩; go_light; simp; grind (splits := 40) [shape, split])

set_option maxHeartbeats 400000 in
theorem intOf_any (n : Int) (w : World) :
    Calls Try.prog 25 #[.int .i32 n] w fun e w' => e = .returned (.agg #[.int .i64 1, .int .u64 (n % 4294967296), .int .i64 0]) ∧ Below w.heap.size w w' := by
  go_enter Try.func25, Try.ntmps25
  go_wp2
  go_returns
  exact ⟨rfl, by go_grown⟩

set_option maxHeartbeats 400000 in
theorem ref_int_any (n : Int) (w : World) :
    Calls Try.prog 37 #[.int .i32 n] w fun e w' => e = .returned (.agg #[.int .i64 1, .int .u64 (n % 4294967296), .int .i64 0]) ∧ Below w.heap.size w w' := by
  go_enter Try.func37, Try.ntmps37
  go_wp2
  go_returns
  exact ⟨rfl, by go_grown⟩

set_option maxHeartbeats 400000 in
theorem longOf_any (n : Int) (w : World) :
    Calls Try.prog 27 #[.int .i64 n] w fun e w' => e = .returned (.agg #[.int .i64 2, .int .u64 (n % 18446744073709551616), .int .i64 0]) ∧ Below w.heap.size w w' := by
  go_enter Try.func27, Try.ntmps27
  go_wp2
  go_returns
  exact ⟨by rw [IntKind.wrap_u64], by go_grown⟩

set_option maxHeartbeats 400000 in
theorem ref_long_any (n : Int) (w : World) :
    Calls Try.prog 38 #[.int .i64 n] w fun e w' => e = .returned (.agg #[.int .i64 2, .int .u64 (n % 18446744073709551616), .int .i64 0]) ∧ Below w.heap.size w w' := by
  go_enter Try.func38, Try.ntmps38
  go_wp2
  go_returns
  exact ⟨by rw [IntKind.wrap_u64], by go_grown⟩

set_option maxHeartbeats 400000 in
theorem doubleOf_any (n : Int) (w : World) :
    Calls Try.prog 28 #[.int .u64 n] w fun e w' => e = .returned (.agg #[.int .i64 3, .int .u64 n, .int .i64 0]) ∧ Below w.heap.size w w' := by
  go_enter Try.func28, Try.ntmps28
  go_wp2
  go_returns
  exact ⟨rfl, by go_grown⟩

set_option maxHeartbeats 400000 in
theorem ptrOf_any (b o : Int) (w : World) :
    Calls Try.prog 23 #[.int .i64 b, .int .i64 o] w fun e w' => e = .returned (.agg #[.int .i64 (ptrV b o).k, .int .u64 (ptrV b o).b, .int .i64 (ptrV b o).l]) ∧ Below w.heap.size w w' := by
  go_enter Try.func23, Try.ntmps23
  go_wp2
  all_goals (go_returns; refine ⟨?_, by go_grown⟩; go_light; simp; grind [ptrV, undefV, IntKind.wrap_u64])

set_option maxHeartbeats 400000 in
theorem ref_ptr_any (b o : Int) (w : World) :
    Calls Try.prog 84 #[.int .i64 b, .int .i64 o] w fun e w' => e = .returned (.agg #[.int .i64 (ptrV b o).k, .int .u64 (ptrV b o).b, .int .i64 (ptrV b o).l]) ∧ Below w.heap.size w w' := by
  go_enter Try.func84, Try.ntmps84
  go_wp2
  all_goals (go_returns; refine ⟨?_, by go_grown⟩; go_light; simp; grind [ptrV, undefV, IntKind.wrap_u64])

set_option maxHeartbeats 400000 in
theorem flag_any (b : Bool) (w : World) :
    Calls Try.prog 50 #[.bool b] w fun e w' => e = .returned (.agg #[.int .i64 1, .int .u64 (cond b 1 0), .int .i64 0]) ∧ Below w.heap.size w w' := by
  cases b
  all_goals
    go_enter Try.func50, Try.ntmps50
    go_wp2
    go_returns
    exact ⟨rfl, by go_grown⟩

set_option maxHeartbeats 400000 in
theorem ref_yes_any (b : Bool) (w : World) :
    Calls Try.prog 67 #[.bool b] w fun e w' => e = .returned (.agg #[.int .i64 1, .int .u64 (cond b 1 0), .int .i64 0]) ∧ Below w.heap.size w w' := by
  cases b
  all_goals
    go_enter Try.func67, Try.ntmps67
    go_wp2
    go_returns
    exact ⟨rfl, by go_grown⟩

set_option maxHeartbeats 400000 in
theorem compared_any (op : Int) (l s : Bool) (w : World) :
    Calls Try.prog 68 #[.int .i64 op, .bool l, .bool s] w fun e w' => e = .returned (.bool (cmpd op l s)) ∧ w = w' := by
  go_enter Try.func68, Try.ntmps68
  go_wp2
  all_goals (go_returns; refine ⟨congrArg (fun b => Ending.returned (Value.bool b)) ?_, rfl⟩; go_light; cases l <;> cases s <;> grind [cmpd])

set_option maxHeartbeats 400000 in
theorem ord_u64 (op x y : Int) (w : World) :
    Calls Try.prog 75 #[.int .i64 op, .int .u64 x, .int .u64 y] w fun e w' => e = .returned (.bool (cmpd op (decide (x < y)) (decide (x = y)))) ∧ w = w' := by
  go_enter Try.func75, Try.ntmps75
  go_wp2
  all_goals (go_returns; refine ⟨?_, rfl⟩; go_light; simp; grind [cmpd])
set_option maxHeartbeats 400000 in
theorem ord_i64 (op x y : Int) (w : World) :
    Calls Try.prog 76 #[.int .i64 op, .int .i64 x, .int .i64 y] w fun e w' => e = .returned (.bool (cmpd op (decide (x < y)) (decide (x = y)))) ∧ w = w' := by
  go_enter Try.func76, Try.ntmps76
  go_wp2
  all_goals (go_returns; refine ⟨?_, rfl⟩; go_light; simp; grind [cmpd])
set_option maxHeartbeats 400000 in
theorem ord_u32 (op x y : Int) (w : World) :
    Calls Try.prog 80 #[.int .i64 op, .int .u32 x, .int .u32 y] w fun e w' => e = .returned (.bool (cmpd op (decide (x < y)) (decide (x = y)))) ∧ w = w' := by
  go_enter Try.func80, Try.ntmps80
  go_wp2
  all_goals (go_returns; refine ⟨?_, rfl⟩; go_light; simp; grind [cmpd])
set_option maxHeartbeats 400000 in
theorem ord_i32 (op x y : Int) (w : World) :
    Calls Try.prog 81 #[.int .i64 op, .int .i32 x, .int .i32 y] w fun e w' => e = .returned (.bool (cmpd op (decide (x < y)) (decide (x = y)))) ∧ w = w' := by
  go_enter Try.func81, Try.ntmps81
  go_wp2
  all_goals (go_returns; refine ⟨?_, rfl⟩; go_light; simp; grind [cmpd])

end Go.Proofs.Ytddipbpllogbaaa
