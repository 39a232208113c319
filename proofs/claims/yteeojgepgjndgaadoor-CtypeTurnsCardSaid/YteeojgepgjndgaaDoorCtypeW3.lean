/-
  A scalar's chunk, kind and promotion; a number's text.
-/
import Derived.Test.YteeojgepgjndgaaDoorCtypeW2
namespace Go.Proofs.YteeojgepgjndgaaDoor
open Go.RowKit
set_option linter.unusedVariables false
set_option linter.unusedSimpArgs false

theorem ta_nil_Void (w : World) : (Instr.typeAssert .nilIface 20 99 true).run Tryd.prog w = .ok (.tuple #[.agg #[], .bool false]) w := by kernel_rfl
theorem ta_yes_Void (v : Value) (w : World) : (Instr.typeAssert (.iface 99 v) 20 99 true).run Tryd.prog w = .ok (.tuple #[v, .bool true]) w := by kernel_rfl
theorem ta_no_Number_Void (v : Value) (w : World) : (Instr.typeAssert (.iface 69 v) 20 99 true).run Tryd.prog w = .ok (.tuple #[.agg #[], .bool false]) w := by kernel_rfl
theorem ta_no_Float_Void (v : Value) (w : World) : (Instr.typeAssert (.iface 75 v) 20 99 true).run Tryd.prog w = .ok (.tuple #[.agg #[], .bool false]) w := by kernel_rfl
theorem ta_no_Record_Void (v : Value) (w : World) : (Instr.typeAssert (.iface 77 v) 20 99 true).run Tryd.prog w = .ok (.tuple #[.agg #[], .bool false]) w := by kernel_rfl
theorem ta_no_Pointer_Void (v : Value) (w : World) : (Instr.typeAssert (.iface 81 v) 20 99 true).run Tryd.prog w = .ok (.tuple #[.agg #[], .bool false]) w := by kernel_rfl
theorem ta_no_Array_Void (v : Value) (w : World) : (Instr.typeAssert (.iface 79 v) 20 99 true).run Tryd.prog w = .ok (.tuple #[.agg #[], .bool false]) w := by kernel_rfl
theorem ta_no_Function_Void (v : Value) (w : World) : (Instr.typeAssert (.iface 95 v) 20 99 true).run Tryd.prog w = .ok (.tuple #[.agg #[], .bool false]) w := by kernel_rfl
theorem ta_nil_Number (w : World) : (Instr.typeAssert .nilIface 20 69 true).run Tryd.prog w = .ok (.tuple #[.agg #[.int .i64 0, .bool false], .bool false]) w := by kernel_rfl
theorem ta_yes_Number (v : Value) (w : World) : (Instr.typeAssert (.iface 69 v) 20 69 true).run Tryd.prog w = .ok (.tuple #[v, .bool true]) w := by kernel_rfl
theorem ta_no_Void_Number (v : Value) (w : World) : (Instr.typeAssert (.iface 99 v) 20 69 true).run Tryd.prog w = .ok (.tuple #[.agg #[.int .i64 0, .bool false], .bool false]) w := by kernel_rfl
theorem ta_no_Float_Number (v : Value) (w : World) : (Instr.typeAssert (.iface 75 v) 20 69 true).run Tryd.prog w = .ok (.tuple #[.agg #[.int .i64 0, .bool false], .bool false]) w := by kernel_rfl
theorem ta_no_Record_Number (v : Value) (w : World) : (Instr.typeAssert (.iface 77 v) 20 69 true).run Tryd.prog w = .ok (.tuple #[.agg #[.int .i64 0, .bool false], .bool false]) w := by kernel_rfl
theorem ta_no_Pointer_Number (v : Value) (w : World) : (Instr.typeAssert (.iface 81 v) 20 69 true).run Tryd.prog w = .ok (.tuple #[.agg #[.int .i64 0, .bool false], .bool false]) w := by kernel_rfl
theorem ta_no_Array_Number (v : Value) (w : World) : (Instr.typeAssert (.iface 79 v) 20 69 true).run Tryd.prog w = .ok (.tuple #[.agg #[.int .i64 0, .bool false], .bool false]) w := by kernel_rfl
theorem ta_no_Function_Number (v : Value) (w : World) : (Instr.typeAssert (.iface 95 v) 20 69 true).run Tryd.prog w = .ok (.tuple #[.agg #[.int .i64 0, .bool false], .bool false]) w := by kernel_rfl
theorem ta_nil_Float (w : World) : (Instr.typeAssert .nilIface 20 75 true).run Tryd.prog w = .ok (.tuple #[.agg #[], .bool false]) w := by kernel_rfl
theorem ta_yes_Float (v : Value) (w : World) : (Instr.typeAssert (.iface 75 v) 20 75 true).run Tryd.prog w = .ok (.tuple #[v, .bool true]) w := by kernel_rfl
theorem ta_no_Void_Float (v : Value) (w : World) : (Instr.typeAssert (.iface 99 v) 20 75 true).run Tryd.prog w = .ok (.tuple #[.agg #[], .bool false]) w := by kernel_rfl
theorem ta_no_Number_Float (v : Value) (w : World) : (Instr.typeAssert (.iface 69 v) 20 75 true).run Tryd.prog w = .ok (.tuple #[.agg #[], .bool false]) w := by kernel_rfl
theorem ta_no_Record_Float (v : Value) (w : World) : (Instr.typeAssert (.iface 77 v) 20 75 true).run Tryd.prog w = .ok (.tuple #[.agg #[], .bool false]) w := by kernel_rfl
theorem ta_no_Pointer_Float (v : Value) (w : World) : (Instr.typeAssert (.iface 81 v) 20 75 true).run Tryd.prog w = .ok (.tuple #[.agg #[], .bool false]) w := by kernel_rfl
theorem ta_no_Array_Float (v : Value) (w : World) : (Instr.typeAssert (.iface 79 v) 20 75 true).run Tryd.prog w = .ok (.tuple #[.agg #[], .bool false]) w := by kernel_rfl
theorem ta_no_Function_Float (v : Value) (w : World) : (Instr.typeAssert (.iface 95 v) 20 75 true).run Tryd.prog w = .ok (.tuple #[.agg #[], .bool false]) w := by kernel_rfl
theorem ta_nil_Record (w : World) : (Instr.typeAssert .nilIface 20 77 true).run Tryd.prog w = .ok (.tuple #[.agg #[.string ⟨#[]⟩, .bool false], .bool false]) w := by kernel_rfl
theorem ta_yes_Record (v : Value) (w : World) : (Instr.typeAssert (.iface 77 v) 20 77 true).run Tryd.prog w = .ok (.tuple #[v, .bool true]) w := by kernel_rfl
theorem ta_no_Void_Record (v : Value) (w : World) : (Instr.typeAssert (.iface 99 v) 20 77 true).run Tryd.prog w = .ok (.tuple #[.agg #[.string ⟨#[]⟩, .bool false], .bool false]) w := by kernel_rfl
theorem ta_no_Number_Record (v : Value) (w : World) : (Instr.typeAssert (.iface 69 v) 20 77 true).run Tryd.prog w = .ok (.tuple #[.agg #[.string ⟨#[]⟩, .bool false], .bool false]) w := by kernel_rfl
theorem ta_no_Float_Record (v : Value) (w : World) : (Instr.typeAssert (.iface 75 v) 20 77 true).run Tryd.prog w = .ok (.tuple #[.agg #[.string ⟨#[]⟩, .bool false], .bool false]) w := by kernel_rfl
theorem ta_no_Pointer_Record (v : Value) (w : World) : (Instr.typeAssert (.iface 81 v) 20 77 true).run Tryd.prog w = .ok (.tuple #[.agg #[.string ⟨#[]⟩, .bool false], .bool false]) w := by kernel_rfl
theorem ta_no_Array_Record (v : Value) (w : World) : (Instr.typeAssert (.iface 79 v) 20 77 true).run Tryd.prog w = .ok (.tuple #[.agg #[.string ⟨#[]⟩, .bool false], .bool false]) w := by kernel_rfl
theorem ta_no_Function_Record (v : Value) (w : World) : (Instr.typeAssert (.iface 95 v) 20 77 true).run Tryd.prog w = .ok (.tuple #[.agg #[.string ⟨#[]⟩, .bool false], .bool false]) w := by kernel_rfl
theorem ta_nil_Pointer (w : World) : (Instr.typeAssert .nilIface 20 81 true).run Tryd.prog w = .ok (.tuple #[.agg #[.int .i64 0, .int .i64 0, .int .i64 0, .bool false, .string ⟨#[]⟩, .slice none 0 0], .bool false]) w := by kernel_rfl
theorem ta_yes_Pointer (v : Value) (w : World) : (Instr.typeAssert (.iface 81 v) 20 81 true).run Tryd.prog w = .ok (.tuple #[v, .bool true]) w := by kernel_rfl
theorem ta_no_Void_Pointer (v : Value) (w : World) : (Instr.typeAssert (.iface 99 v) 20 81 true).run Tryd.prog w = .ok (.tuple #[.agg #[.int .i64 0, .int .i64 0, .int .i64 0, .bool false, .string ⟨#[]⟩, .slice none 0 0], .bool false]) w := by kernel_rfl
theorem ta_no_Number_Pointer (v : Value) (w : World) : (Instr.typeAssert (.iface 69 v) 20 81 true).run Tryd.prog w = .ok (.tuple #[.agg #[.int .i64 0, .int .i64 0, .int .i64 0, .bool false, .string ⟨#[]⟩, .slice none 0 0], .bool false]) w := by kernel_rfl
theorem ta_no_Float_Pointer (v : Value) (w : World) : (Instr.typeAssert (.iface 75 v) 20 81 true).run Tryd.prog w = .ok (.tuple #[.agg #[.int .i64 0, .int .i64 0, .int .i64 0, .bool false, .string ⟨#[]⟩, .slice none 0 0], .bool false]) w := by kernel_rfl
theorem ta_no_Record_Pointer (v : Value) (w : World) : (Instr.typeAssert (.iface 77 v) 20 81 true).run Tryd.prog w = .ok (.tuple #[.agg #[.int .i64 0, .int .i64 0, .int .i64 0, .bool false, .string ⟨#[]⟩, .slice none 0 0], .bool false]) w := by kernel_rfl
theorem ta_no_Array_Pointer (v : Value) (w : World) : (Instr.typeAssert (.iface 79 v) 20 81 true).run Tryd.prog w = .ok (.tuple #[.agg #[.int .i64 0, .int .i64 0, .int .i64 0, .bool false, .string ⟨#[]⟩, .slice none 0 0], .bool false]) w := by kernel_rfl
theorem ta_no_Function_Pointer (v : Value) (w : World) : (Instr.typeAssert (.iface 95 v) 20 81 true).run Tryd.prog w = .ok (.tuple #[.agg #[.int .i64 0, .int .i64 0, .int .i64 0, .bool false, .string ⟨#[]⟩, .slice none 0 0], .bool false]) w := by kernel_rfl
theorem ta_nil_Array (w : World) : (Instr.typeAssert .nilIface 20 79 true).run Tryd.prog w = .ok (.tuple #[.agg #[.int .i64 0, .int .i64 0, .int .i64 0, .bool false, .string ⟨#[]⟩, .slice none 0 0, .int .i64 0], .bool false]) w := by kernel_rfl
theorem ta_yes_Array (v : Value) (w : World) : (Instr.typeAssert (.iface 79 v) 20 79 true).run Tryd.prog w = .ok (.tuple #[v, .bool true]) w := by kernel_rfl
theorem ta_no_Void_Array (v : Value) (w : World) : (Instr.typeAssert (.iface 99 v) 20 79 true).run Tryd.prog w = .ok (.tuple #[.agg #[.int .i64 0, .int .i64 0, .int .i64 0, .bool false, .string ⟨#[]⟩, .slice none 0 0, .int .i64 0], .bool false]) w := by kernel_rfl
theorem ta_no_Number_Array (v : Value) (w : World) : (Instr.typeAssert (.iface 69 v) 20 79 true).run Tryd.prog w = .ok (.tuple #[.agg #[.int .i64 0, .int .i64 0, .int .i64 0, .bool false, .string ⟨#[]⟩, .slice none 0 0, .int .i64 0], .bool false]) w := by kernel_rfl
theorem ta_no_Float_Array (v : Value) (w : World) : (Instr.typeAssert (.iface 75 v) 20 79 true).run Tryd.prog w = .ok (.tuple #[.agg #[.int .i64 0, .int .i64 0, .int .i64 0, .bool false, .string ⟨#[]⟩, .slice none 0 0, .int .i64 0], .bool false]) w := by kernel_rfl
theorem ta_no_Record_Array (v : Value) (w : World) : (Instr.typeAssert (.iface 77 v) 20 79 true).run Tryd.prog w = .ok (.tuple #[.agg #[.int .i64 0, .int .i64 0, .int .i64 0, .bool false, .string ⟨#[]⟩, .slice none 0 0, .int .i64 0], .bool false]) w := by kernel_rfl
theorem ta_no_Pointer_Array (v : Value) (w : World) : (Instr.typeAssert (.iface 81 v) 20 79 true).run Tryd.prog w = .ok (.tuple #[.agg #[.int .i64 0, .int .i64 0, .int .i64 0, .bool false, .string ⟨#[]⟩, .slice none 0 0, .int .i64 0], .bool false]) w := by kernel_rfl
theorem ta_no_Function_Array (v : Value) (w : World) : (Instr.typeAssert (.iface 95 v) 20 79 true).run Tryd.prog w = .ok (.tuple #[.agg #[.int .i64 0, .int .i64 0, .int .i64 0, .bool false, .string ⟨#[]⟩, .slice none 0 0, .int .i64 0], .bool false]) w := by kernel_rfl
theorem ta_nil_Function (w : World) : (Instr.typeAssert .nilIface 20 95 true).run Tryd.prog w = .ok (.tuple #[.agg #[.int .i64 0, .int .i64 0, .int .i64 0, .bool false, .string ⟨#[]⟩, .slice none 0 0, .slice none 0 0], .bool false]) w := by kernel_rfl
theorem ta_yes_Function (v : Value) (w : World) : (Instr.typeAssert (.iface 95 v) 20 95 true).run Tryd.prog w = .ok (.tuple #[v, .bool true]) w := by kernel_rfl
theorem ta_no_Void_Function (v : Value) (w : World) : (Instr.typeAssert (.iface 99 v) 20 95 true).run Tryd.prog w = .ok (.tuple #[.agg #[.int .i64 0, .int .i64 0, .int .i64 0, .bool false, .string ⟨#[]⟩, .slice none 0 0, .slice none 0 0], .bool false]) w := by kernel_rfl
theorem ta_no_Number_Function (v : Value) (w : World) : (Instr.typeAssert (.iface 69 v) 20 95 true).run Tryd.prog w = .ok (.tuple #[.agg #[.int .i64 0, .int .i64 0, .int .i64 0, .bool false, .string ⟨#[]⟩, .slice none 0 0, .slice none 0 0], .bool false]) w := by kernel_rfl
theorem ta_no_Float_Function (v : Value) (w : World) : (Instr.typeAssert (.iface 75 v) 20 95 true).run Tryd.prog w = .ok (.tuple #[.agg #[.int .i64 0, .int .i64 0, .int .i64 0, .bool false, .string ⟨#[]⟩, .slice none 0 0, .slice none 0 0], .bool false]) w := by kernel_rfl
theorem ta_no_Record_Function (v : Value) (w : World) : (Instr.typeAssert (.iface 77 v) 20 95 true).run Tryd.prog w = .ok (.tuple #[.agg #[.int .i64 0, .int .i64 0, .int .i64 0, .bool false, .string ⟨#[]⟩, .slice none 0 0, .slice none 0 0], .bool false]) w := by kernel_rfl
theorem ta_no_Pointer_Function (v : Value) (w : World) : (Instr.typeAssert (.iface 81 v) 20 95 true).run Tryd.prog w = .ok (.tuple #[.agg #[.int .i64 0, .int .i64 0, .int .i64 0, .bool false, .string ⟨#[]⟩, .slice none 0 0, .slice none 0 0], .bool false]) w := by kernel_rfl
theorem ta_no_Array_Function (v : Value) (w : World) : (Instr.typeAssert (.iface 79 v) 20 95 true).run Tryd.prog w = .ok (.tuple #[.agg #[.int .i64 0, .int .i64 0, .int .i64 0, .bool false, .string ⟨#[]⟩, .slice none 0 0, .slice none 0 0], .bool false]) w := by kernel_rfl
attribute [local go_sem] ta_nil_Void ta_yes_Void ta_no_Number_Void ta_no_Float_Void ta_no_Record_Void ta_no_Pointer_Void ta_no_Array_Void ta_no_Function_Void ta_nil_Number ta_yes_Number ta_no_Void_Number ta_no_Float_Number ta_no_Record_Number ta_no_Pointer_Number ta_no_Array_Number ta_no_Function_Number ta_nil_Float ta_yes_Float ta_no_Void_Float ta_no_Number_Float ta_no_Record_Float ta_no_Pointer_Float ta_no_Array_Float ta_no_Function_Float ta_nil_Record ta_yes_Record ta_no_Void_Record ta_no_Number_Record ta_no_Float_Record ta_no_Pointer_Record ta_no_Array_Record ta_no_Function_Record ta_nil_Pointer ta_yes_Pointer ta_no_Void_Pointer ta_no_Number_Pointer ta_no_Float_Pointer ta_no_Record_Pointer ta_no_Array_Pointer ta_no_Function_Pointer ta_nil_Array ta_yes_Array ta_no_Void_Array ta_no_Number_Array ta_no_Float_Array ta_no_Record_Array ta_no_Pointer_Array ta_no_Function_Array ta_nil_Function ta_yes_Function ta_no_Void_Function ta_no_Number_Function ta_no_Float_Function ta_no_Record_Function ta_no_Pointer_Function ta_no_Array_Function

theorem ret_i64 {a b : Int} (h : a = b) : Ending.returned (.int .i64 a) = .returned (.int .i64 b) := by rw [h]
set_option maxHeartbeats 400000 in
theorem pick_any (b : Bool) (x y : Int) (w : World) : Calls Tryd.prog 64 #[.bool b, .int .i64 x, .int .i64 y] w fun e w' => e = .returned (.int .i64 (if b then x else y)) ∧ w = w' := by
  cases b
  all_goals (go_enter Tryd.func64, Tryd.ntmps64; go_wp2; go_returns; exact ⟨rfl, rfl⟩)

set_option maxRecDepth 100000 in
set_option maxHeartbeats 1000000 in
theorem chunk_any (t : Ty) (w : World) (h : RdT w t) : Calls Tryd.prog 23 #[tyV t] w fun e w' => e = .returned (.int .i64 (chunk t)) ∧ Below w.heap.size w w' := by
  obtain ⟨k, s, l, f, n, A, m, c, vw, e0, hv, hcase⟩ := ty_view t h
  rw [tyV_of e0]
  have HV := Lib.hid hv
  have HT := Lib.hid h
  clear e0 hv h
  rcases hcase with ⟨rfl, rfl, rfl⟩ | ⟨rfl, rfl, rfl⟩ | ⟨rfl, rfl, rfl⟩ | ⟨rfl, rfl, rfl⟩ | ⟨rfl, rfl, rfl⟩ | ⟨t1, k1, s1, l1, f1, n1, A1, m1, c1, e1, r1, q1, rfl, rfl, rfl⟩ | ⟨t1, k1, s1, l1, f1, n1, A1, m1, c1, e1, r1, q1, rfl, rfl, rfl⟩ | ⟨t1, ps, k1, s1, l1, f1, n1, A1, m1, c1, A2, m2, c2, e1, r1, q1, rps, q2, rfl, rfl, rfl⟩
  all_goals (try (have E1 := Lib.hid e1; have R1 := Lib.hid r1; have Q1 := Lib.hid q1; clear e1 r1 q1))
  all_goals (try (have RPS := Lib.hid rps; have Q2 := Lib.hid q2; clear rps q2))
  all_goals (
    have hA1 := cell_alloc_if
    have hA2 := frozen_alloc_if
    have hA3 := cell_set_if
    go_enter Tryd.func23, Tryd.ntmps23
    go_wp2_with (first
      | (go_at_call 48; (with_reducible refine (HV.out _ (by (repeat' (first | (with_reducible exact Below.refl _ _) | (with_reducible assumption) | (with_reducible refine Below.setCell ?_ ?_ _) | (with_reducible refine Below.alloc ?_ ?_ _) | (with_reducible refine Below.drew ?_) | (with_reducible refine below_drewN ?_ _) | (with_reducible refine below_next ?_ (by with_reducible assumption)) | omega | (dsimp only; omega) | (simp only [World.size_alloc, World.size_setCell, World.size_drew, World.heap_drewN]; omega))))).mono ?_); rintro e w' ⟨rfl, hbl⟩; obtain ⟨hc, hf, hz⟩ := cif hbl; (try simp only [World.size_alloc, World.size_setCell, World.size_drew, World.heap_drewN] at hz))
      | (go_at_call 64; (with_reducible refine (pick_any _ _ _ _).mono ?_); rintro e w' ⟨rfl, rfl⟩))
    all_goals (go_returns; refine ⟨?_, by (repeat' (first | (with_reducible exact Below.refl _ _) | (with_reducible assumption) | (with_reducible refine Below.setCell ?_ ?_ _) | (with_reducible refine Below.alloc ?_ ?_ _) | (with_reducible refine Below.drew ?_) | (with_reducible refine below_drewN ?_ _) | (with_reducible refine below_next ?_ (by with_reducible assumption)) | omega | (dsimp only; omega) | (simp only [World.size_alloc, World.size_setCell, World.size_drew, World.heap_drewN]; omega)))⟩; clear hA1 hA2 hA3; refine ret_i64 ?_; first | rfl | grind [chunk]))

set_option maxRecDepth 100000 in
set_option maxHeartbeats 1000000 in
theorem kind_any (t : Ty) (w : World) (h : RdT w t) : Calls Tryd.prog 25 #[tyV t] w fun e w' => e = .returned (.int .i64 (kindT t)) ∧ Below w.heap.size w w' := by
  have HC : Hid (∀ W, Below w.heap.size w W → Calls Tryd.prog 23 #[tyV t] W fun e w' => e = .returned (.int .i64 (chunk t)) ∧ Below W.heap.size W w') := Lib.hid fun W hW => chunk_any t W (h.next hW)
  obtain ⟨k, s, l, f, n, A, m, c, e0⟩ := tyC_form t h
  rw [tyV_of e0] at HC ⊢
  unfold kindT
  clear e0 h
  generalize chunk t = q at HC
  have hA1 := cell_alloc_if
  have hA2 := frozen_alloc_if
  have hA3 := cell_set_if
  go_enter Tryd.func25, Tryd.ntmps25
  go_wp2_with (go_at_call 23; (with_reducible refine (HC.out _ (by (repeat' (first | (with_reducible exact Below.refl _ _) | (with_reducible assumption) | (with_reducible refine Below.setCell ?_ ?_ _) | (with_reducible refine Below.alloc ?_ ?_ _) | (with_reducible refine Below.drew ?_) | (with_reducible refine below_drewN ?_ _) | (with_reducible refine below_next ?_ (by with_reducible assumption)) | omega | (dsimp only; omega) | (simp only [World.size_alloc, World.size_setCell, World.size_drew, World.heap_drewN]; omega))))).mono ?_); rintro e w' ⟨rfl, hbl⟩; obtain ⟨hc, hf, hz⟩ := cif hbl; (try simp only [World.size_alloc, World.size_setCell, World.size_drew, World.heap_drewN] at hz))
  all_goals (go_returns; refine ⟨?_, by (repeat' (first | (with_reducible exact Below.refl _ _) | (with_reducible assumption) | (with_reducible refine Below.setCell ?_ ?_ _) | (with_reducible refine Below.alloc ?_ ?_ _) | (with_reducible refine Below.drew ?_) | (with_reducible refine below_drewN ?_ _) | (with_reducible refine below_next ?_ (by with_reducible assumption)) | omega | (dsimp only; omega) | (simp only [World.size_alloc, World.size_setCell, World.size_drew, World.heap_drewN]; omega)))⟩; clear hA1 hA2 hA3; refine ret_i64 ?_; grind)

set_option maxRecDepth 100000 in
set_option maxHeartbeats 1000000 in
theorem numberText_any (s : Int) (u : Bool) (w : World) : Calls Tryd.prog 59 #[.agg #[.int .i64 s, .bool u]] w fun e w' => e = .returned (.string ⟨(numText s u).toArray⟩) ∧ Below w.heap.size w w' := by
  cases u
  all_goals (
    have hA1 := cell_alloc_if
    have hA2 := frozen_alloc_if
    have hA3 := cell_set_if
    go_enter Tryd.func59, Tryd.ntmps59
    go_wp2
    all_goals (go_returns; refine ⟨?_, by (repeat' (first | (with_reducible exact Below.refl _ _) | (with_reducible assumption) | (with_reducible refine Below.setCell ?_ ?_ _) | (with_reducible refine Below.alloc ?_ ?_ _) | (with_reducible refine Below.drew ?_) | (with_reducible refine below_drewN ?_ _) | (with_reducible refine below_next ?_ (by with_reducible assumption)) | omega | (dsimp only; omega) | (simp only [World.size_alloc, World.size_setCell, World.size_drew, World.heap_drewN]; omega)))⟩; clear hA1 hA2 hA3; simp only [beq_iff_eq, beq_eq_false_iff_ne, ne_eq] at *; simp [numText, isSz, numName, *]; try rfl))

/-- What stands in a number's two cells. -/
def wholeN : Ty → Int × Bool
  | .num s u => (s, u)
  | _ => (0, false)
def okN (t : Ty) : Bool := (numOf t).isSome
theorem numText_ask (s : Int) (u : Bool) : (numText s u != [63]) = isSz s := by
  unfold numText numName isSz
  cases u <;> (repeat' split) <;> simp_all
theorem toList_mk (l : List UInt8) : (ByteArray.mk l.toArray).toList = l := by
  rw [ByteArray.toList_eq]
set_option maxRecDepth 100000 in
set_option maxHeartbeats 4000000 in
theorem whole_num (s l : Int) (f : Bool) (n : ByteArray) (A : Option Addr) (m c : Nat) (w : World) :
    Calls Tryd.prog 49 #[.agg #[.int .i64 2, .int .i64 s, .int .i64 l, .bool f, .string n, .slice A m c]] w fun e w' => e = .returned (.tuple #[.agg #[.int .i64 s, .bool f], .bool (isSz s)]) ∧ Below w.heap.size w w' := by
  obtain ⟨x, hx⟩ : ∃ x, x = ByteArray.mk (numText s f).toArray := ⟨_, rfl⟩
  have HN : Hid (∀ W, Calls Tryd.prog 59 #[.agg #[.int .i64 s, .bool f]] W fun e w' => e = .returned (.string x) ∧ Below W.heap.size W w') := Lib.hid fun W => by rw [hx]; exact numberText_any s f W
  have hx2 : (x.toList == [63]) = !isSz s := by rw [hx, toList_mk, ← numText_ask s f, bne, Bool.not_not]
  clear hx
  cases hb : isSz s
  all_goals (
    rw [hb] at hx2
    clear hb
    have hA1 := cell_alloc_if
    have hA2 := frozen_alloc_if
    have hA3 := cell_set_if
    go_enter Tryd.func49, Tryd.ntmps49
    go_wp2_with (go_at_call 48; (with_reducible refine (view_2 _ _ _ _ _ _ _ _).mono ?_); rintro e w' ⟨rfl, hbl⟩; obtain ⟨hc, hf, hz⟩ := cif hbl; (try simp only [World.size_alloc, World.size_setCell, World.size_drew, World.heap_drewN] at hz))
    go_region_with (go_at_call 59; (with_reducible refine (HN.out _).mono ?_); rintro e w' ⟨rfl, hbl⟩; obtain ⟨hc, hf, hz⟩ := cif hbl; (try simp only [World.size_alloc, World.size_setCell, World.size_drew, World.heap_drewN] at hz))
    all_goals (go_wp2; ((try simp only [Exit.inBlock, Exit.then]); go_light; refine bodyPost_ret (by simp [results, Tryd.results49, go_sem, *, ↓IntWalk.iteOmega]; try rfl) rfl ?_); exact ⟨by simp [*], by (repeat' (first | (with_reducible exact Below.refl _ _) | (with_reducible assumption) | (with_reducible refine Below.setCell ?_ ?_ _) | (with_reducible refine Below.alloc ?_ ?_ _) | (with_reducible refine Below.drew ?_) | (with_reducible refine below_drewN ?_ _) | (with_reducible refine below_next ?_ (by with_reducible assumption)) | omega | (dsimp only; omega) | (simp only [World.size_alloc, World.size_setCell, World.size_drew, World.heap_drewN]; omega)))⟩))
set_option maxRecDepth 100000 in
set_option maxHeartbeats 4000000 in
theorem whole_no (t : Ty) (w : World) (h : RdT w t) (hn : ∀ s u, t ≠ .num s u) : Calls Tryd.prog 49 #[tyV t] w fun e w' => e = .returned (.tuple #[.agg #[.int .i64 0, .bool false], .bool false]) ∧ Below w.heap.size w w' := by
  obtain ⟨k, s, l, f, n, A, m, c, vw, e0, hv, hcase⟩ := ty_view t h
  rw [tyV_of e0]
  have hta : ∀ w, (Instr.typeAssert vw 20 69 true).run Tryd.prog w = .ok (.tuple #[.agg #[.int .i64 0, .bool false], .bool false]) w := by
    rcases hcase with ⟨rfl, rfl, rfl⟩ | ⟨rfl, rfl, rfl⟩ | ⟨rfl, rfl, rfl⟩ | ⟨rfl, rfl, rfl⟩ | ⟨rfl, rfl, rfl⟩ | ⟨t1, k1, s1, l1, f1, n1, A1, m1, c1, e1, r1, q1, rfl, rfl, rfl⟩ | ⟨t1, k1, s1, l1, f1, n1, A1, m1, c1, e1, r1, q1, rfl, rfl, rfl⟩ | ⟨t1, ps, k1, s1, l1, f1, n1, A1, m1, c1, A2, m2, c2, e1, r1, q1, rps, q2, rfl, rfl, rfl⟩
    · exact ta_nil_Number
    · exact ta_no_Void_Number _
    · exact absurd rfl (hn s f)
    · exact ta_no_Float_Number _
    · exact ta_no_Record_Number _
    · exact ta_no_Pointer_Number _
    · exact ta_no_Array_Number _
    · exact ta_no_Function_Number _
  have HV := Lib.hid hv
  clear e0 hv hcase hn h
  have hA1 := cell_alloc_if
  have hA2 := frozen_alloc_if
  have hA3 := cell_set_if
  go_enter Tryd.func49, Tryd.ntmps49
  go_wp2_with (go_at_call 48; (with_reducible refine (HV.out _ (by (repeat' (first | (with_reducible exact Below.refl _ _) | (with_reducible assumption) | (with_reducible refine Below.setCell ?_ ?_ _) | (with_reducible refine Below.alloc ?_ ?_ _) | (with_reducible refine Below.drew ?_) | (with_reducible refine below_drewN ?_ _) | (with_reducible refine below_next ?_ (by with_reducible assumption)) | omega | (dsimp only; omega) | (simp only [World.size_alloc, World.size_setCell, World.size_drew, World.heap_drewN]; omega))))).mono ?_); rintro e w' ⟨rfl, hbl⟩; obtain ⟨hc, hf, hz⟩ := cif hbl; (try simp only [World.size_alloc, World.size_setCell, World.size_drew, World.heap_drewN] at hz))
  go_region_with (fail)
  all_goals (go_wp2; ((try simp only [Exit.inBlock, Exit.then]); go_light; refine bodyPost_ret (by simp [results, Tryd.results49, go_sem, *, ↓IntWalk.iteOmega]; try rfl) rfl ?_); exact ⟨rfl, by (repeat' (first | (with_reducible exact Below.refl _ _) | (with_reducible assumption) | (with_reducible refine Below.setCell ?_ ?_ _) | (with_reducible refine Below.alloc ?_ ?_ _) | (with_reducible refine Below.drew ?_) | (with_reducible refine below_drewN ?_ _) | (with_reducible refine below_next ?_ (by with_reducible assumption)) | omega | (dsimp only; omega) | (simp only [World.size_alloc, World.size_setCell, World.size_drew, World.heap_drewN]; omega)))⟩)
theorem whole_any (t : Ty) (w : World) (h : RdT w t) : Calls Tryd.prog 49 #[tyV t] w fun e w' => e = .returned (.tuple #[.agg #[.int .i64 (wholeN t).1, .bool (wholeN t).2], .bool (okN t)]) ∧ Below w.heap.size w w' := by
  cases t with
  | num s u => rw [show okN (.num s u) = isSz s by cases hb : isSz s <;> simp [okN, numOf, hb]]; exact whole_num s 0 u ⟨#[]⟩ none 0 0 w
  | _ => exact whole_no _ w h (by simp)

end Go.Proofs.YteeojgepgjndgaaDoor
