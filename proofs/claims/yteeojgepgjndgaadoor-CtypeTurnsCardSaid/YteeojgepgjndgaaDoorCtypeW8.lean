/-
  Types told apart: the program's.
-/
import Derived.Test.YteeojgepgjndgaaDoorCtypeW7
namespace Go.Proofs.YteeojgepgjndgaaDoor
open Go.RowKit
set_option linter.unusedVariables false
set_option linter.unusedSimpArgs false
attribute [local go_sem] ta_nil_Void ta_yes_Void ta_no_Number_Void ta_no_Float_Void ta_no_Record_Void ta_no_Pointer_Void ta_no_Array_Void ta_no_Function_Void ta_nil_Number ta_yes_Number ta_no_Void_Number ta_no_Float_Number ta_no_Record_Number ta_no_Pointer_Number ta_no_Array_Number ta_no_Function_Number ta_nil_Float ta_yes_Float ta_no_Void_Float ta_no_Number_Float ta_no_Record_Float ta_no_Pointer_Float ta_no_Array_Float ta_no_Function_Float ta_nil_Record ta_yes_Record ta_no_Void_Record ta_no_Number_Record ta_no_Float_Record ta_no_Pointer_Record ta_no_Array_Record ta_no_Function_Record ta_nil_Pointer ta_yes_Pointer ta_no_Void_Pointer ta_no_Number_Pointer ta_no_Float_Pointer ta_no_Record_Pointer ta_no_Array_Pointer ta_no_Function_Pointer ta_nil_Array ta_yes_Array ta_no_Void_Array ta_no_Number_Array ta_no_Float_Array ta_no_Record_Array ta_no_Pointer_Array ta_no_Function_Array ta_nil_Function ta_yes_Function ta_no_Void_Function ta_no_Number_Function ta_no_Float_Function ta_no_Record_Function ta_no_Pointer_Function ta_no_Array_Function

/-- A Boolean that tells whether P holds is answered; only new memory is made. -/
def BoolP (P : Prop) (w : World) (e : Ending) (w' : World) : Prop := ∃ b : Bool, e = .returned (.bool b) ∧ (b = true ↔ P) ∧ Below w.heap.size w w'
def isA : Ty → Bool
  | .arr _ _ _ => true
  | _ => false
def isFn : Ty → Bool
  | .fn _ _ _ => true
  | _ => false
def plainT (t : Ty) : Bool := !(isP t || isA t || isFn t)
theorem not_Pointer {w : World} (t : Ty) (h : RdT w t) (hn : isP t = false) : ∃ (k s l : Int) (f : Bool) (n : ByteArray) (A : Option Addr) (m c : Nat) (vw : Value), tyC t = [.int .i64 k, .int .i64 s, .int .i64 l, .bool f, .string n, .slice A m c] ∧
    (∀ W, Below w.heap.size w W → Calls Tryd.prog 48 #[.agg #[.int .i64 k, .int .i64 s, .int .i64 l, .bool f, .string n, .slice A m c]] W fun e w' => e = .returned vw ∧ Below W.heap.size W w') ∧
    (∀ w, (Instr.typeAssert vw 20 81 true).run Tryd.prog w = .ok (.tuple #[.agg #[.int .i64 0, .int .i64 0, .int .i64 0, .bool false, .string ⟨#[]⟩, .slice none 0 0], .bool false]) w) := by
  obtain ⟨k, s, l, f, n, A, m, c, vw, e0, hv, hcase⟩ := ty_view t h
  refine ⟨k, s, l, f, n, A, m, c, vw, e0, hv, ?_⟩
  rcases hcase with ⟨rfl, rfl, rfl⟩ | ⟨rfl, rfl, rfl⟩ | ⟨rfl, rfl, rfl⟩ | ⟨rfl, rfl, rfl⟩ | ⟨rfl, rfl, rfl⟩ | ⟨t1, k1, s1, l1, f1, n1, A1, m1, c1, e1, r1, q1, rfl, rfl, rfl⟩ | ⟨t1, k1, s1, l1, f1, n1, A1, m1, c1, e1, r1, q1, rfl, rfl, rfl⟩ | ⟨t1, ps, k1, s1, l1, f1, n1, A1, m1, c1, A2, m2, c2, e1, r1, q1, rps, q2, rfl, rfl, rfl⟩
  · exact ta_nil_Pointer
  · exact ta_no_Void_Pointer _
  · exact ta_no_Number_Pointer _
  · exact ta_no_Float_Pointer _
  · exact ta_no_Record_Pointer _
  · cases hn
  · exact ta_no_Array_Pointer _
  · exact ta_no_Function_Pointer _
theorem not_Array {w : World} (t : Ty) (h : RdT w t) (hn : isA t = false) : ∃ (k s l : Int) (f : Bool) (n : ByteArray) (A : Option Addr) (m c : Nat) (vw : Value), tyC t = [.int .i64 k, .int .i64 s, .int .i64 l, .bool f, .string n, .slice A m c] ∧
    (∀ W, Below w.heap.size w W → Calls Tryd.prog 48 #[.agg #[.int .i64 k, .int .i64 s, .int .i64 l, .bool f, .string n, .slice A m c]] W fun e w' => e = .returned vw ∧ Below W.heap.size W w') ∧
    (∀ w, (Instr.typeAssert vw 20 79 true).run Tryd.prog w = .ok (.tuple #[.agg #[.int .i64 0, .int .i64 0, .int .i64 0, .bool false, .string ⟨#[]⟩, .slice none 0 0, .int .i64 0], .bool false]) w) := by
  obtain ⟨k, s, l, f, n, A, m, c, vw, e0, hv, hcase⟩ := ty_view t h
  refine ⟨k, s, l, f, n, A, m, c, vw, e0, hv, ?_⟩
  rcases hcase with ⟨rfl, rfl, rfl⟩ | ⟨rfl, rfl, rfl⟩ | ⟨rfl, rfl, rfl⟩ | ⟨rfl, rfl, rfl⟩ | ⟨rfl, rfl, rfl⟩ | ⟨t1, k1, s1, l1, f1, n1, A1, m1, c1, e1, r1, q1, rfl, rfl, rfl⟩ | ⟨t1, k1, s1, l1, f1, n1, A1, m1, c1, e1, r1, q1, rfl, rfl, rfl⟩ | ⟨t1, ps, k1, s1, l1, f1, n1, A1, m1, c1, A2, m2, c2, e1, r1, q1, rps, q2, rfl, rfl, rfl⟩
  · exact ta_nil_Array
  · exact ta_no_Void_Array _
  · exact ta_no_Number_Array _
  · exact ta_no_Float_Array _
  · exact ta_no_Record_Array _
  · exact ta_no_Pointer_Array _
  · cases hn
  · exact ta_no_Function_Array _
theorem not_Function {w : World} (t : Ty) (h : RdT w t) (hn : isFn t = false) : ∃ (k s l : Int) (f : Bool) (n : ByteArray) (A : Option Addr) (m c : Nat) (vw : Value), tyC t = [.int .i64 k, .int .i64 s, .int .i64 l, .bool f, .string n, .slice A m c] ∧
    (∀ W, Below w.heap.size w W → Calls Tryd.prog 48 #[.agg #[.int .i64 k, .int .i64 s, .int .i64 l, .bool f, .string n, .slice A m c]] W fun e w' => e = .returned vw ∧ Below W.heap.size W w') ∧
    (∀ w, (Instr.typeAssert vw 20 95 true).run Tryd.prog w = .ok (.tuple #[.agg #[.int .i64 0, .int .i64 0, .int .i64 0, .bool false, .string ⟨#[]⟩, .slice none 0 0, .slice none 0 0], .bool false]) w) := by
  obtain ⟨k, s, l, f, n, A, m, c, vw, e0, hv, hcase⟩ := ty_view t h
  refine ⟨k, s, l, f, n, A, m, c, vw, e0, hv, ?_⟩
  rcases hcase with ⟨rfl, rfl, rfl⟩ | ⟨rfl, rfl, rfl⟩ | ⟨rfl, rfl, rfl⟩ | ⟨rfl, rfl, rfl⟩ | ⟨rfl, rfl, rfl⟩ | ⟨t1, k1, s1, l1, f1, n1, A1, m1, c1, e1, r1, q1, rfl, rfl, rfl⟩ | ⟨t1, k1, s1, l1, f1, n1, A1, m1, c1, e1, r1, q1, rfl, rfl, rfl⟩ | ⟨t1, ps, k1, s1, l1, f1, n1, A1, m1, c1, A2, m2, c2, e1, r1, q1, rps, q2, rfl, rfl, rfl⟩
  · exact ta_nil_Function
  · exact ta_no_Void_Function _
  · exact ta_no_Number_Function _
  · exact ta_no_Float_Function _
  · exact ta_no_Record_Function _
  · exact ta_no_Pointer_Function _
  · exact ta_no_Array_Function _
  · cases hn

/-- What a type that is made of no other is seen as. -/
def viewP : Ty → Value
  | .void => .iface 99 (.agg #[])
  | .num s u => .iface 69 (.agg #[.int .i64 s, .bool u])
  | .flt => .iface 75 (.agg #[])
  | .rcd u n => .iface 77 (.agg #[.string n, .bool u])
  | _ => .nilIface
theorem plain_view {w : World} (t : Ty) (h : RdT w t) (hp : plainT t = true) : ∃ (k s l : Int) (f : Bool) (n : ByteArray) (A : Option Addr) (m c : Nat), tyC t = [.int .i64 k, .int .i64 s, .int .i64 l, .bool f, .string n, .slice A m c] ∧
    (∀ W, Below w.heap.size w W → Calls Tryd.prog 48 #[.agg #[.int .i64 k, .int .i64 s, .int .i64 l, .bool f, .string n, .slice A m c]] W fun e w' => e = .returned (viewP t) ∧ Below W.heap.size W w') := by
  obtain ⟨k, s, l, f, n, A, m, c, vw, e0, hv, hcase⟩ := ty_view t h
  refine ⟨k, s, l, f, n, A, m, c, e0, ?_⟩
  rcases hcase with ⟨rfl, rfl, rfl⟩ | ⟨rfl, rfl, rfl⟩ | ⟨rfl, rfl, rfl⟩ | ⟨rfl, rfl, rfl⟩ | ⟨rfl, rfl, rfl⟩ | ⟨t1, k1, s1, l1, f1, n1, A1, m1, c1, e1, r1, q1, rfl, rfl, rfl⟩ | ⟨t1, k1, s1, l1, f1, n1, A1, m1, c1, e1, r1, q1, rfl, rfl, rfl⟩ | ⟨t1, ps, k1, s1, l1, f1, n1, A1, m1, c1, A2, m2, c2, e1, r1, q1, rps, q2, rfl, rfl, rfl⟩
  all_goals first | exact hv | cases hp
theorem viewP_Pointer (t : Ty) (w : World) : (Instr.typeAssert (viewP t) 20 81 true).run Tryd.prog w = .ok (.tuple #[.agg #[.int .i64 0, .int .i64 0, .int .i64 0, .bool false, .string ⟨#[]⟩, .slice none 0 0], .bool false]) w := by
  cases t with
  | void => exact ta_no_Void_Pointer _ w
  | num s u => exact ta_no_Number_Pointer _ w
  | flt => exact ta_no_Float_Pointer _ w
  | rcd u n => exact ta_no_Record_Pointer _ w
  | _ => exact ta_nil_Pointer w
theorem viewP_Array (t : Ty) (w : World) : (Instr.typeAssert (viewP t) 20 79 true).run Tryd.prog w = .ok (.tuple #[.agg #[.int .i64 0, .int .i64 0, .int .i64 0, .bool false, .string ⟨#[]⟩, .slice none 0 0, .int .i64 0], .bool false]) w := by
  cases t with
  | void => exact ta_no_Void_Array _ w
  | num s u => exact ta_no_Number_Array _ w
  | flt => exact ta_no_Float_Array _ w
  | rcd u n => exact ta_no_Record_Array _ w
  | _ => exact ta_nil_Array w
theorem viewP_Function (t : Ty) (w : World) : (Instr.typeAssert (viewP t) 20 95 true).run Tryd.prog w = .ok (.tuple #[.agg #[.int .i64 0, .int .i64 0, .int .i64 0, .bool false, .string ⟨#[]⟩, .slice none 0 0, .slice none 0 0], .bool false]) w := by
  cases t with
  | void => exact ta_no_Void_Function _ w
  | num s u => exact ta_no_Number_Function _ w
  | flt => exact ta_no_Float_Function _ w
  | rcd u n => exact ta_no_Record_Function _ w
  | _ => exact ta_nil_Function w
section
variable {P : Program}
theorem run_equalIn_iface (d : Nat) {T t : TypeId} {i : TypeInfo} {ms : Array (String × TypeId)} (hT : P.underlying T = some (.interface ms)) (hi : P.info? t = some i) (hc : i.comparable = true) (x y : Value) (w : World) :
    (Op.equalIn (d + 1) T (.iface t x) (.iface t y)).run P w = (Op.equalIn d t x y).run P w := by
  simp [Op.equalIn, run_underlying hT, typeInfo, hi, hc]
theorem run_eql_iface {T t : TypeId} {i : TypeInfo} {ms : Array (String × TypeId)} (hT : P.underlying T = some (.interface ms)) (hi : P.info? t = some i) (hc : i.comparable = true) (x y : Value) (w : World) :
    (binOp .eql T (.iface t x) (.iface t y)).run P w = ((Op.equalIn 9999 t x y).run P w).andThen fun b w' => .ok (.bool b) w' := by
  simp only [binOp]
  simp [Op.equal, Op.maxDepth, run_equalIn_iface 9999 hT hi hc]
theorem comparable_of {t : TypeId} (h : (P.info? t).map (·.comparable) = some true) : ∃ i, P.info? t = some i ∧ i.comparable = true := by
  cases hi : P.info? t with
  | none => rw [hi] at h; cases h
  | some i => rw [hi] at h; simp at h; exact ⟨i, rfl, h⟩
end
theorem any_ty : Tryd.prog.underlying 20 = some (.interface #[]) := by kernel_rfl
theorem number_cmp : (Tryd.prog.info? 69).map (·.comparable) = some true := by kernel_rfl
theorem record_cmp : (Tryd.prog.info? 77).map (·.comparable) = some true := by kernel_rfl
theorem eql_number (s r : Int) (u v : Bool) (w : World) : (binOp .eql 20 (.iface 69 (.agg #[.int .i64 s, .bool u])) (.iface 69 (.agg #[.int .i64 r, .bool v]))).run Tryd.prog w = .ok (.bool (decide (s = r ∧ u = v))) w := by
  obtain ⟨i, hi, hc⟩ := comparable_of number_cmp
  rw [run_eql_iface any_ty hi hc]
  by_cases h1 : s = r
  · subst h1
    cases u <;> cases v <;> simp [go_sem]
  · simp [go_sem, h1]
theorem eql_record (n m : ByteArray) (u v : Bool) (w : World) : (binOp .eql 20 (.iface 77 (.agg #[.string n, .bool u])) (.iface 77 (.agg #[.string m, .bool v]))).run Tryd.prog w = .ok (.bool (decide (u = v ∧ n.toList = m.toList))) w := by
  obtain ⟨i, hi, hc⟩ := comparable_of record_cmp
  rw [run_eql_iface any_ty hi hc]
  by_cases h1 : n.toList = m.toList
  · cases u <;> cases v <;> simp [go_sem, h1]
  · simp [go_sem, h1]
theorem viewP_eq (a b : Ty) (ha : plainT a = true) (hb : plainT b = true) : ∃ v : Bool, (∀ w, (binOp .eql 20 (viewP a) (viewP b)).run Tryd.prog w = .ok (.bool v) w) ∧ (v = true ↔ er a = er b) := by
  cases a <;> first | (simp [plainT, isP, isA, isFn] at ha; done) | skip
  all_goals (cases b <;> first | (simp [plainT, isP, isA, isFn] at hb; done) | skip)
  case num.num s u r v => exact ⟨_, eql_number s r u v, by simp [er]⟩
  case rcd.rcd u n v m => exact ⟨_, eql_record n m u v, by simp [er]⟩
  all_goals first | (refine ⟨true, ?_, ?_⟩; rotate_left; (focus (simp [er]; done)); intro w; kernel_rfl) | (refine ⟨false, ?_, ?_⟩; rotate_left; (focus (simp [er]; done)); intro w; kernel_rfl)

theorem viewP_guard (a b : Ty) (w : World) : (eqGuard .eql 20 (.tmp 97) (.tmp 99) (viewP a) (viewP b)).run Tryd.prog w = .ok () w := by
  cases a <;> cases b <;> kernel_rfl

set_option maxRecDepth 100000 in
set_option maxHeartbeats 1000000 in
theorem plain_any (t : Ty) (w : World) (h : RdT w t) : Calls Tryd.prog 66 #[tyV t] w fun e w' => e = .returned (.bool (plainT t)) ∧ Below w.heap.size w w' := by
  obtain ⟨k, s, l, f, n, A, m, c, vw, e0, hv, hcase⟩ := ty_view t h
  rw [tyV_of e0]
  have HV := Lib.hid hv
  have HT := Lib.hid h
  clear e0 hv h
  rcases hcase with ⟨rfl, rfl, rfl⟩ | ⟨rfl, rfl, rfl⟩ | ⟨rfl, rfl, rfl⟩ | ⟨rfl, rfl, rfl⟩ | ⟨rfl, rfl, rfl⟩ | ⟨t1, k1, s1, l1, f1, n1, A1, m1, c1, e1, r1, q1, rfl, rfl, rfl⟩ | ⟨t1, k1, s1, l1, f1, n1, A1, m1, c1, e1, r1, q1, rfl, rfl, rfl⟩ | ⟨t1, ps, k1, s1, l1, f1, n1, A1, m1, c1, A2, m2, c2, e1, r1, q1, rps, q2, rfl, rfl, rfl⟩
  all_goals (try (have E1 := Lib.hid e1; have R1 := Lib.hid r1; have Q1 := Lib.hid q1; clear e1 r1 q1))
  all_goals (try (have RPS := Lib.hid rps; have Q2 := Lib.hid q2; clear rps q2))
  all_goals (
    have hA1 := cell_alloc_if
    have hA2 := frozen_alloc_if
    have hA3 := cell_set_if
    go_enter Tryd.func66, Tryd.ntmps66
    go_wp2_with (go_at_call 48; (with_reducible refine (HV.out _ (by (repeat' (first | (with_reducible exact Below.refl _ _) | (with_reducible assumption) | (with_reducible refine Below.setCell ?_ ?_ _) | (with_reducible refine Below.alloc ?_ ?_ _) | (with_reducible refine Below.drew ?_) | (with_reducible refine below_drewN ?_ _) | (with_reducible refine below_next ?_ (by with_reducible assumption)) | omega | (dsimp only; omega) | (simp only [World.size_alloc, World.size_setCell, World.size_drew, World.heap_drewN]; omega))))).mono ?_); rintro e w' ⟨rfl, hbl⟩; obtain ⟨hc, hf, hz⟩ := cif hbl; (try simp only [World.size_alloc, World.size_setCell, World.size_drew, World.heap_drewN] at hz))
    all_goals (go_returns; exact ⟨rfl, by (repeat' (first | (with_reducible exact Below.refl _ _) | (with_reducible assumption) | (with_reducible refine Below.setCell ?_ ?_ _) | (with_reducible refine Below.alloc ?_ ?_ _) | (with_reducible refine Below.drew ?_) | (with_reducible refine below_drewN ?_ _) | (with_reducible refine below_next ?_ (by with_reducible assumption)) | omega | (dsimp only; omega) | (simp only [World.size_alloc, World.size_setCell, World.size_drew, World.heap_drewN]; omega)))⟩))

set_option maxRecDepth 100000 in
set_option maxHeartbeats 2000000 in
theorem same_plain (a b : Ty) (w : World) (ha : RdT w a) (hb : RdT w b) (hp : plainT a = true) : Calls Tryd.prog 29 #[tyV a, tyV b] w (BoolP (er a = er b) w) := by
  obtain ⟨k1, s1, l1, f1, n1, A1, m1, c1, e1, hv1⟩ := plain_view a ha hp
  rw [tyV_of e1]
  have HP := Lib.hid (fun W (hW : Below w.heap.size w W) => plain_any b W (hb.next hW))
  cases hq : plainT b with
  | false =>
    obtain ⟨k2, s2, l2, f2, n2, A2, m2, c2, e2⟩ := tyC_form b hb
    rw [hq, tyV_of e2] at HP
    rw [tyV_of e2]
    have hne : ¬ er a = er b := by
      intro h
      cases a <;> cases b <;> simp [er] at h <;> simp [plainT, isP, isA, isFn] at hp hq
    have HNE := Lib.hid hne
    have t1 := viewP_Function a
    have t2 := viewP_Pointer a
    have t3 := viewP_Array a
    have HV1 := Lib.hid hv1
    clear e1 e2 hv1 ha hb hne hp hq
    generalize viewP a = va at *
    have hA1 := cell_alloc_if
    have hA2 := frozen_alloc_if
    have hA3 := cell_set_if
    go_enter Tryd.func29, Tryd.ntmps29
    go_wp2_with (first
      | (go_at_call 48; (with_reducible refine (HV1.out _ (by (repeat' (first | (with_reducible exact Below.refl _ _) | (with_reducible assumption) | (with_reducible refine Below.setCell ?_ ?_ _) | (with_reducible refine Below.alloc ?_ ?_ _) | (with_reducible refine Below.drew ?_) | (with_reducible refine below_drewN ?_ _) | (with_reducible refine below_next ?_ (by with_reducible assumption)) | omega | (dsimp only; omega) | (simp only [World.size_alloc, World.size_setCell, World.size_drew, World.heap_drewN]; omega))))).mono ?_); rintro e w' ⟨rfl, hbl⟩; obtain ⟨hc, hf, hz⟩ := cif hbl; (try simp only [World.size_alloc, World.size_setCell, World.size_drew, World.heap_drewN] at hz))
      | (go_at_call 66; (with_reducible refine (HP.out _ (by (repeat' (first | (with_reducible exact Below.refl _ _) | (with_reducible assumption) | (with_reducible refine Below.setCell ?_ ?_ _) | (with_reducible refine Below.alloc ?_ ?_ _) | (with_reducible refine Below.drew ?_) | (with_reducible refine below_drewN ?_ _) | (with_reducible refine below_next ?_ (by with_reducible assumption)) | omega | (dsimp only; omega) | (simp only [World.size_alloc, World.size_setCell, World.size_drew, World.heap_drewN]; omega))))).mono ?_); rintro e w' ⟨rfl, hbl⟩; obtain ⟨hc, hf, hz⟩ := cif hbl; (try simp only [World.size_alloc, World.size_setCell, World.size_drew, World.heap_drewN] at hz)))
    go_returns
    exact ⟨false, rfl, by simp [HNE.out], by (repeat' (first | (with_reducible exact Below.refl _ _) | (with_reducible assumption) | (with_reducible refine Below.setCell ?_ ?_ _) | (with_reducible refine Below.alloc ?_ ?_ _) | (with_reducible refine Below.drew ?_) | (with_reducible refine below_drewN ?_ _) | (with_reducible refine below_next ?_ (by with_reducible assumption)) | omega | (dsimp only; omega) | (simp only [World.size_alloc, World.size_setCell, World.size_drew, World.heap_drewN]; omega)))⟩
  | true =>
    obtain ⟨k2, s2, l2, f2, n2, A2, m2, c2, e2, hv2⟩ := plain_view b hb hq
    obtain ⟨v, hrun, hiff⟩ := viewP_eq a b hp hq
    rw [hq, tyV_of e2] at HP
    rw [tyV_of e2]
    have hgd := viewP_guard a b
    have HI := Lib.hid hiff
    have t1 := viewP_Function a
    have t2 := viewP_Pointer a
    have t3 := viewP_Array a
    have HV1 := Lib.hid hv1
    have HV2 := Lib.hid hv2
    clear e1 e2 hv1 hv2 ha hb hp hq hiff
    generalize viewP a = va at *
    generalize viewP b = vb at *
    have hA1 := cell_alloc_if
    have hA2 := frozen_alloc_if
    have hA3 := cell_set_if
    go_enter Tryd.func29, Tryd.ntmps29
    go_wp2_with (first
      | (go_at_call 48; (with_reducible refine (HV1.out _ (by (repeat' (first | (with_reducible exact Below.refl _ _) | (with_reducible assumption) | (with_reducible refine Below.setCell ?_ ?_ _) | (with_reducible refine Below.alloc ?_ ?_ _) | (with_reducible refine Below.drew ?_) | (with_reducible refine below_drewN ?_ _) | (with_reducible refine below_next ?_ (by with_reducible assumption)) | omega | (dsimp only; omega) | (simp only [World.size_alloc, World.size_setCell, World.size_drew, World.heap_drewN]; omega))))).mono ?_); rintro e w' ⟨rfl, hbl⟩; obtain ⟨hc, hf, hz⟩ := cif hbl; (try simp only [World.size_alloc, World.size_setCell, World.size_drew, World.heap_drewN] at hz))
      | (go_at_call 66; (with_reducible refine (HP.out _ (by (repeat' (first | (with_reducible exact Below.refl _ _) | (with_reducible assumption) | (with_reducible refine Below.setCell ?_ ?_ _) | (with_reducible refine Below.alloc ?_ ?_ _) | (with_reducible refine Below.drew ?_) | (with_reducible refine below_drewN ?_ _) | (with_reducible refine below_next ?_ (by with_reducible assumption)) | omega | (dsimp only; omega) | (simp only [World.size_alloc, World.size_setCell, World.size_drew, World.heap_drewN]; omega))))).mono ?_); rintro e w' ⟨rfl, hbl⟩; obtain ⟨hc, hf, hz⟩ := cif hbl; (try simp only [World.size_alloc, World.size_setCell, World.size_drew, World.heap_drewN] at hz)))
    refine wp_region_ext (by kernel_rfl) (by kernel_rfl) ?_
    repeat (first | go_big_quiet_skip | (go_big_quiet_want; go_big_quiet_op; first | go_big_quiet_on | (apply Exists.intro; refine ⟨fun W hW => ?_, ?_⟩; (focus (first
      | (go_at_call 48; have hWb := Ext.of hW; (with_reducible refine (HV1.out _ (by (repeat' (first | (with_reducible exact Below.refl _ _) | (with_reducible assumption) | (with_reducible refine Below.setCell ?_ ?_ _) | (with_reducible refine Below.alloc ?_ ?_ _) | (with_reducible refine Below.drew ?_) | (with_reducible refine below_drewN ?_ _) | (with_reducible refine below_next ?_ (by with_reducible assumption)) | omega | (dsimp only; omega) | (simp only [World.size_alloc, World.size_setCell, World.size_drew, World.heap_drewN]; omega))))).mono ?_); rintro e w1 ⟨rfl, hb⟩; exact ⟨rfl, Ext.next hW hb⟩)
        | (go_at_call 48; have hWb := Ext.of hW; (with_reducible refine (HV2.out _ (by (repeat' (first | (with_reducible exact Below.refl _ _) | (with_reducible assumption) | (with_reducible refine Below.setCell ?_ ?_ _) | (with_reducible refine Below.alloc ?_ ?_ _) | (with_reducible refine Below.drew ?_) | (with_reducible refine below_drewN ?_ _) | (with_reducible refine below_next ?_ (by with_reducible assumption)) | omega | (dsimp only; omega) | (simp only [World.size_alloc, World.size_setCell, World.size_drew, World.heap_drewN]; omega))))).mono ?_); rintro e w1 ⟨rfl, hb⟩; exact ⟨rfl, Ext.next hW hb⟩)
      | exact rfl | (obtain ⟨hcW, hfW, hzW⟩ := cif (Ext.of hW); (try simp only [World.size_alloc, World.size_setCell, World.size_drew, World.heap_drewN] at hzW); simp [go_sem, *, ↓IntWalk.iteOmega]; (try exact rfl)))); go_big_quiet_on)))
    refine wpQuiet_nil ?_
    intro w' hw'
    have hbl := Ext.of hw'
    obtain ⟨hc, hf, hz⟩ := cif hbl
    (try simp only [World.size_alloc, World.size_setCell, World.size_drew, World.heap_drewN] at hz)
    clear hw'
    go_wp2
    go_returns
    exact ⟨v, rfl, HI.out, by (repeat' (first | (with_reducible exact Below.refl _ _) | (with_reducible assumption) | (with_reducible refine Below.setCell ?_ ?_ _) | (with_reducible refine Below.alloc ?_ ?_ _) | (with_reducible refine Below.drew ?_) | (with_reducible refine below_drewN ?_ _) | (with_reducible refine below_next ?_ (by with_reducible assumption)) | omega | (dsimp only; omega) | (simp only [World.size_alloc, World.size_setCell, World.size_drew, World.heap_drewN]; omega)))⟩

theorem ptr_view {w : World} (sv : Value) (t : Ty) (h : RdT w (.ptr sv t)) : ∃ (k s l : Int) (f : Bool) (n : ByteArray) (A : Option Addr) (m c : Nat) (k1 s1 l1 : Int) (f1 : Bool) (n1 : ByteArray) (A1 : Option Addr) (m1 c1 : Nat), tyC (.ptr sv t) = [.int .i64 k, .int .i64 s, .int .i64 l, .bool f, .string n, .slice A m c] ∧ tyC t = [.int .i64 k1, .int .i64 s1, .int .i64 l1, .bool f1, .string n1, .slice A1 m1 c1] ∧ RdT w t ∧
    (∀ W, Below w.heap.size w W → Calls Tryd.prog 48 #[.agg #[.int .i64 k, .int .i64 s, .int .i64 l, .bool f, .string n, .slice A m c]] W fun e w' => e = .returned (.iface 81 (.agg #[.int .i64 k1, .int .i64 s1, .int .i64 l1, .bool f1, .string n1, .slice A1 m1 c1])) ∧ Below W.heap.size W w') := by
  obtain ⟨k, s, l, f, n, A, m, c, vw, e0, hv, hcase⟩ := ty_view _ h
  rcases hcase with ⟨h1, _⟩ | ⟨h1, _⟩ | ⟨h1, _⟩ | ⟨h1, _⟩ | ⟨h1, _⟩ | ⟨t1, k1, s1, l1, f1, n1, A1, m1, c1, e1, r1, q1, h1, rfl, rfl⟩ | ⟨t1, k1, s1, l1, f1, n1, A1, m1, c1, e1, r1, q1, h1, rfl, rfl⟩ | ⟨t1, ps, k1, s1, l1, f1, n1, A1, m1, c1, A2, m2, c2, e1, r1, q1, rps, q2, h1, rfl, rfl⟩
  all_goals cases h1
  exact ⟨_, s, l, f, n, A, m, c, k1, s1, l1, f1, n1, A1, m1, c1, e0, e1, r1, hv⟩
theorem arr_view {w : World} (sv : Value) (d : Int) (t : Ty) (h : RdT w (.arr sv d t)) : ∃ (k s l : Int) (f : Bool) (n : ByteArray) (A : Option Addr) (m c : Nat) (k1 s1 l1 : Int) (f1 : Bool) (n1 : ByteArray) (A1 : Option Addr) (m1 c1 : Nat), tyC (.arr sv d t) = [.int .i64 k, .int .i64 s, .int .i64 l, .bool f, .string n, .slice A m c] ∧ tyC t = [.int .i64 k1, .int .i64 s1, .int .i64 l1, .bool f1, .string n1, .slice A1 m1 c1] ∧ RdT w t ∧
    (∀ W, Below w.heap.size w W → Calls Tryd.prog 48 #[.agg #[.int .i64 k, .int .i64 s, .int .i64 l, .bool f, .string n, .slice A m c]] W fun e w' => e = .returned (.iface 79 (.agg #[.int .i64 k1, .int .i64 s1, .int .i64 l1, .bool f1, .string n1, .slice A1 m1 c1, .int .i64 d])) ∧ Below W.heap.size W w') := by
  obtain ⟨k, s, l, f, n, A, m, c, vw, e0, hv, hcase⟩ := ty_view _ h
  rcases hcase with ⟨h1, _⟩ | ⟨h1, _⟩ | ⟨h1, _⟩ | ⟨h1, _⟩ | ⟨h1, _⟩ | ⟨t1, k1, s1, l1, f1, n1, A1, m1, c1, e1, r1, q1, h1, rfl, rfl⟩ | ⟨t1, k1, s1, l1, f1, n1, A1, m1, c1, e1, r1, q1, h1, rfl, rfl⟩ | ⟨t1, ps, k1, s1, l1, f1, n1, A1, m1, c1, A2, m2, c2, e1, r1, q1, rps, q2, h1, rfl, rfl⟩
  all_goals cases h1
  exact ⟨_, s, _, f, n, A, m, c, k1, s1, l1, f1, n1, A1, m1, c1, e0, e1, r1, hv⟩
theorem fn_view {w : World} (sv : Value) (r : Ty) (ps : List Ty) (h : RdT w (.fn sv r ps)) : ∃ (k s l : Int) (f : Bool) (n : ByteArray) (A : Option Addr) (m c : Nat) (k1 s1 l1 : Int) (f1 : Bool) (n1 : ByteArray) (A1 : Option Addr) (m1 c1 : Nat) (A2 : Option Addr) (m2 c2 : Nat), tyC (.fn sv r ps) = [.int .i64 k, .int .i64 s, .int .i64 l, .bool f, .string n, .slice A m c] ∧ tyC r = [.int .i64 k1, .int .i64 s1, .int .i64 l1, .bool f1, .string n1, .slice A1 m1 c1] ∧ RdT w r ∧ RdTs w ps ∧ RdL tyC 6 w (.slice A2 m2 c2) ps ∧
    (∀ W, Below w.heap.size w W → Calls Tryd.prog 48 #[.agg #[.int .i64 k, .int .i64 s, .int .i64 l, .bool f, .string n, .slice A m c]] W fun e w' => e = .returned (.iface 95 (.agg #[.int .i64 k1, .int .i64 s1, .int .i64 l1, .bool f1, .string n1, .slice A1 m1 c1, .slice A2 m2 c2])) ∧ Below W.heap.size W w') := by
  obtain ⟨k, s, l, f, n, A, m, c, vw, e0, hv, hcase⟩ := ty_view _ h
  rcases hcase with ⟨h1, _⟩ | ⟨h1, _⟩ | ⟨h1, _⟩ | ⟨h1, _⟩ | ⟨h1, _⟩ | ⟨t1, k1, s1, l1, f1, n1, A1, m1, c1, e1, r1, q1, h1, rfl, rfl⟩ | ⟨t1, k1, s1, l1, f1, n1, A1, m1, c1, e1, r1, q1, h1, rfl, rfl⟩ | ⟨t1, ps, k1, s1, l1, f1, n1, A1, m1, c1, A2, m2, c2, e1, r1, q1, rps, q2, h1, rfl, rfl⟩
  all_goals cases h1
  exact ⟨_, s, l, f, n, A, m, c, k1, s1, l1, f1, n1, A1, m1, c1, A2, m2, c2, e0, e1, r1, rps, q2, hv⟩

theorem ptr_ne (sv : Value) (t b : Ty) (hp : isP b = false) : ¬ er (.ptr sv t) = er b := by
  cases b <;> simp [er, isP] at hp ⊢
theorem arr_ne (sv : Value) (d : Int) (t b : Ty) (hp : isA b = false) : ¬ er (.arr sv d t) = er b := by
  cases b <;> simp [er, isA] at hp ⊢
theorem fn_ne (sv : Value) (r : Ty) (ps : List Ty) (b : Ty) (hp : isFn b = false) : ¬ er (.fn sv r ps) = er b := by
  cases b <;> simp [er, isFn] at hp ⊢

/-- What is shown of a type's parts first. -/
def SameAt (F : FuncId) (x : Ty) : Prop := ∀ (y : Ty) (W : World), RdT W x → RdT W y → Calls Tryd.prog F #[tyV x, tyV y] W (BoolP (er x = er y) W)
set_option maxRecDepth 100000 in
set_option maxHeartbeats 2000000 in
theorem same_ptr (sv : Value) (t : Ty) (b : Ty) (w : World) (ha : RdT w (.ptr sv t)) (hb : RdT w b) (ih : SameAt 29 t) : Calls Tryd.prog 29 #[tyV (.ptr sv t), tyV b] w (BoolP (er (.ptr sv t) = er b) w) := by
  obtain ⟨k, s, l, f, n, A, m, c, k1, s1, l1, f1, n1, A1, m1, c1, e0, e1, r1, hv1⟩ := ptr_view sv t ha
  rw [tyV_of e0]
  have HV1 := Lib.hid hv1
  cases hp : isP b with
  | true =>
    cases b <;> first | cases hp | skip
    rename_i sv2 t2
    obtain ⟨k', s', l', f', n', A', m', c', k2, s2, l2, f2, n2, A2, m2, c2, e2, e3, r2, hv2⟩ := ptr_view sv2 t2 hb
    rw [tyV_of e2]
    have HV2 := Lib.hid hv2
    have HI : Hid (∀ W, Below w.heap.size w W → Calls Tryd.prog 29 #[.agg #[.int .i64 k1, .int .i64 s1, .int .i64 l1, .bool f1, .string n1, .slice A1 m1 c1], .agg #[.int .i64 k2, .int .i64 s2, .int .i64 l2, .bool f2, .string n2, .slice A2 m2 c2]] W (BoolP (er t = er t2) W)) := Lib.hid fun W hW => by
      have h := ih t2 W (r1.next hW) (r2.next hW)
      rw [tyV_of e1, tyV_of e3] at h
      exact h
    clear e0 e1 e2 e3 r1 r2 hv1 hv2 ha hb ih
    have hA1 := cell_alloc_if
    have hA2 := frozen_alloc_if
    have hA3 := cell_set_if
    go_enter Tryd.func29, Tryd.ntmps29
    go_wp2_with (first | (go_at_call 48; (with_reducible refine (HV1.out _ (by (repeat' (first | (with_reducible exact Below.refl _ _) | (with_reducible assumption) | (with_reducible refine Below.setCell ?_ ?_ _) | (with_reducible refine Below.alloc ?_ ?_ _) | (with_reducible refine Below.drew ?_) | (with_reducible refine below_drewN ?_ _) | (with_reducible refine below_next ?_ (by with_reducible assumption)) | omega | (dsimp only; omega) | (simp only [World.size_alloc, World.size_setCell, World.size_drew, World.heap_drewN]; omega))))).mono ?_); rintro e w' ⟨rfl, hbl⟩; obtain ⟨hc, hf, hz⟩ := cif hbl; (try simp only [World.size_alloc, World.size_setCell, World.size_drew, World.heap_drewN] at hz)) | (go_at_call 48; (with_reducible refine (HV2.out _ (by (repeat' (first | (with_reducible exact Below.refl _ _) | (with_reducible assumption) | (with_reducible refine Below.setCell ?_ ?_ _) | (with_reducible refine Below.alloc ?_ ?_ _) | (with_reducible refine Below.drew ?_) | (with_reducible refine below_drewN ?_ _) | (with_reducible refine below_next ?_ (by with_reducible assumption)) | omega | (dsimp only; omega) | (simp only [World.size_alloc, World.size_setCell, World.size_drew, World.heap_drewN]; omega))))).mono ?_); rintro e w' ⟨rfl, hbl⟩; obtain ⟨hc, hf, hz⟩ := cif hbl; (try simp only [World.size_alloc, World.size_setCell, World.size_drew, World.heap_drewN] at hz)) | (go_at_call 29; (with_reducible refine (HI.out _ (by (repeat' (first | (with_reducible exact Below.refl _ _) | (with_reducible assumption) | (with_reducible refine Below.setCell ?_ ?_ _) | (with_reducible refine Below.alloc ?_ ?_ _) | (with_reducible refine Below.drew ?_) | (with_reducible refine below_drewN ?_ _) | (with_reducible refine below_next ?_ (by with_reducible assumption)) | omega | (dsimp only; omega) | (simp only [World.size_alloc, World.size_setCell, World.size_drew, World.heap_drewN]; omega))))).mono ?_); rintro e w' ⟨v, rfl, hv, hbl⟩; have HQ := Lib.hid hv; clear hv))
    go_returns
    exact ⟨v, rfl, by rw [HQ.out]; simp [er], by (repeat' (first | (with_reducible exact Below.refl _ _) | (with_reducible assumption) | (with_reducible refine Below.setCell ?_ ?_ _) | (with_reducible refine Below.alloc ?_ ?_ _) | (with_reducible refine Below.drew ?_) | (with_reducible refine below_drewN ?_ _) | (with_reducible refine below_next ?_ (by with_reducible assumption)) | omega | (dsimp only; omega) | (simp only [World.size_alloc, World.size_setCell, World.size_drew, World.heap_drewN]; omega)))⟩
  | false =>
    obtain ⟨k2, s2, l2, f2, n2, A2, m2, c2, vw, e2, hv2, hta⟩ := not_Pointer b hb hp
    have HNE := Lib.hid (ptr_ne sv t b hp)
    rw [tyV_of e2]
    have HV2 := Lib.hid hv2
    clear e0 e1 e2 r1 hv1 hv2 ha hb hp ih
    have hA1 := cell_alloc_if
    have hA2 := frozen_alloc_if
    have hA3 := cell_set_if
    go_enter Tryd.func29, Tryd.ntmps29
    go_wp2_with (first | (go_at_call 48; (with_reducible refine (HV1.out _ (by (repeat' (first | (with_reducible exact Below.refl _ _) | (with_reducible assumption) | (with_reducible refine Below.setCell ?_ ?_ _) | (with_reducible refine Below.alloc ?_ ?_ _) | (with_reducible refine Below.drew ?_) | (with_reducible refine below_drewN ?_ _) | (with_reducible refine below_next ?_ (by with_reducible assumption)) | omega | (dsimp only; omega) | (simp only [World.size_alloc, World.size_setCell, World.size_drew, World.heap_drewN]; omega))))).mono ?_); rintro e w' ⟨rfl, hbl⟩; obtain ⟨hc, hf, hz⟩ := cif hbl; (try simp only [World.size_alloc, World.size_setCell, World.size_drew, World.heap_drewN] at hz)) | (go_at_call 48; (with_reducible refine (HV2.out _ (by (repeat' (first | (with_reducible exact Below.refl _ _) | (with_reducible assumption) | (with_reducible refine Below.setCell ?_ ?_ _) | (with_reducible refine Below.alloc ?_ ?_ _) | (with_reducible refine Below.drew ?_) | (with_reducible refine below_drewN ?_ _) | (with_reducible refine below_next ?_ (by with_reducible assumption)) | omega | (dsimp only; omega) | (simp only [World.size_alloc, World.size_setCell, World.size_drew, World.heap_drewN]; omega))))).mono ?_); rintro e w' ⟨rfl, hbl⟩; obtain ⟨hc, hf, hz⟩ := cif hbl; (try simp only [World.size_alloc, World.size_setCell, World.size_drew, World.heap_drewN] at hz)))
    go_returns
    exact ⟨false, rfl, by simp [HNE.out], by (repeat' (first | (with_reducible exact Below.refl _ _) | (with_reducible assumption) | (with_reducible refine Below.setCell ?_ ?_ _) | (with_reducible refine Below.alloc ?_ ?_ _) | (with_reducible refine Below.drew ?_) | (with_reducible refine below_drewN ?_ _) | (with_reducible refine below_next ?_ (by with_reducible assumption)) | omega | (dsimp only; omega) | (simp only [World.size_alloc, World.size_setCell, World.size_drew, World.heap_drewN]; omega)))⟩
set_option maxRecDepth 100000 in
set_option maxHeartbeats 2000000 in
theorem same_arr (sv : Value) (d : Int) (t : Ty) (b : Ty) (w : World) (ha : RdT w (.arr sv d t)) (hb : RdT w b) (ih : SameAt 29 t) : Calls Tryd.prog 29 #[tyV (.arr sv d t), tyV b] w (BoolP (er (.arr sv d t) = er b) w) := by
  obtain ⟨k, s, l, f, n, A, m, c, k1, s1, l1, f1, n1, A1, m1, c1, e0, e1, r1, hv1⟩ := arr_view sv d t ha
  rw [tyV_of e0]
  have HV1 := Lib.hid hv1
  cases hp : isA b with
  | true =>
    cases b <;> first | cases hp | skip
    rename_i sv2 d2 t2
    obtain ⟨k', s', l', f', n', A', m', c', k2, s2, l2, f2, n2, A2, m2, c2, e2, e3, r2, hv2⟩ := arr_view sv2 d2 t2 hb
    rw [tyV_of e2]
    have HV2 := Lib.hid hv2
    have HI : Hid (∀ W, Below w.heap.size w W → Calls Tryd.prog 29 #[.agg #[.int .i64 k1, .int .i64 s1, .int .i64 l1, .bool f1, .string n1, .slice A1 m1 c1], .agg #[.int .i64 k2, .int .i64 s2, .int .i64 l2, .bool f2, .string n2, .slice A2 m2 c2]] W (BoolP (er t = er t2) W)) := Lib.hid fun W hW => by
      have h := ih t2 W (r1.next hW) (r2.next hW)
      rw [tyV_of e1, tyV_of e3] at h
      exact h
    clear e0 e1 e2 e3 r1 r2 hv1 hv2 ha hb ih
    by_cases hd : d = d2
    · subst hd
      have hA1 := cell_alloc_if
      have hA2 := frozen_alloc_if
      have hA3 := cell_set_if
      go_enter Tryd.func29, Tryd.ntmps29
      go_wp2_with (first | (go_at_call 48; (with_reducible refine (HV1.out _ (by (repeat' (first | (with_reducible exact Below.refl _ _) | (with_reducible assumption) | (with_reducible refine Below.setCell ?_ ?_ _) | (with_reducible refine Below.alloc ?_ ?_ _) | (with_reducible refine Below.drew ?_) | (with_reducible refine below_drewN ?_ _) | (with_reducible refine below_next ?_ (by with_reducible assumption)) | omega | (dsimp only; omega) | (simp only [World.size_alloc, World.size_setCell, World.size_drew, World.heap_drewN]; omega))))).mono ?_); rintro e w' ⟨rfl, hbl⟩; obtain ⟨hc, hf, hz⟩ := cif hbl; (try simp only [World.size_alloc, World.size_setCell, World.size_drew, World.heap_drewN] at hz)) | (go_at_call 48; (with_reducible refine (HV2.out _ (by (repeat' (first | (with_reducible exact Below.refl _ _) | (with_reducible assumption) | (with_reducible refine Below.setCell ?_ ?_ _) | (with_reducible refine Below.alloc ?_ ?_ _) | (with_reducible refine Below.drew ?_) | (with_reducible refine below_drewN ?_ _) | (with_reducible refine below_next ?_ (by with_reducible assumption)) | omega | (dsimp only; omega) | (simp only [World.size_alloc, World.size_setCell, World.size_drew, World.heap_drewN]; omega))))).mono ?_); rintro e w' ⟨rfl, hbl⟩; obtain ⟨hc, hf, hz⟩ := cif hbl; (try simp only [World.size_alloc, World.size_setCell, World.size_drew, World.heap_drewN] at hz)) | (go_at_call 29; (with_reducible refine (HI.out _ (by (repeat' (first | (with_reducible exact Below.refl _ _) | (with_reducible assumption) | (with_reducible refine Below.setCell ?_ ?_ _) | (with_reducible refine Below.alloc ?_ ?_ _) | (with_reducible refine Below.drew ?_) | (with_reducible refine below_drewN ?_ _) | (with_reducible refine below_next ?_ (by with_reducible assumption)) | omega | (dsimp only; omega) | (simp only [World.size_alloc, World.size_setCell, World.size_drew, World.heap_drewN]; omega))))).mono ?_); rintro e w' ⟨v, rfl, hv, hbl⟩; have HQ := Lib.hid hv; clear hv))
      go_returns
      exact ⟨v, rfl, by rw [HQ.out]; simp [er], by (repeat' (first | (with_reducible exact Below.refl _ _) | (with_reducible assumption) | (with_reducible refine Below.setCell ?_ ?_ _) | (with_reducible refine Below.alloc ?_ ?_ _) | (with_reducible refine Below.drew ?_) | (with_reducible refine below_drewN ?_ _) | (with_reducible refine below_next ?_ (by with_reducible assumption)) | omega | (dsimp only; omega) | (simp only [World.size_alloc, World.size_setCell, World.size_drew, World.heap_drewN]; omega)))⟩
    · have hd2 : (d == d2) = false := by simpa using hd
      have hA1 := cell_alloc_if
      have hA2 := frozen_alloc_if
      have hA3 := cell_set_if
      go_enter Tryd.func29, Tryd.ntmps29
      go_wp2_with (first | (go_at_call 48; (with_reducible refine (HV1.out _ (by (repeat' (first | (with_reducible exact Below.refl _ _) | (with_reducible assumption) | (with_reducible refine Below.setCell ?_ ?_ _) | (with_reducible refine Below.alloc ?_ ?_ _) | (with_reducible refine Below.drew ?_) | (with_reducible refine below_drewN ?_ _) | (with_reducible refine below_next ?_ (by with_reducible assumption)) | omega | (dsimp only; omega) | (simp only [World.size_alloc, World.size_setCell, World.size_drew, World.heap_drewN]; omega))))).mono ?_); rintro e w' ⟨rfl, hbl⟩; obtain ⟨hc, hf, hz⟩ := cif hbl; (try simp only [World.size_alloc, World.size_setCell, World.size_drew, World.heap_drewN] at hz)) | (go_at_call 48; (with_reducible refine (HV2.out _ (by (repeat' (first | (with_reducible exact Below.refl _ _) | (with_reducible assumption) | (with_reducible refine Below.setCell ?_ ?_ _) | (with_reducible refine Below.alloc ?_ ?_ _) | (with_reducible refine Below.drew ?_) | (with_reducible refine below_drewN ?_ _) | (with_reducible refine below_next ?_ (by with_reducible assumption)) | omega | (dsimp only; omega) | (simp only [World.size_alloc, World.size_setCell, World.size_drew, World.heap_drewN]; omega))))).mono ?_); rintro e w' ⟨rfl, hbl⟩; obtain ⟨hc, hf, hz⟩ := cif hbl; (try simp only [World.size_alloc, World.size_setCell, World.size_drew, World.heap_drewN] at hz)))
      go_returns
      exact ⟨false, rfl, by simp [er, hd], by (repeat' (first | (with_reducible exact Below.refl _ _) | (with_reducible assumption) | (with_reducible refine Below.setCell ?_ ?_ _) | (with_reducible refine Below.alloc ?_ ?_ _) | (with_reducible refine Below.drew ?_) | (with_reducible refine below_drewN ?_ _) | (with_reducible refine below_next ?_ (by with_reducible assumption)) | omega | (dsimp only; omega) | (simp only [World.size_alloc, World.size_setCell, World.size_drew, World.heap_drewN]; omega)))⟩
  | false =>
    obtain ⟨k2, s2, l2, f2, n2, A2, m2, c2, vw, e2, hv2, hta⟩ := not_Array b hb hp
    have HNE := Lib.hid (arr_ne sv d t b hp)
    rw [tyV_of e2]
    have HV2 := Lib.hid hv2
    clear e0 e1 e2 r1 hv1 hv2 ha hb hp ih
    have hA1 := cell_alloc_if
    have hA2 := frozen_alloc_if
    have hA3 := cell_set_if
    go_enter Tryd.func29, Tryd.ntmps29
    go_wp2_with (first | (go_at_call 48; (with_reducible refine (HV1.out _ (by (repeat' (first | (with_reducible exact Below.refl _ _) | (with_reducible assumption) | (with_reducible refine Below.setCell ?_ ?_ _) | (with_reducible refine Below.alloc ?_ ?_ _) | (with_reducible refine Below.drew ?_) | (with_reducible refine below_drewN ?_ _) | (with_reducible refine below_next ?_ (by with_reducible assumption)) | omega | (dsimp only; omega) | (simp only [World.size_alloc, World.size_setCell, World.size_drew, World.heap_drewN]; omega))))).mono ?_); rintro e w' ⟨rfl, hbl⟩; obtain ⟨hc, hf, hz⟩ := cif hbl; (try simp only [World.size_alloc, World.size_setCell, World.size_drew, World.heap_drewN] at hz)) | (go_at_call 48; (with_reducible refine (HV2.out _ (by (repeat' (first | (with_reducible exact Below.refl _ _) | (with_reducible assumption) | (with_reducible refine Below.setCell ?_ ?_ _) | (with_reducible refine Below.alloc ?_ ?_ _) | (with_reducible refine Below.drew ?_) | (with_reducible refine below_drewN ?_ _) | (with_reducible refine below_next ?_ (by with_reducible assumption)) | omega | (dsimp only; omega) | (simp only [World.size_alloc, World.size_setCell, World.size_drew, World.heap_drewN]; omega))))).mono ?_); rintro e w' ⟨rfl, hbl⟩; obtain ⟨hc, hf, hz⟩ := cif hbl; (try simp only [World.size_alloc, World.size_setCell, World.size_drew, World.heap_drewN] at hz)))
    go_returns
    exact ⟨false, rfl, by simp [HNE.out], by (repeat' (first | (with_reducible exact Below.refl _ _) | (with_reducible assumption) | (with_reducible refine Below.setCell ?_ ?_ _) | (with_reducible refine Below.alloc ?_ ?_ _) | (with_reducible refine Below.drew ?_) | (with_reducible refine below_drewN ?_ _) | (with_reducible refine below_next ?_ (by with_reducible assumption)) | omega | (dsimp only; omega) | (simp only [World.size_alloc, World.size_setCell, World.size_drew, World.heap_drewN]; omega)))⟩

theorem ers_eq : ∀ (l1 l2 : List Ty), ers l1 = ers l2 ↔ l1.length = l2.length ∧ ∀ (i : Nat) (x y : Ty), l1[i]? = some x → l2[i]? = some y → er x = er y := by
  intro l1 l2
  rw [ers_map, ers_map]
  constructor
  · intro h
    refine ⟨by simpa using congrArg List.length h, fun i x y hx hy => ?_⟩
    have := congrArg (·[i]?) h
    simpa [hx, hy] using this
  · intro ⟨hl, h⟩
    apply List.ext_getElem (by simpa using hl)
    intro i h1 h2
    simp at h1 h2 ⊢
    exact h i _ _ (List.getElem?_eq_getElem h1) (List.getElem?_eq_getElem h2)
theorem ers_snoc {l1 l2 : List Ty} {k : Nat} {x y : Ty} (h : ∀ (i : Nat) (x y : Ty), i < k → l1[i]? = some x → l2[i]? = some y → er x = er y) (h1 : l1[k]? = some x) (h2 : l2[k]? = some y) (hs : er x = er y) :
    ∀ (i : Nat) (x y : Ty), i < k + 1 → l1[i]? = some x → l2[i]? = some y → er x = er y := by
  intro i a b hi ha hb
  by_cases c : i < k
  · exact h i a b c ha hb
  · have : i = k := by omega
    subst this
    rw [h1] at ha; rw [h2] at hb
    injection ha with ha; injection hb with hb
    subst ha hb
    exact hs
set_option maxRecDepth 100000 in
set_option maxHeartbeats 4000000 in
theorem equalTys_any (s1 s2 : Value) (l1 l2 : List Ty) (w : World) (h1 : RdL tyC 6 w s1 l1) (h2 : RdL tyC 6 w s2 l2) (g1 : RdTs w l1) (g2 : RdTs w l2) (ih : ∀ x ∈ l1, SameAt 29 x) :
    Calls Tryd.prog 65 #[s1, s2, .func (.func 29) #[] #[]] w (BoolP (ers l1 = ers l2) w) := by
  have m1 := h1.len
  have m2 := h2.len
  unfold maxLen at m1 m2
  have HE := Lib.hid (ers_eq l1 l2)
  by_cases hn : l1.length = l2.length
  · by_cases h0 : l1.length = 0
    · obtain ⟨A1, c1, rfl, _⟩ := h1.empty h0
      obtain ⟨A2, c2, rfl, _⟩ := h2.empty (by omega)
      have e : ers l1 = ers l2 := by rw [List.eq_nil_of_length_eq_zero h0, List.eq_nil_of_length_eq_zero (show l2.length = 0 by omega)]
      have HE := Lib.hid e
      clear e h1 h2 hn h0
      go_enter Tryd.func65, Tryd.ntmps65
      go_wp2
      go_loop [17] (fun i => i = .int .i64 0) (fun _ => 0)
      case atStart => rfl
      case round =>
        subst hrel
        go_wp2
        go_returns
        exact ⟨true, rfl, by simp [HE.out], Below.refl _ _⟩
    · obtain ⟨b1, o1, c1, rfl, _, _, hb1, hc1⟩ := h1.some_ (by omega)
      obtain ⟨b2, o2, c2, rfl, _, _, hb2, hc2⟩ := h2.some_ (by omega)
      rw [← hn]
      have HN := Lib.hid hn
      have H1 := Lib.hid hc1
      have H2 := Lib.hid hc2
      have K1 := Lib.hid g1
      have K2 := Lib.hid g2
      have IH := Lib.hid ih
      clear hn hc1 hc2 h1 h2 m2 g1 g2 ih
      have hA1 := cell_alloc_if
      have hA2 := frozen_alloc_if
      have hA3 := cell_set_if
      go_enter Tryd.func65, Tryd.ntmps65
      go_wp2
      go_loopw [17] (fun i wr => ∃ k : Nat, k ≤ l1.length ∧ i = .int .i64 k ∧ Ext w wr ∧ Hid (∀ (i : Nat) (x y : Ty), i < k → l1[i]? = some x → l2[i]? = some y → er x = er y)) (fun i _ => l1.length - (intOf i).toNat)
      case atStart => exact ⟨0, by omega, rfl, Below.refl _ _, fun i x y hi => absurd hi (by omega)⟩
      case round =>
        obtain ⟨k, hk, rfl, hX, HT⟩ := hrel
        by_cases hlt : k < l1.length
        · have hlt2 : k < l2.length := by rw [← HN.out]; exact hlt
          obtain ⟨x, e1⟩ : ∃ x, l1[k]? = some x := ⟨_, List.getElem?_eq_getElem hlt⟩
          obtain ⟨y, e2⟩ : ∃ y, l2[k]? = some y := ⟨_, List.getElem?_eq_getElem hlt2⟩
          have hXb := Ext.of hX
          have q1 := K1.out.mem x (List.mem_of_getElem? e1)
          have q2 := K2.out.mem y (List.mem_of_getElem? e2)
          obtain ⟨ka, sa, la, fa, na, Aa, ma, ca, ea⟩ := tyC_form x q1
          obtain ⟨kb, sb, lb, fb, nb, Ab, mb, cb, eb⟩ := tyC_form y q2
          obtain ⟨p1, p2, p3, p4, p5, p6⟩ := RdL.tyAt H1.out e1 ea
          obtain ⟨r1, r2, r3, r4, r5, r6⟩ := RdL.tyAt H2.out e2 eb
          have p1' := (hXb.cell (p := ⟨b1, _, none⟩) hb1).trans p1
          have p2' := (hXb.cell (p := ⟨b1, _, none⟩) hb1).trans p2
          have p3' := (hXb.cell (p := ⟨b1, _, none⟩) hb1).trans p3
          have p4' := (hXb.cell (p := ⟨b1, _, none⟩) hb1).trans p4
          have p5' := (hXb.cell (p := ⟨b1, _, none⟩) hb1).trans p5
          have p6' := (hXb.cell (p := ⟨b1, _, none⟩) hb1).trans p6
          have r1' := (hXb.cell (p := ⟨b2, _, none⟩) hb2).trans r1
          have r2' := (hXb.cell (p := ⟨b2, _, none⟩) hb2).trans r2
          have r3' := (hXb.cell (p := ⟨b2, _, none⟩) hb2).trans r3
          have r4' := (hXb.cell (p := ⟨b2, _, none⟩) hb2).trans r4
          have r5' := (hXb.cell (p := ⟨b2, _, none⟩) hb2).trans r5
          have r6' := (hXb.cell (p := ⟨b2, _, none⟩) hb2).trans r6
          have hwz := hXb.size
          have HI : Hid (∀ W, Below wr.heap.size wr W → Calls Tryd.prog 29 #[.agg #[.int .i64 ka, .int .i64 sa, .int .i64 la, .bool fa, .string na, .slice Aa ma ca], .agg #[.int .i64 kb, .int .i64 sb, .int .i64 lb, .bool fb, .string nb, .slice Ab mb cb]] W (BoolP (er x = er y) W)) := Lib.hid fun W hW => by
            have h := IH.out x (List.mem_of_getElem? e1) y W ((q1.next hXb).next hW) ((q2.next hXb).next hW)
            rw [tyV_of ea, tyV_of eb] at h
            exact h
          have E1 := Lib.hid e1
          have E2 := Lib.hid e2
          clear p1 p2 p3 p4 p5 p6 r1 r2 r3 r4 r5 r6 e1 e2 q1 q2 ea eb
          go_wp2_with (go_at_call 29; (with_reducible refine (HI.out _ (by (repeat' (first | (with_reducible exact Below.refl _ _) | (with_reducible assumption) | (with_reducible refine Below.setCell ?_ ?_ _) | (with_reducible refine Below.alloc ?_ ?_ _) | (with_reducible refine Below.drew ?_) | (with_reducible refine below_drewN ?_ _) | (with_reducible refine below_next ?_ (by with_reducible assumption)) | omega | (dsimp only; omega) | (simp only [World.size_alloc, World.size_setCell, World.size_drew, World.heap_drewN]; omega))))).mono ?_); rintro e w1 ⟨v, rfl, hv, hbl⟩; have HV := Lib.hid hv; clear hv; cases v)
          · go_returns
            refine ⟨false, rfl, ?_, by unfold Ext at *; (repeat' (first | (with_reducible exact Below.refl _ _) | (with_reducible assumption) | (with_reducible refine Below.setCell ?_ ?_ _) | (with_reducible refine Below.alloc ?_ ?_ _) | (with_reducible refine Below.drew ?_) | (with_reducible refine below_drewN ?_ _) | (with_reducible refine below_next ?_ (by with_reducible assumption)) | omega | (dsimp only; omega) | (simp only [World.size_alloc, World.size_setCell, World.size_drew, World.heap_drewN]; omega)))⟩
            have hv := HV.out
            simp at hv
            simp
            intro h
            exact hv ((HE.out.1 h).2 k _ _ E1.out E2.out)
          · go_roundw
            case rel => exact ⟨k + 1, by omega, by go_num, by unfold Ext at *; (repeat' (first | (with_reducible exact Below.refl _ _) | (with_reducible assumption) | (with_reducible refine Below.setCell ?_ ?_ _) | (with_reducible refine Below.alloc ?_ ?_ _) | (with_reducible refine Below.drew ?_) | (with_reducible refine below_drewN ?_ _) | (with_reducible refine below_next ?_ (by with_reducible assumption)) | omega | (dsimp only; omega) | (simp only [World.size_alloc, World.size_setCell, World.size_drew, World.heap_drewN]; omega))), ers_snoc HT.out E1.out E2.out (by simpa using HV.out)⟩
            case measure => simp [intOf]; omega
        · have hkn : k = l1.length := by omega
          subst hkn
          go_wp2
          go_returns
          refine ⟨true, rfl, ?_, by unfold Ext at *; (repeat' (first | (with_reducible exact Below.refl _ _) | (with_reducible assumption) | (with_reducible refine Below.setCell ?_ ?_ _) | (with_reducible refine Below.alloc ?_ ?_ _) | (with_reducible refine Below.drew ?_) | (with_reducible refine below_drewN ?_ _) | (with_reducible refine below_next ?_ (by with_reducible assumption)) | omega | (dsimp only; omega) | (simp only [World.size_alloc, World.size_setCell, World.size_drew, World.heap_drewN]; omega)))⟩
          have ht := HT.out
          have hn := HN.out
          simp
          refine HE.out.2 ⟨hn, fun i x y hx hy => ht i x y ?_ hx hy⟩
          rcases Nat.lt_or_ge i l1.length with h1 | h1
          · exact h1
          · rw [List.getElem?_eq_none h1] at hx; cases hx
  · obtain ⟨A1, c1, rfl⟩ := h1.form
    obtain ⟨A2, c2, rfl⟩ := h2.form
    clear h1 h2
    have hne : ¬ ers l1 = ers l2 := fun h => hn (HE.out.1 h).1
    have HE := Lib.hid hne
    have hd : (((l1.length : Nat) : Int) != ((l2.length : Nat) : Int)) = true := by rw [bne_iff_ne]; omega
    clear hne hn
    go_enter Tryd.func65, Tryd.ntmps65
    go_wp2
    go_returns
    exact ⟨false, rfl, by simp [HE.out], Below.refl _ _⟩

set_option maxRecDepth 100000 in
set_option maxHeartbeats 2000000 in
theorem same_fn (sv : Value) (r : Ty) (ps : List Ty) (b : Ty) (w : World) (ha : RdT w (.fn sv r ps)) (hb : RdT w b) (ih : SameAt 29 r) (ihs : ∀ x ∈ ps, SameAt 29 x) : Calls Tryd.prog 29 #[tyV (.fn sv r ps), tyV b] w (BoolP (er (.fn sv r ps) = er b) w) := by
  obtain ⟨k, s, l, f, n, A, m, c, k1, s1, l1, f1, n1, A1, m1, c1, A3, m3, c3, e0, e1, r1, rs1, q1, hv1⟩ := fn_view sv r ps ha
  rw [tyV_of e0]
  have HV1 := Lib.hid hv1
  cases hp : isFn b with
  | true =>
    cases b <;> first | cases hp | skip
    rename_i sv2 t2 ps2
    obtain ⟨k', s', l', f', n', A', m', c', k2, s2, l2, f2, n2, A2, m2, c2, A4, m4, c4, e2, e3, r2, rs2, q2, hv2⟩ := fn_view sv2 t2 ps2 hb
    rw [tyV_of e2]
    have HV2 := Lib.hid hv2
    have HI : Hid (∀ W, Below w.heap.size w W → Calls Tryd.prog 29 #[.agg #[.int .i64 k1, .int .i64 s1, .int .i64 l1, .bool f1, .string n1, .slice A1 m1 c1], .agg #[.int .i64 k2, .int .i64 s2, .int .i64 l2, .bool f2, .string n2, .slice A2 m2 c2]] W (BoolP (er r = er t2) W)) := Lib.hid fun W hW => by
      have h := ih t2 W (r1.next hW) (r2.next hW)
      rw [tyV_of e1, tyV_of e3] at h
      exact h
    have HF : Hid (∀ W, Below w.heap.size w W → Calls Tryd.prog 65 #[.slice A3 m3 c3, .slice A4 m4 c4, .func (.func 29) #[] #[]] W (BoolP (ers ps = ers ps2) W)) := Lib.hid fun W hW =>
      equalTys_any _ _ ps ps2 W (q1.next hW) (q2.next hW) (rs1.next hW) (rs2.next hW) ihs
    clear e0 e1 e2 e3 r1 r2 hv1 hv2 ha hb ih ihs rs1 rs2 q1 q2
    have hA1 := cell_alloc_if
    have hA2 := frozen_alloc_if
    have hA3 := cell_set_if
    go_enter Tryd.func29, Tryd.ntmps29
    go_wp2_with (first
      | (go_at_call 48; (with_reducible refine (HV1.out _ (by (repeat' (first | (with_reducible exact Below.refl _ _) | (with_reducible assumption) | (with_reducible refine Below.setCell ?_ ?_ _) | (with_reducible refine Below.alloc ?_ ?_ _) | (with_reducible refine Below.drew ?_) | (with_reducible refine below_drewN ?_ _) | (with_reducible refine below_next ?_ (by with_reducible assumption)) | omega | (dsimp only; omega) | (simp only [World.size_alloc, World.size_setCell, World.size_drew, World.heap_drewN]; omega))))).mono ?_); rintro e w' ⟨rfl, hbl⟩; obtain ⟨hc, hf, hz⟩ := cif hbl; (try simp only [World.size_alloc, World.size_setCell, World.size_drew, World.heap_drewN] at hz)) | (go_at_call 48; (with_reducible refine (HV2.out _ (by (repeat' (first | (with_reducible exact Below.refl _ _) | (with_reducible assumption) | (with_reducible refine Below.setCell ?_ ?_ _) | (with_reducible refine Below.alloc ?_ ?_ _) | (with_reducible refine Below.drew ?_) | (with_reducible refine below_drewN ?_ _) | (with_reducible refine below_next ?_ (by with_reducible assumption)) | omega | (dsimp only; omega) | (simp only [World.size_alloc, World.size_setCell, World.size_drew, World.heap_drewN]; omega))))).mono ?_); rintro e w' ⟨rfl, hbl⟩; obtain ⟨hc, hf, hz⟩ := cif hbl; (try simp only [World.size_alloc, World.size_setCell, World.size_drew, World.heap_drewN] at hz))
      | (go_at_call 29; (with_reducible refine (HI.out _ (by (repeat' (first | (with_reducible exact Below.refl _ _) | (with_reducible assumption) | (with_reducible refine Below.setCell ?_ ?_ _) | (with_reducible refine Below.alloc ?_ ?_ _) | (with_reducible refine Below.drew ?_) | (with_reducible refine below_drewN ?_ _) | (with_reducible refine below_next ?_ (by with_reducible assumption)) | omega | (dsimp only; omega) | (simp only [World.size_alloc, World.size_setCell, World.size_drew, World.heap_drewN]; omega))))).mono ?_); rintro e w' ⟨v, rfl, hv, hbl⟩; have HQ := Lib.hid hv; clear hv; obtain ⟨hc, hf, hz⟩ := cif hbl; (try simp only [World.size_alloc, World.size_setCell, World.size_drew, World.heap_drewN] at hz); cases v)
      | (go_at_call 65; (with_reducible refine (HF.out _ (by (repeat' (first | (with_reducible exact Below.refl _ _) | (with_reducible assumption) | (with_reducible refine Below.setCell ?_ ?_ _) | (with_reducible refine Below.alloc ?_ ?_ _) | (with_reducible refine Below.drew ?_) | (with_reducible refine below_drewN ?_ _) | (with_reducible refine below_next ?_ (by with_reducible assumption)) | omega | (dsimp only; omega) | (simp only [World.size_alloc, World.size_setCell, World.size_drew, World.heap_drewN]; omega))))).mono ?_); rintro e w' ⟨v2, rfl, hv2, hbl2⟩; have HQ2 := Lib.hid hv2; clear hv2))
    · go_returns
      exact ⟨false, rfl, by have := HQ.out; simp at this; simp [er, this], by (repeat' (first | (with_reducible exact Below.refl _ _) | (with_reducible assumption) | (with_reducible refine Below.setCell ?_ ?_ _) | (with_reducible refine Below.alloc ?_ ?_ _) | (with_reducible refine Below.drew ?_) | (with_reducible refine below_drewN ?_ _) | (with_reducible refine below_next ?_ (by with_reducible assumption)) | omega | (dsimp only; omega) | (simp only [World.size_alloc, World.size_setCell, World.size_drew, World.heap_drewN]; omega)))⟩
    · go_returns
      exact ⟨v2, rfl, by have := HQ.out; simp at this; rw [HQ2.out]; simp [er, this], by (repeat' (first | (with_reducible exact Below.refl _ _) | (with_reducible assumption) | (with_reducible refine Below.setCell ?_ ?_ _) | (with_reducible refine Below.alloc ?_ ?_ _) | (with_reducible refine Below.drew ?_) | (with_reducible refine below_drewN ?_ _) | (with_reducible refine below_next ?_ (by with_reducible assumption)) | omega | (dsimp only; omega) | (simp only [World.size_alloc, World.size_setCell, World.size_drew, World.heap_drewN]; omega)))⟩
  | false =>
    obtain ⟨k2, s2, l2, f2, n2, A2, m2, c2, vw, e2, hv2, hta⟩ := not_Function b hb hp
    have HNE := Lib.hid (fn_ne sv r ps b hp)
    rw [tyV_of e2]
    have HV2 := Lib.hid hv2
    clear e0 e1 e2 r1 hv1 hv2 ha hb hp ih ihs rs1 q1
    have hA1 := cell_alloc_if
    have hA2 := frozen_alloc_if
    have hA3 := cell_set_if
    go_enter Tryd.func29, Tryd.ntmps29
    go_wp2_with (first | (go_at_call 48; (with_reducible refine (HV1.out _ (by (repeat' (first | (with_reducible exact Below.refl _ _) | (with_reducible assumption) | (with_reducible refine Below.setCell ?_ ?_ _) | (with_reducible refine Below.alloc ?_ ?_ _) | (with_reducible refine Below.drew ?_) | (with_reducible refine below_drewN ?_ _) | (with_reducible refine below_next ?_ (by with_reducible assumption)) | omega | (dsimp only; omega) | (simp only [World.size_alloc, World.size_setCell, World.size_drew, World.heap_drewN]; omega))))).mono ?_); rintro e w' ⟨rfl, hbl⟩; obtain ⟨hc, hf, hz⟩ := cif hbl; (try simp only [World.size_alloc, World.size_setCell, World.size_drew, World.heap_drewN] at hz)) | (go_at_call 48; (with_reducible refine (HV2.out _ (by (repeat' (first | (with_reducible exact Below.refl _ _) | (with_reducible assumption) | (with_reducible refine Below.setCell ?_ ?_ _) | (with_reducible refine Below.alloc ?_ ?_ _) | (with_reducible refine Below.drew ?_) | (with_reducible refine below_drewN ?_ _) | (with_reducible refine below_next ?_ (by with_reducible assumption)) | omega | (dsimp only; omega) | (simp only [World.size_alloc, World.size_setCell, World.size_drew, World.heap_drewN]; omega))))).mono ?_); rintro e w' ⟨rfl, hbl⟩; obtain ⟨hc, hf, hz⟩ := cif hbl; (try simp only [World.size_alloc, World.size_setCell, World.size_drew, World.heap_drewN] at hz)))
    go_returns
    exact ⟨false, rfl, by simp [HNE.out], by (repeat' (first | (with_reducible exact Below.refl _ _) | (with_reducible assumption) | (with_reducible refine Below.setCell ?_ ?_ _) | (with_reducible refine Below.alloc ?_ ?_ _) | (with_reducible refine Below.drew ?_) | (with_reducible refine below_drewN ?_ _) | (with_reducible refine below_next ?_ (by with_reducible assumption)) | omega | (dsimp only; omega) | (simp only [World.size_alloc, World.size_setCell, World.size_drew, World.heap_drewN]; omega)))⟩

mutual
theorem same_any : ∀ (a : Ty), SameAt 29 a
  | .none => fun b w ha hb => same_plain _ b w ha hb rfl
  | .void => fun b w ha hb => same_plain _ b w ha hb rfl
  | .flt => fun b w ha hb => same_plain _ b w ha hb rfl
  | .num s u => fun b w ha hb => same_plain _ b w ha hb rfl
  | .rcd u n => fun b w ha hb => same_plain _ b w ha hb rfl
  | .ptr sv t => fun b w ha hb => same_ptr sv t b w ha hb (same_any t)
  | .arr sv d t => fun b w ha hb => same_arr sv d t b w ha hb (same_any t)
  | .fn sv r ps => fun b w ha hb => same_fn sv r ps b w ha hb (same_any r) (same_all ps)
theorem same_all : ∀ (l : List Ty), ∀ x ∈ l, SameAt 29 x
  | [], x, hx => by simp at hx
  | t :: l, x, hx => by
    rcases List.mem_cons.1 hx with h | h
    · rw [h]; exact same_any t
    · exact same_all l x h
end

end Go.Proofs.YteeojgepgjndgaaDoor
