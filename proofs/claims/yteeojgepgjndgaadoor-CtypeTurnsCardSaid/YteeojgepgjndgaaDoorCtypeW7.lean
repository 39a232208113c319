/-
  A conversion's operations: both answer the same.
-/
import Derived.Test.YteeojgepgjndgaaDoorCtypeW6
namespace Go.Proofs.YteeojgepgjndgaaDoor
open Go.RowKit
set_option linter.unusedVariables false
set_option linter.unusedSimpArgs false
attribute [local go_sem] ta_nil_Void ta_yes_Void ta_no_Number_Void ta_no_Float_Void ta_no_Record_Void ta_no_Pointer_Void ta_no_Array_Void ta_no_Function_Void ta_nil_Number ta_yes_Number ta_no_Void_Number ta_no_Float_Number ta_no_Record_Number ta_no_Pointer_Number ta_no_Array_Number ta_no_Function_Number ta_nil_Float ta_yes_Float ta_no_Void_Float ta_no_Number_Float ta_no_Record_Float ta_no_Pointer_Float ta_no_Array_Float ta_no_Function_Float ta_nil_Record ta_yes_Record ta_no_Void_Record ta_no_Number_Record ta_no_Float_Record ta_no_Pointer_Record ta_no_Array_Record ta_no_Function_Record ta_nil_Pointer ta_yes_Pointer ta_no_Void_Pointer ta_no_Number_Pointer ta_no_Float_Pointer ta_no_Record_Pointer ta_no_Array_Pointer ta_no_Function_Pointer ta_nil_Array ta_yes_Array ta_no_Void_Array ta_no_Number_Array ta_no_Float_Array ta_no_Record_Array ta_no_Pointer_Array ta_no_Function_Array ta_nil_Function ta_yes_Function ta_no_Void_Function ta_no_Number_Function ta_no_Float_Function ta_no_Record_Function ta_no_Pointer_Function ta_no_Array_Function
/-- Operations, and whether there are any. -/
def OpsP (r : List Int × Bool) (w : World) (e : Ending) (w' : World) : Prop := ∃ A c, e = .returned (.tuple #[.slice A r.1.length c, .bool r.2]) ∧ RdL intC 1 w' (.slice A r.1.length c) r.1 ∧ Below w.heap.size w w'
theorem ops_none {w w' : World} (b : Bool) (hb : Below w.heap.size w w') : OpsP ([], b) w (.returned (.tuple #[.slice none 0 0, .bool b])) w' := ⟨_, _, rfl, RdL.nil _ _ _, hb⟩
theorem ops_some {w w' : World} {A : Option Addr} {n c : Nat} {l : List Int} {b : Bool} (h : RdL intC 1 w' (.slice A n c) l) (hb : Below w.heap.size w w') : OpsP (l, b) w (.returned (.tuple #[.slice A n c, .bool b])) w' := by
  obtain ⟨A1, c1, e, h1⟩ := id h
  injection e with e1 e2 e3
  subst e1 e2 e3
  exact ⟨_, _, rfl, h, hb⟩

theorem ty_ops {w : World} (t : Ty) (h : RdT w t) : ∃ (k s l : Int) (f : Bool) (n : ByteArray) (A : Option Addr) (m c : Nat) (vw : Value) (k' s' l' : Int) (f' : Bool) (n' : ByteArray) (A' : Option Addr) (m' c' : Nat), tyC t = [.int .i64 k, .int .i64 s, .int .i64 l, .bool f, .string n, .slice A m c] ∧
    (∀ W, Below w.heap.size w W → Calls Tryd.prog 48 #[.agg #[.int .i64 k, .int .i64 s, .int .i64 l, .bool f, .string n, .slice A m c]] W fun e w' => e = .returned vw ∧ Below W.heap.size W w') ∧
    (∀ w, (Instr.typeAssert vw 20 75 true).run Tryd.prog w = .ok (.tuple #[.agg #[], .bool (isF t)]) w) ∧
    (∀ w, (Instr.typeAssert vw 20 81 true).run Tryd.prog w = .ok (.tuple #[.agg #[.int .i64 k', .int .i64 s', .int .i64 l', .bool f', .string n', .slice A' m' c'], .bool (isP t)]) w) ∧ (k == 4) = isP t := by
  obtain ⟨k, s, l, f, n, A, m, c, vw, e0, hv, hcase⟩ := ty_view t h
  rcases hcase with ⟨rfl, rfl, rfl⟩ | ⟨rfl, rfl, rfl⟩ | ⟨rfl, rfl, rfl⟩ | ⟨rfl, rfl, rfl⟩ | ⟨rfl, rfl, rfl⟩ | ⟨t1, k1, s1, l1, f1, n1, A1, m1, c1, e1, r1, q1, rfl, rfl, rfl⟩ | ⟨t1, k1, s1, l1, f1, n1, A1, m1, c1, e1, r1, q1, rfl, rfl, rfl⟩ | ⟨t1, ps, k1, s1, l1, f1, n1, A1, m1, c1, A2, m2, c2, e1, r1, q1, rps, q2, rfl, rfl, rfl⟩
  · exact ⟨_, s, l, f, n, A, m, c, _, _, _, _, _, _, _, _, _, e0, hv, ta_nil_Float, ta_nil_Pointer, rfl⟩
  · exact ⟨_, s, l, f, n, A, m, c, _, _, _, _, _, _, _, _, _, e0, hv, (ta_no_Void_Float _), (ta_no_Void_Pointer _), rfl⟩
  · exact ⟨_, s, l, f, n, A, m, c, _, _, _, _, _, _, _, _, _, e0, hv, (ta_no_Number_Float _), (ta_no_Number_Pointer _), rfl⟩
  · exact ⟨_, s, l, f, n, A, m, c, _, _, _, _, _, _, _, _, _, e0, hv, (ta_yes_Float _), (ta_no_Float_Pointer _), rfl⟩
  · exact ⟨_, s, l, f, n, A, m, c, _, _, _, _, _, _, _, _, _, e0, hv, (ta_no_Record_Float _), (ta_no_Record_Pointer _), rfl⟩
  · exact ⟨_, s, l, f, n, A, m, c, _, _, _, _, _, _, _, _, _, e0, hv, (ta_no_Pointer_Float _), (ta_yes_Pointer _), rfl⟩
  · exact ⟨_, s, l, f, n, A, m, c, _, _, _, _, _, _, _, _, _, e0, hv, (ta_no_Array_Float _), (ta_no_Array_Pointer _), rfl⟩
  · exact ⟨_, s, l, f, n, A, m, c, _, _, _, _, _, _, _, _, _, e0, hv, (ta_no_Function_Float _), (ta_no_Function_Pointer _), rfl⟩

/-- A pointer, a double, a number, or none of these. -/
theorem cls (t : Ty) : (isP t = true ∧ isF t = false ∧ okN t = false) ∨ (isP t = false ∧ isF t = true ∧ okN t = false) ∨ (isP t = false ∧ isF t = false ∧ okN t = true) ∨ (isP t = false ∧ isF t = false ∧ okN t = false) := by
  cases t <;> simp [isP, isF, okN, numOf]
def opsR (p q f g ok is : Bool) (s : Int) (u : Bool) (r : Int) (v : Bool) : List Int × Bool :=
  if (p && q) || (f && g) then ([], true) else if f && is then (fromF r v, true) else if g && ok then (toF s u, true) else if ok && is then (numsOp s u r v, true) else ([], false)
theorem numOf_eq (t : Ty) : numOf t = if okN t then some (wholeN t) else none := by
  unfold okN
  cases hx : numOf t with
  | none => rfl
  | some p =>
    cases t <;> simp [numOf] at hx
    simp [wholeN, hx.2]
theorem ops_R (a b : Ty) : opsT a b = opsR (isP a) (isP b) (isF a) (isF b) (okN a) (okN b) (wholeN a).1 (wholeN a).2 (wholeN b).1 (wholeN b).2 := by
  unfold opsT opsR
  rw [numOf_eq a, numOf_eq b]
  rcases cls a with ⟨h1, h2, h3⟩ | ⟨h1, h2, h3⟩ | ⟨h1, h2, h3⟩ | ⟨h1, h2, h3⟩ <;> rcases cls b with ⟨g1, g2, g3⟩ | ⟨g1, g2, g3⟩ | ⟨g1, g2, g3⟩ | ⟨g1, g2, g3⟩ <;> simp [h1, h2, h3, g1, g2, g3]

set_option maxRecDepth 100000 in
set_option maxHeartbeats 16000000 in
theorem ops_any (a b : Ty) (w : World) (ha : RdT w a) (hb : RdT w b) : Calls Tryd.prog 32 #[tyV a, tyV b] w (OpsP (opsT a b) w) := by
  obtain ⟨k1, s1, l1, f1, n1, A1, m1, c1, vw1, k3, s3, l3, f3, n3, A3, m3, c3, e1, hv1, ht1, hp1, _⟩ := ty_ops a ha
  obtain ⟨k2, s2, l2, f2, n2, A2, m2, c2, vw2, k4, s4, l4, f4, n4, A4, m4, c4, e2, hv2, ht2, hp2, _⟩ := ty_ops b hb
  have hw1 := fun W (hW : Below w.heap.size w W) => whole_any a W (ha.next hW)
  have hw2 := fun W (hW : Below w.heap.size w W) => whole_any b W (hb.next hW)
  rw [ops_R]
  rw [tyV_of e1] at hw1
  rw [tyV_of e2] at hw2
  rw [tyV_of e1, tyV_of e2]
  have HV1 := Lib.hid hv1
  have HV2 := Lib.hid hv2
  have ca := cls a
  have cb := cls b
  generalize isF a = fa at *
  generalize isF b = fb at *
  generalize isP a = pa at *
  generalize isP b = pb at *
  generalize okN a = oa at *
  generalize okN b = ob at *
  generalize (wholeN a).1 = s at *
  generalize (wholeN a).2 = u at *
  generalize (wholeN b).1 = r at *
  generalize (wholeN b).2 = v at *
  have HW1 := Lib.hid hw1
  have HW2 := Lib.hid hw2
  clear hv1 hv2 hw1 hw2 e1 e2 ha hb
  rcases ca with ⟨rfl, rfl, rfl⟩ | ⟨rfl, rfl, rfl⟩ | ⟨rfl, rfl, rfl⟩ | ⟨rfl, rfl, rfl⟩ <;> rcases cb with ⟨rfl, rfl, rfl⟩ | ⟨rfl, rfl, rfl⟩ | ⟨rfl, rfl, rfl⟩ | ⟨rfl, rfl, rfl⟩
  all_goals (
    simp only [opsR, Bool.and_true, Bool.and_false, Bool.true_and, Bool.false_and, Bool.or_false, Bool.or_true, Bool.false_eq_true, if_true, if_false]
    as_aux_lemma =>
    have hA1 := cell_alloc_if
    have hA2 := frozen_alloc_if
    have hA3 := cell_set_if
    go_enter Tryd.func32, Tryd.ntmps32
    go_wp2_with (first
      | (go_at_call 48; (with_reducible refine (HV1.out _ (by (repeat' (first | (with_reducible exact Below.refl _ _) | (with_reducible assumption) | (with_reducible refine Below.setCell ?_ ?_ _) | (with_reducible refine Below.alloc ?_ ?_ _) | (with_reducible refine Below.drew ?_) | (with_reducible refine below_drewN ?_ _) | (with_reducible refine below_next ?_ (by with_reducible assumption)) | omega | (dsimp only; omega) | (simp only [World.size_alloc, World.size_setCell, World.size_drew, World.heap_drewN]; omega))))).mono ?_); rintro e w' ⟨rfl, hbl⟩; obtain ⟨hc, hf, hz⟩ := cif hbl; (try simp only [World.size_alloc, World.size_setCell, World.size_drew, World.heap_drewN] at hz))
      | (go_at_call 48; (with_reducible refine (HV2.out _ (by (repeat' (first | (with_reducible exact Below.refl _ _) | (with_reducible assumption) | (with_reducible refine Below.setCell ?_ ?_ _) | (with_reducible refine Below.alloc ?_ ?_ _) | (with_reducible refine Below.drew ?_) | (with_reducible refine below_drewN ?_ _) | (with_reducible refine below_next ?_ (by with_reducible assumption)) | omega | (dsimp only; omega) | (simp only [World.size_alloc, World.size_setCell, World.size_drew, World.heap_drewN]; omega))))).mono ?_); rintro e w' ⟨rfl, hbl⟩; obtain ⟨hc, hf, hz⟩ := cif hbl; (try simp only [World.size_alloc, World.size_setCell, World.size_drew, World.heap_drewN] at hz))
      | (go_at_call 49; (with_reducible refine (HW1.out _ (by (repeat' (first | (with_reducible exact Below.refl _ _) | (with_reducible assumption) | (with_reducible refine Below.setCell ?_ ?_ _) | (with_reducible refine Below.alloc ?_ ?_ _) | (with_reducible refine Below.drew ?_) | (with_reducible refine below_drewN ?_ _) | (with_reducible refine below_next ?_ (by with_reducible assumption)) | omega | (dsimp only; omega) | (simp only [World.size_alloc, World.size_setCell, World.size_drew, World.heap_drewN]; omega))))).mono ?_); rintro e w' ⟨rfl, hbl⟩; obtain ⟨hc, hf, hz⟩ := cif hbl; (try simp only [World.size_alloc, World.size_setCell, World.size_drew, World.heap_drewN] at hz))
      | (go_at_call 49; (with_reducible refine (HW2.out _ (by (repeat' (first | (with_reducible exact Below.refl _ _) | (with_reducible assumption) | (with_reducible refine Below.setCell ?_ ?_ _) | (with_reducible refine Below.alloc ?_ ?_ _) | (with_reducible refine Below.drew ?_) | (with_reducible refine below_drewN ?_ _) | (with_reducible refine below_next ?_ (by with_reducible assumption)) | omega | (dsimp only; omega) | (simp only [World.size_alloc, World.size_setCell, World.size_drew, World.heap_drewN]; omega))))).mono ?_); rintro e w' ⟨rfl, hbl⟩; obtain ⟨hc, hf, hz⟩ := cif hbl; (try simp only [World.size_alloc, World.size_setCell, World.size_drew, World.heap_drewN] at hz))
      | (go_at_call 68; (with_reducible refine (fromFloat_any _ _ _).mono ?_); rintro e w' ⟨A7, c7, rfl, hrd, hbl⟩; have HRD := Lib.hid hrd; clear hrd; obtain ⟨hc, hf, hz⟩ := cif hbl; (try simp only [World.size_alloc, World.size_setCell, World.size_drew, World.heap_drewN] at hz))
      | (go_at_call 69; (with_reducible refine (toFloat_any _ _ _).mono ?_); rintro e w' ⟨A7, c7, rfl, hrd, hbl⟩; have HRD := Lib.hid hrd; clear hrd; obtain ⟨hc, hf, hz⟩ := cif hbl; (try simp only [World.size_alloc, World.size_setCell, World.size_drew, World.heap_drewN] at hz))
      | (go_at_call 70; (with_reducible refine (numbers_any _ _ _ _ _).mono ?_); rintro e w' ⟨A7, c7, rfl, hrd, hbl⟩; have HRD := Lib.hid hrd; clear hrd; obtain ⟨hc, hf, hz⟩ := cif hbl; (try simp only [World.size_alloc, World.size_setCell, World.size_drew, World.heap_drewN] at hz)))
    all_goals (go_returns; first | exact ops_none _ (by (repeat' (first | (with_reducible exact Below.refl _ _) | (with_reducible assumption) | (with_reducible refine Below.setCell ?_ ?_ _) | (with_reducible refine Below.alloc ?_ ?_ _) | (with_reducible refine Below.drew ?_) | (with_reducible refine below_drewN ?_ _) | (with_reducible refine below_next ?_ (by with_reducible assumption)) | omega | (dsimp only; omega) | (simp only [World.size_alloc, World.size_setCell, World.size_drew, World.heap_drewN]; omega)))) | exact ops_some HRD.out (by (repeat' (first | (with_reducible exact Below.refl _ _) | (with_reducible assumption) | (with_reducible refine Below.setCell ?_ ?_ _) | (with_reducible refine Below.alloc ?_ ?_ _) | (with_reducible refine Below.drew ?_) | (with_reducible refine below_drewN ?_ _) | (with_reducible refine below_next ?_ (by with_reducible assumption)) | omega | (dsimp only; omega) | (simp only [World.size_alloc, World.size_setCell, World.size_drew, World.heap_drewN]; omega))))))

section
variable {k1 s1 l1 : Int} {f1 : Bool} {n1 : ByteArray} {A1 : Option Addr} {m1 c1 : Nat} {k2 s2 l2 : Int} {f2 : Bool} {n2 : ByteArray} {A2 : Option Addr} {m2 c2 : Nat}
def Arith (w : World) (v : Value) (s : Int) (u f ok : Bool) : Prop := ∀ W, Below w.heap.size w W → Calls Tryd.prog 67 #[v] W fun e w' => e = .returned (.tuple #[.agg #[.int .i64 s, .bool u], .bool f, .bool ok]) ∧ Below W.heap.size W w'
set_option maxRecDepth 100000 in
set_option maxHeartbeats 4000000 in
theorem rops_FN (s : Int) (u : Bool) (r : Int) (v : Bool) (w : World) (h1 : (k1 == 4) = false) (h2 : (k2 == 4) = false)
    (a1 : Arith w (.agg #[.int .i64 k1, .int .i64 s1, .int .i64 l1, .bool f1, .string n1, .slice A1 m1 c1]) s u true true) (a2 : Arith w (.agg #[.int .i64 k2, .int .i64 s2, .int .i64 l2, .bool f2, .string n2, .slice A2 m2 c2]) r v false true) :
    Calls Tryd.prog 33 #[.agg #[.int .i64 k1, .int .i64 s1, .int .i64 l1, .bool f1, .string n1, .slice A1 m1 c1], .agg #[.int .i64 k2, .int .i64 s2, .int .i64 l2, .bool f2, .string n2, .slice A2 m2 c2]] w (OpsP (fromF r v, true) w) := by
  obtain ⟨i0, hi0, hz0, hz1, hz2⟩ := info_parts int_info
  unfold Arith at a1 a2
  have HW1 := Lib.hid a1
  have HW2 := Lib.hid a2
  clear a1 a2
  by_cases h8 : r = 8
  · subst h8
    have hA1 := cell_alloc_if
    have hA2 := frozen_alloc_if
    have hA3 := cell_set_if
    go_enter Tryd.func33, Tryd.ntmps33
    go_wp2_with (first | (go_at_call 67; (with_reducible refine (HW1.out _ (by (repeat' (first | (with_reducible exact Below.refl _ _) | (with_reducible assumption) | (with_reducible refine Below.setCell ?_ ?_ _) | (with_reducible refine Below.alloc ?_ ?_ _) | (with_reducible refine Below.drew ?_) | (with_reducible refine below_drewN ?_ _) | (with_reducible refine below_next ?_ (by with_reducible assumption)) | omega | (dsimp only; omega) | (simp only [World.size_alloc, World.size_setCell, World.size_drew, World.heap_drewN]; omega))))).mono ?_); rintro e w' ⟨rfl, hbl⟩; obtain ⟨hc, hf, hz⟩ := cif hbl; (try simp only [World.size_alloc, World.size_setCell, World.size_drew, World.heap_drewN] at hz)) | (go_at_call 67; (with_reducible refine (HW2.out _ (by (repeat' (first | (with_reducible exact Below.refl _ _) | (with_reducible assumption) | (with_reducible refine Below.setCell ?_ ?_ _) | (with_reducible refine Below.alloc ?_ ?_ _) | (with_reducible refine Below.drew ?_) | (with_reducible refine below_drewN ?_ _) | (with_reducible refine below_next ?_ (by with_reducible assumption)) | omega | (dsimp only; omega) | (simp only [World.size_alloc, World.size_setCell, World.size_drew, World.heap_drewN]; omega))))).mono ?_); rintro e w' ⟨rfl, hbl⟩; obtain ⟨hc, hf, hz⟩ := cif hbl; (try simp only [World.size_alloc, World.size_setCell, World.size_drew, World.heap_drewN] at hz)) | (go_at_call 71; (with_reducible refine (sign_any _ _ _ _ _).mono ?_); rintro e w' ⟨A7, c7, rfl, hrd, hbl⟩; have HRD := Lib.hid hrd; clear hrd; obtain ⟨hc, hf, hz⟩ := cif hbl; (try simp only [World.size_alloc, World.size_setCell, World.size_drew, World.heap_drewN] at hz)) | (go_at_call 72; (with_reducible refine (small_any _ _ _).mono ?_); rintro e w' ⟨A7, c7, rfl, hrd, hbl⟩; have HRD := Lib.hid hrd; clear hrd; obtain ⟨hc, hf, hz⟩ := cif hbl; (try simp only [World.size_alloc, World.size_setCell, World.size_drew, World.heap_drewN] at hz)))
    all_goals (go_returns; exact ops_some HRD.out (by (repeat' (first | (with_reducible exact Below.refl _ _) | (with_reducible assumption) | (with_reducible refine Below.setCell ?_ ?_ _) | (with_reducible refine Below.alloc ?_ ?_ _) | (with_reducible refine Below.drew ?_) | (with_reducible refine below_drewN ?_ _) | (with_reducible refine below_next ?_ (by with_reducible assumption)) | omega | (dsimp only; omega) | (simp only [World.size_alloc, World.size_setCell, World.size_drew, World.heap_drewN]; omega)))))
  · have d8 : (r == 8) = false := by simpa using h8
    by_cases h4 : r = 4
    · subst h4
      have hA1 := cell_alloc_if
      have hA2 := frozen_alloc_if
      have hA3 := cell_set_if
      go_enter Tryd.func33, Tryd.ntmps33
      go_wp2_with (first | (go_at_call 67; (with_reducible refine (HW1.out _ (by (repeat' (first | (with_reducible exact Below.refl _ _) | (with_reducible assumption) | (with_reducible refine Below.setCell ?_ ?_ _) | (with_reducible refine Below.alloc ?_ ?_ _) | (with_reducible refine Below.drew ?_) | (with_reducible refine below_drewN ?_ _) | (with_reducible refine below_next ?_ (by with_reducible assumption)) | omega | (dsimp only; omega) | (simp only [World.size_alloc, World.size_setCell, World.size_drew, World.heap_drewN]; omega))))).mono ?_); rintro e w' ⟨rfl, hbl⟩; obtain ⟨hc, hf, hz⟩ := cif hbl; (try simp only [World.size_alloc, World.size_setCell, World.size_drew, World.heap_drewN] at hz)) | (go_at_call 67; (with_reducible refine (HW2.out _ (by (repeat' (first | (with_reducible exact Below.refl _ _) | (with_reducible assumption) | (with_reducible refine Below.setCell ?_ ?_ _) | (with_reducible refine Below.alloc ?_ ?_ _) | (with_reducible refine Below.drew ?_) | (with_reducible refine below_drewN ?_ _) | (with_reducible refine below_next ?_ (by with_reducible assumption)) | omega | (dsimp only; omega) | (simp only [World.size_alloc, World.size_setCell, World.size_drew, World.heap_drewN]; omega))))).mono ?_); rintro e w' ⟨rfl, hbl⟩; obtain ⟨hc, hf, hz⟩ := cif hbl; (try simp only [World.size_alloc, World.size_setCell, World.size_drew, World.heap_drewN] at hz)) | (go_at_call 71; (with_reducible refine (sign_any _ _ _ _ _).mono ?_); rintro e w' ⟨A7, c7, rfl, hrd, hbl⟩; have HRD := Lib.hid hrd; clear hrd; obtain ⟨hc, hf, hz⟩ := cif hbl; (try simp only [World.size_alloc, World.size_setCell, World.size_drew, World.heap_drewN] at hz)) | (go_at_call 72; (with_reducible refine (small_any _ _ _).mono ?_); rintro e w' ⟨A7, c7, rfl, hrd, hbl⟩; have HRD := Lib.hid hrd; clear hrd; obtain ⟨hc, hf, hz⟩ := cif hbl; (try simp only [World.size_alloc, World.size_setCell, World.size_drew, World.heap_drewN] at hz)))
      all_goals (go_returns; exact ops_some HRD.out (by (repeat' (first | (with_reducible exact Below.refl _ _) | (with_reducible assumption) | (with_reducible refine Below.setCell ?_ ?_ _) | (with_reducible refine Below.alloc ?_ ?_ _) | (with_reducible refine Below.drew ?_) | (with_reducible refine below_drewN ?_ _) | (with_reducible refine below_next ?_ (by with_reducible assumption)) | omega | (dsimp only; omega) | (simp only [World.size_alloc, World.size_setCell, World.size_drew, World.heap_drewN]; omega)))))
    · have d4 : (r == 4) = false := by simpa using h4
      rw [show fromF r v = 91 :: narrow r v by simp [fromF, h8, h4]]
      have hA1 := cell_alloc_if
      have hA2 := frozen_alloc_if
      have hA3 := cell_set_if
      go_enter Tryd.func33, Tryd.ntmps33
      go_wp2_with (first | (go_at_call 67; (with_reducible refine (HW1.out _ (by (repeat' (first | (with_reducible exact Below.refl _ _) | (with_reducible assumption) | (with_reducible refine Below.setCell ?_ ?_ _) | (with_reducible refine Below.alloc ?_ ?_ _) | (with_reducible refine Below.drew ?_) | (with_reducible refine below_drewN ?_ _) | (with_reducible refine below_next ?_ (by with_reducible assumption)) | omega | (dsimp only; omega) | (simp only [World.size_alloc, World.size_setCell, World.size_drew, World.heap_drewN]; omega))))).mono ?_); rintro e w' ⟨rfl, hbl⟩; obtain ⟨hc, hf, hz⟩ := cif hbl; (try simp only [World.size_alloc, World.size_setCell, World.size_drew, World.heap_drewN] at hz)) | (go_at_call 67; (with_reducible refine (HW2.out _ (by (repeat' (first | (with_reducible exact Below.refl _ _) | (with_reducible assumption) | (with_reducible refine Below.setCell ?_ ?_ _) | (with_reducible refine Below.alloc ?_ ?_ _) | (with_reducible refine Below.drew ?_) | (with_reducible refine below_drewN ?_ _) | (with_reducible refine below_next ?_ (by with_reducible assumption)) | omega | (dsimp only; omega) | (simp only [World.size_alloc, World.size_setCell, World.size_drew, World.heap_drewN]; omega))))).mono ?_); rintro e w' ⟨rfl, hbl⟩; obtain ⟨hc, hf, hz⟩ := cif hbl; (try simp only [World.size_alloc, World.size_setCell, World.size_drew, World.heap_drewN] at hz)) | (go_at_call 71; (with_reducible refine (sign_any _ _ _ _ _).mono ?_); rintro e w' ⟨A7, c7, rfl, hrd, hbl⟩; have HRD := Lib.hid hrd; clear hrd; obtain ⟨hc, hf, hz⟩ := cif hbl; (try simp only [World.size_alloc, World.size_setCell, World.size_drew, World.heap_drewN] at hz)) | (go_at_call 72; (with_reducible refine (small_any _ _ _).mono ?_); rintro e w' ⟨A7, c7, rfl, hrd, hbl⟩; have HRD := Lib.hid hrd; clear hrd; obtain ⟨hc, hf, hz⟩ := cif hbl; (try simp only [World.size_alloc, World.size_setCell, World.size_drew, World.heap_drewN] at hz)) | (at_builtin; refine wpList_app (e := 3) (f := intC) rfl _ _ 23 rfl w.heap.size i0 _ 8 Tryd.underlying23 hi0 hz0 hz1 hz2 rfl (by decide) (fun _ => rfl) _ [91] rfl ((OwnL.lit _ _ [91] _ ?c0 ?c1 ?c2 rfl rfl).next hbl) A7 _ c7 (narrow r v) rfl ?c4 (intC_one _) (by decide) ?c5 ?c6 ?_))
      case c0 => simp
      case c1 => simp; omega
      case c2 => simp [maxLen]
      case c4 => exact HRD.out
      case c5 => have hnl := narrow_len r v; simp; omega
      case c6 => omega
      intro A9 c9 w9 hown hg hB hor
      have HR9 := Lib.hid (OwnL.rdl (f := intC) (sz := 1) (fun _ => rfl) hown)
      have hb9 : Below w.heap.size w w9 := Below.trans (by (repeat' (first | (with_reducible exact Below.refl _ _) | (with_reducible assumption) | (with_reducible refine Below.setCell ?_ ?_ _) | (with_reducible refine Below.alloc ?_ ?_ _) | (with_reducible refine Below.drew ?_) | (with_reducible refine below_drewN ?_ _) | (with_reducible refine below_next ?_ (by with_reducible assumption)) | omega | (dsimp only; omega) | (simp only [World.size_alloc, World.size_setCell, World.size_drew, World.heap_drewN]; omega)))) hB
      clear hown hg hB hor
      go_wp2
      go_returns
      exact ops_some (by simpa [Nat.add_comm] using HR9.out) hb9
set_option maxRecDepth 100000 in
set_option maxHeartbeats 4000000 in
theorem rops_NF (s : Int) (u : Bool) (r : Int) (v : Bool) (w : World) (h1 : (k1 == 4) = false) (h2 : (k2 == 4) = false)
    (a1 : Arith w (.agg #[.int .i64 k1, .int .i64 s1, .int .i64 l1, .bool f1, .string n1, .slice A1 m1 c1]) s u false true) (a2 : Arith w (.agg #[.int .i64 k2, .int .i64 s2, .int .i64 l2, .bool f2, .string n2, .slice A2 m2 c2]) r v true true) :
    Calls Tryd.prog 33 #[.agg #[.int .i64 k1, .int .i64 s1, .int .i64 l1, .bool f1, .string n1, .slice A1 m1 c1], .agg #[.int .i64 k2, .int .i64 s2, .int .i64 l2, .bool f2, .string n2, .slice A2 m2 c2]] w (OpsP (toF s u, true) w) := by
  unfold Arith at a1 a2
  have HW1 := Lib.hid a1
  have HW2 := Lib.hid a2
  clear a1 a2
  by_cases h8 : s = 8
  · subst h8
    have hA1 := cell_alloc_if
    have hA2 := frozen_alloc_if
    have hA3 := cell_set_if
    go_enter Tryd.func33, Tryd.ntmps33
    go_wp2_with (first | (go_at_call 67; (with_reducible refine (HW1.out _ (by (repeat' (first | (with_reducible exact Below.refl _ _) | (with_reducible assumption) | (with_reducible refine Below.setCell ?_ ?_ _) | (with_reducible refine Below.alloc ?_ ?_ _) | (with_reducible refine Below.drew ?_) | (with_reducible refine below_drewN ?_ _) | (with_reducible refine below_next ?_ (by with_reducible assumption)) | omega | (dsimp only; omega) | (simp only [World.size_alloc, World.size_setCell, World.size_drew, World.heap_drewN]; omega))))).mono ?_); rintro e w' ⟨rfl, hbl⟩; obtain ⟨hc, hf, hz⟩ := cif hbl; (try simp only [World.size_alloc, World.size_setCell, World.size_drew, World.heap_drewN] at hz)) | (go_at_call 67; (with_reducible refine (HW2.out _ (by (repeat' (first | (with_reducible exact Below.refl _ _) | (with_reducible assumption) | (with_reducible refine Below.setCell ?_ ?_ _) | (with_reducible refine Below.alloc ?_ ?_ _) | (with_reducible refine Below.drew ?_) | (with_reducible refine below_drewN ?_ _) | (with_reducible refine below_next ?_ (by with_reducible assumption)) | omega | (dsimp only; omega) | (simp only [World.size_alloc, World.size_setCell, World.size_drew, World.heap_drewN]; omega))))).mono ?_); rintro e w' ⟨rfl, hbl⟩; obtain ⟨hc, hf, hz⟩ := cif hbl; (try simp only [World.size_alloc, World.size_setCell, World.size_drew, World.heap_drewN] at hz)) | (go_at_call 71; (with_reducible refine (sign_any _ _ _ _ _).mono ?_); rintro e w' ⟨A7, c7, rfl, hrd, hbl⟩; have HRD := Lib.hid hrd; clear hrd; obtain ⟨hc, hf, hz⟩ := cif hbl; (try simp only [World.size_alloc, World.size_setCell, World.size_drew, World.heap_drewN] at hz)) | (go_at_call 72; (with_reducible refine (small_any _ _ _).mono ?_); rintro e w' ⟨A7, c7, rfl, hrd, hbl⟩; have HRD := Lib.hid hrd; clear hrd; obtain ⟨hc, hf, hz⟩ := cif hbl; (try simp only [World.size_alloc, World.size_setCell, World.size_drew, World.heap_drewN] at hz)))
    all_goals (go_returns; exact ops_some HRD.out (by (repeat' (first | (with_reducible exact Below.refl _ _) | (with_reducible assumption) | (with_reducible refine Below.setCell ?_ ?_ _) | (with_reducible refine Below.alloc ?_ ?_ _) | (with_reducible refine Below.drew ?_) | (with_reducible refine below_drewN ?_ _) | (with_reducible refine below_next ?_ (by with_reducible assumption)) | omega | (dsimp only; omega) | (simp only [World.size_alloc, World.size_setCell, World.size_drew, World.heap_drewN]; omega)))))
  · have d8 : (s == 8) = false := by simpa using h8
    by_cases h4 : s = 4
    · subst h4
      have hA1 := cell_alloc_if
      have hA2 := frozen_alloc_if
      have hA3 := cell_set_if
      go_enter Tryd.func33, Tryd.ntmps33
      go_wp2_with (first | (go_at_call 67; (with_reducible refine (HW1.out _ (by (repeat' (first | (with_reducible exact Below.refl _ _) | (with_reducible assumption) | (with_reducible refine Below.setCell ?_ ?_ _) | (with_reducible refine Below.alloc ?_ ?_ _) | (with_reducible refine Below.drew ?_) | (with_reducible refine below_drewN ?_ _) | (with_reducible refine below_next ?_ (by with_reducible assumption)) | omega | (dsimp only; omega) | (simp only [World.size_alloc, World.size_setCell, World.size_drew, World.heap_drewN]; omega))))).mono ?_); rintro e w' ⟨rfl, hbl⟩; obtain ⟨hc, hf, hz⟩ := cif hbl; (try simp only [World.size_alloc, World.size_setCell, World.size_drew, World.heap_drewN] at hz)) | (go_at_call 67; (with_reducible refine (HW2.out _ (by (repeat' (first | (with_reducible exact Below.refl _ _) | (with_reducible assumption) | (with_reducible refine Below.setCell ?_ ?_ _) | (with_reducible refine Below.alloc ?_ ?_ _) | (with_reducible refine Below.drew ?_) | (with_reducible refine below_drewN ?_ _) | (with_reducible refine below_next ?_ (by with_reducible assumption)) | omega | (dsimp only; omega) | (simp only [World.size_alloc, World.size_setCell, World.size_drew, World.heap_drewN]; omega))))).mono ?_); rintro e w' ⟨rfl, hbl⟩; obtain ⟨hc, hf, hz⟩ := cif hbl; (try simp only [World.size_alloc, World.size_setCell, World.size_drew, World.heap_drewN] at hz)) | (go_at_call 71; (with_reducible refine (sign_any _ _ _ _ _).mono ?_); rintro e w' ⟨A7, c7, rfl, hrd, hbl⟩; have HRD := Lib.hid hrd; clear hrd; obtain ⟨hc, hf, hz⟩ := cif hbl; (try simp only [World.size_alloc, World.size_setCell, World.size_drew, World.heap_drewN] at hz)) | (go_at_call 72; (with_reducible refine (small_any _ _ _).mono ?_); rintro e w' ⟨A7, c7, rfl, hrd, hbl⟩; have HRD := Lib.hid hrd; clear hrd; obtain ⟨hc, hf, hz⟩ := cif hbl; (try simp only [World.size_alloc, World.size_setCell, World.size_drew, World.heap_drewN] at hz)))
      all_goals (go_returns; exact ops_some HRD.out (by (repeat' (first | (with_reducible exact Below.refl _ _) | (with_reducible assumption) | (with_reducible refine Below.setCell ?_ ?_ _) | (with_reducible refine Below.alloc ?_ ?_ _) | (with_reducible refine Below.drew ?_) | (with_reducible refine below_drewN ?_ _) | (with_reducible refine below_next ?_ (by with_reducible assumption)) | omega | (dsimp only; omega) | (simp only [World.size_alloc, World.size_setCell, World.size_drew, World.heap_drewN]; omega)))))
    · have d4 : (s == 4) = false := by simpa using h4
      rw [show toF s u = [87] by simp [toF, h8, h4]]
      have hA1 := cell_alloc_if
      have hA2 := frozen_alloc_if
      have hA3 := cell_set_if
      go_enter Tryd.func33, Tryd.ntmps33
      go_wp2_with (first | (go_at_call 67; (with_reducible refine (HW1.out _ (by (repeat' (first | (with_reducible exact Below.refl _ _) | (with_reducible assumption) | (with_reducible refine Below.setCell ?_ ?_ _) | (with_reducible refine Below.alloc ?_ ?_ _) | (with_reducible refine Below.drew ?_) | (with_reducible refine below_drewN ?_ _) | (with_reducible refine below_next ?_ (by with_reducible assumption)) | omega | (dsimp only; omega) | (simp only [World.size_alloc, World.size_setCell, World.size_drew, World.heap_drewN]; omega))))).mono ?_); rintro e w' ⟨rfl, hbl⟩; obtain ⟨hc, hf, hz⟩ := cif hbl; (try simp only [World.size_alloc, World.size_setCell, World.size_drew, World.heap_drewN] at hz)) | (go_at_call 67; (with_reducible refine (HW2.out _ (by (repeat' (first | (with_reducible exact Below.refl _ _) | (with_reducible assumption) | (with_reducible refine Below.setCell ?_ ?_ _) | (with_reducible refine Below.alloc ?_ ?_ _) | (with_reducible refine Below.drew ?_) | (with_reducible refine below_drewN ?_ _) | (with_reducible refine below_next ?_ (by with_reducible assumption)) | omega | (dsimp only; omega) | (simp only [World.size_alloc, World.size_setCell, World.size_drew, World.heap_drewN]; omega))))).mono ?_); rintro e w' ⟨rfl, hbl⟩; obtain ⟨hc, hf, hz⟩ := cif hbl; (try simp only [World.size_alloc, World.size_setCell, World.size_drew, World.heap_drewN] at hz)) | (go_at_call 71; (with_reducible refine (sign_any _ _ _ _ _).mono ?_); rintro e w' ⟨A7, c7, rfl, hrd, hbl⟩; have HRD := Lib.hid hrd; clear hrd; obtain ⟨hc, hf, hz⟩ := cif hbl; (try simp only [World.size_alloc, World.size_setCell, World.size_drew, World.heap_drewN] at hz)) | (go_at_call 72; (with_reducible refine (small_any _ _ _).mono ?_); rintro e w' ⟨A7, c7, rfl, hrd, hbl⟩; have HRD := Lib.hid hrd; clear hrd; obtain ⟨hc, hf, hz⟩ := cif hbl; (try simp only [World.size_alloc, World.size_setCell, World.size_drew, World.heap_drewN] at hz)))
      all_goals (go_returns; refine ops_some (rdl_one (by simp) ?_) (by (repeat' (first | (with_reducible exact Below.refl _ _) | (with_reducible assumption) | (with_reducible refine Below.setCell ?_ ?_ _) | (with_reducible refine Below.alloc ?_ ?_ _) | (with_reducible refine Below.drew ?_) | (with_reducible refine below_drewN ?_ _) | (with_reducible refine below_next ?_ (by with_reducible assumption)) | omega | (dsimp only; omega) | (simp only [World.size_alloc, World.size_setCell, World.size_drew, World.heap_drewN]; omega)))); simp [cell_alloc_if, *, ↓IntWalk.iteOmega])
set_option maxRecDepth 100000 in
set_option maxHeartbeats 4000000 in
theorem rops_8 (s : Int) (u v : Bool) (w : World) (h1 : (k1 == 4) = false) (h2 : (k2 == 4) = false)
    (a1 : Arith w (.agg #[.int .i64 k1, .int .i64 s1, .int .i64 l1, .bool f1, .string n1, .slice A1 m1 c1]) s u false true) (a2 : Arith w (.agg #[.int .i64 k2, .int .i64 s2, .int .i64 l2, .bool f2, .string n2, .slice A2 m2 c2]) 8 v false true) :
    Calls Tryd.prog 33 #[.agg #[.int .i64 k1, .int .i64 s1, .int .i64 l1, .bool f1, .string n1, .slice A1 m1 c1], .agg #[.int .i64 k2, .int .i64 s2, .int .i64 l2, .bool f2, .string n2, .slice A2 m2 c2]] w (OpsP (if s = 8 then [] else [if u then 85 else 84], true) w) := by
  obtain ⟨i0, hi0, hz0, hz1, hz2⟩ := info_parts int_info
  unfold Arith at a1 a2
  have HW1 := Lib.hid a1
  have HW2 := Lib.hid a2
  clear a1 a2
  by_cases h8 : s = 8
  · subst h8
    have hA1 := cell_alloc_if
    have hA2 := frozen_alloc_if
    have hA3 := cell_set_if
    go_enter Tryd.func33, Tryd.ntmps33
    go_wp2_with (first | (go_at_call 67; (with_reducible refine (HW1.out _ (by (repeat' (first | (with_reducible exact Below.refl _ _) | (with_reducible assumption) | (with_reducible refine Below.setCell ?_ ?_ _) | (with_reducible refine Below.alloc ?_ ?_ _) | (with_reducible refine Below.drew ?_) | (with_reducible refine below_drewN ?_ _) | (with_reducible refine below_next ?_ (by with_reducible assumption)) | omega | (dsimp only; omega) | (simp only [World.size_alloc, World.size_setCell, World.size_drew, World.heap_drewN]; omega))))).mono ?_); rintro e w' ⟨rfl, hbl⟩; obtain ⟨hc, hf, hz⟩ := cif hbl; (try simp only [World.size_alloc, World.size_setCell, World.size_drew, World.heap_drewN] at hz)) | (go_at_call 67; (with_reducible refine (HW2.out _ (by (repeat' (first | (with_reducible exact Below.refl _ _) | (with_reducible assumption) | (with_reducible refine Below.setCell ?_ ?_ _) | (with_reducible refine Below.alloc ?_ ?_ _) | (with_reducible refine Below.drew ?_) | (with_reducible refine below_drewN ?_ _) | (with_reducible refine below_next ?_ (by with_reducible assumption)) | omega | (dsimp only; omega) | (simp only [World.size_alloc, World.size_setCell, World.size_drew, World.heap_drewN]; omega))))).mono ?_); rintro e w' ⟨rfl, hbl⟩; obtain ⟨hc, hf, hz⟩ := cif hbl; (try simp only [World.size_alloc, World.size_setCell, World.size_drew, World.heap_drewN] at hz)) | (go_at_call 71; (with_reducible refine (sign_any _ _ _ _ _).mono ?_); rintro e w' ⟨A7, c7, rfl, hrd, hbl⟩; have HRD := Lib.hid hrd; clear hrd; obtain ⟨hc, hf, hz⟩ := cif hbl; (try simp only [World.size_alloc, World.size_setCell, World.size_drew, World.heap_drewN] at hz)) | (go_at_call 72; (with_reducible refine (small_any _ _ _).mono ?_); rintro e w' ⟨A7, c7, rfl, hrd, hbl⟩; have HRD := Lib.hid hrd; clear hrd; obtain ⟨hc, hf, hz⟩ := cif hbl; (try simp only [World.size_alloc, World.size_setCell, World.size_drew, World.heap_drewN] at hz)))
    all_goals (go_returns; exact ops_none _ (by (repeat' (first | (with_reducible exact Below.refl _ _) | (with_reducible assumption) | (with_reducible refine Below.setCell ?_ ?_ _) | (with_reducible refine Below.alloc ?_ ?_ _) | (with_reducible refine Below.drew ?_) | (with_reducible refine below_drewN ?_ _) | (with_reducible refine below_next ?_ (by with_reducible assumption)) | omega | (dsimp only; omega) | (simp only [World.size_alloc, World.size_setCell, World.size_drew, World.heap_drewN]; omega)))))
  · rw [if_neg h8]
    have d8 : (s == 8) = false := by simpa using h8
    cases u
    all_goals (
      have hA1 := cell_alloc_if
      have hA2 := frozen_alloc_if
      have hA3 := cell_set_if
      go_enter Tryd.func33, Tryd.ntmps33
      go_wp2_with (first | (go_at_call 67; (with_reducible refine (HW1.out _ (by (repeat' (first | (with_reducible exact Below.refl _ _) | (with_reducible assumption) | (with_reducible refine Below.setCell ?_ ?_ _) | (with_reducible refine Below.alloc ?_ ?_ _) | (with_reducible refine Below.drew ?_) | (with_reducible refine below_drewN ?_ _) | (with_reducible refine below_next ?_ (by with_reducible assumption)) | omega | (dsimp only; omega) | (simp only [World.size_alloc, World.size_setCell, World.size_drew, World.heap_drewN]; omega))))).mono ?_); rintro e w' ⟨rfl, hbl⟩; obtain ⟨hc, hf, hz⟩ := cif hbl; (try simp only [World.size_alloc, World.size_setCell, World.size_drew, World.heap_drewN] at hz)) | (go_at_call 67; (with_reducible refine (HW2.out _ (by (repeat' (first | (with_reducible exact Below.refl _ _) | (with_reducible assumption) | (with_reducible refine Below.setCell ?_ ?_ _) | (with_reducible refine Below.alloc ?_ ?_ _) | (with_reducible refine Below.drew ?_) | (with_reducible refine below_drewN ?_ _) | (with_reducible refine below_next ?_ (by with_reducible assumption)) | omega | (dsimp only; omega) | (simp only [World.size_alloc, World.size_setCell, World.size_drew, World.heap_drewN]; omega))))).mono ?_); rintro e w' ⟨rfl, hbl⟩; obtain ⟨hc, hf, hz⟩ := cif hbl; (try simp only [World.size_alloc, World.size_setCell, World.size_drew, World.heap_drewN] at hz)) | (go_at_call 71; (with_reducible refine (sign_any _ _ _ _ _).mono ?_); rintro e w' ⟨A7, c7, rfl, hrd, hbl⟩; have HRD := Lib.hid hrd; clear hrd; obtain ⟨hc, hf, hz⟩ := cif hbl; (try simp only [World.size_alloc, World.size_setCell, World.size_drew, World.heap_drewN] at hz)) | (go_at_call 72; (with_reducible refine (small_any _ _ _).mono ?_); rintro e w' ⟨A7, c7, rfl, hrd, hbl⟩; have HRD := Lib.hid hrd; clear hrd; obtain ⟨hc, hf, hz⟩ := cif hbl; (try simp only [World.size_alloc, World.size_setCell, World.size_drew, World.heap_drewN] at hz)))
      all_goals (go_returns; exact ops_some HRD.out (by (repeat' (first | (with_reducible exact Below.refl _ _) | (with_reducible assumption) | (with_reducible refine Below.setCell ?_ ?_ _) | (with_reducible refine Below.alloc ?_ ?_ _) | (with_reducible refine Below.drew ?_) | (with_reducible refine below_drewN ?_ _) | (with_reducible refine below_next ?_ (by with_reducible assumption)) | omega | (dsimp only; omega) | (simp only [World.size_alloc, World.size_setCell, World.size_drew, World.heap_drewN]; omega))))))
set_option maxRecDepth 100000 in
set_option maxHeartbeats 4000000 in
theorem rops_same (s : Int) (u : Bool) (w : World) (h8 : ¬ s = 8) (h1 : (k1 == 4) = false) (h2 : (k2 == 4) = false)
    (a1 : Arith w (.agg #[.int .i64 k1, .int .i64 s1, .int .i64 l1, .bool f1, .string n1, .slice A1 m1 c1]) s u false true) (a2 : Arith w (.agg #[.int .i64 k2, .int .i64 s2, .int .i64 l2, .bool f2, .string n2, .slice A2 m2 c2]) s u false true) :
    Calls Tryd.prog 33 #[.agg #[.int .i64 k1, .int .i64 s1, .int .i64 l1, .bool f1, .string n1, .slice A1 m1 c1], .agg #[.int .i64 k2, .int .i64 s2, .int .i64 l2, .bool f2, .string n2, .slice A2 m2 c2]] w (OpsP ([], true) w) := by
  obtain ⟨i0, hi0, hz0, hz1, hz2⟩ := info_parts int_info
  unfold Arith at a1 a2
  have HW1 := Lib.hid a1
  have HW2 := Lib.hid a2
  clear a1 a2
  have d8 : (s == 8) = false := by simpa using h8
  have hA1 := cell_alloc_if
  have hA2 := frozen_alloc_if
  have hA3 := cell_set_if
  go_enter Tryd.func33, Tryd.ntmps33
  go_wp2_with (first | (go_at_call 67; (with_reducible refine (HW1.out _ (by (repeat' (first | (with_reducible exact Below.refl _ _) | (with_reducible assumption) | (with_reducible refine Below.setCell ?_ ?_ _) | (with_reducible refine Below.alloc ?_ ?_ _) | (with_reducible refine Below.drew ?_) | (with_reducible refine below_drewN ?_ _) | (with_reducible refine below_next ?_ (by with_reducible assumption)) | omega | (dsimp only; omega) | (simp only [World.size_alloc, World.size_setCell, World.size_drew, World.heap_drewN]; omega))))).mono ?_); rintro e w' ⟨rfl, hbl⟩; obtain ⟨hc, hf, hz⟩ := cif hbl; (try simp only [World.size_alloc, World.size_setCell, World.size_drew, World.heap_drewN] at hz)) | (go_at_call 67; (with_reducible refine (HW2.out _ (by (repeat' (first | (with_reducible exact Below.refl _ _) | (with_reducible assumption) | (with_reducible refine Below.setCell ?_ ?_ _) | (with_reducible refine Below.alloc ?_ ?_ _) | (with_reducible refine Below.drew ?_) | (with_reducible refine below_drewN ?_ _) | (with_reducible refine below_next ?_ (by with_reducible assumption)) | omega | (dsimp only; omega) | (simp only [World.size_alloc, World.size_setCell, World.size_drew, World.heap_drewN]; omega))))).mono ?_); rintro e w' ⟨rfl, hbl⟩; obtain ⟨hc, hf, hz⟩ := cif hbl; (try simp only [World.size_alloc, World.size_setCell, World.size_drew, World.heap_drewN] at hz)) | (go_at_call 71; (with_reducible refine (sign_any _ _ _ _ _).mono ?_); rintro e w' ⟨A7, c7, rfl, hrd, hbl⟩; have HRD := Lib.hid hrd; clear hrd; obtain ⟨hc, hf, hz⟩ := cif hbl; (try simp only [World.size_alloc, World.size_setCell, World.size_drew, World.heap_drewN] at hz)) | (go_at_call 72; (with_reducible refine (small_any _ _ _).mono ?_); rintro e w' ⟨A7, c7, rfl, hrd, hbl⟩; have HRD := Lib.hid hrd; clear hrd; obtain ⟨hc, hf, hz⟩ := cif hbl; (try simp only [World.size_alloc, World.size_setCell, World.size_drew, World.heap_drewN] at hz)))
  all_goals (go_returns; exact ops_none _ (by (repeat' (first | (with_reducible exact Below.refl _ _) | (with_reducible assumption) | (with_reducible refine Below.setCell ?_ ?_ _) | (with_reducible refine Below.alloc ?_ ?_ _) | (with_reducible refine Below.drew ?_) | (with_reducible refine below_drewN ?_ _) | (with_reducible refine below_next ?_ (by with_reducible assumption)) | omega | (dsimp only; omega) | (simp only [World.size_alloc, World.size_setCell, World.size_drew, World.heap_drewN]; omega)))))
set_option maxRecDepth 100000 in
set_option maxHeartbeats 4000000 in
theorem rops_sign (s : Int) (u v : Bool) (w : World) (h8 : ¬ s = 8) (huv : u ≠ v) (h1 : (k1 == 4) = false) (h2 : (k2 == 4) = false)
    (a1 : Arith w (.agg #[.int .i64 k1, .int .i64 s1, .int .i64 l1, .bool f1, .string n1, .slice A1 m1 c1]) s u false true) (a2 : Arith w (.agg #[.int .i64 k2, .int .i64 s2, .int .i64 l2, .bool f2, .string n2, .slice A2 m2 c2]) s v false true) :
    Calls Tryd.prog 33 #[.agg #[.int .i64 k1, .int .i64 s1, .int .i64 l1, .bool f1, .string n1, .slice A1 m1 c1], .agg #[.int .i64 k2, .int .i64 s2, .int .i64 l2, .bool f2, .string n2, .slice A2 m2 c2]] w (OpsP (narrow s v, true) w) := by
  obtain ⟨i0, hi0, hz0, hz1, hz2⟩ := info_parts int_info
  unfold Arith at a1 a2
  have HW1 := Lib.hid a1
  have HW2 := Lib.hid a2
  clear a1 a2
  have d8 : (s == 8) = false := by simpa using h8
  cases u <;> cases v <;> first | exact absurd rfl huv | skip
  all_goals (
    have hA1 := cell_alloc_if
    have hA2 := frozen_alloc_if
    have hA3 := cell_set_if
    go_enter Tryd.func33, Tryd.ntmps33
    go_wp2_with (first | (go_at_call 67; (with_reducible refine (HW1.out _ (by (repeat' (first | (with_reducible exact Below.refl _ _) | (with_reducible assumption) | (with_reducible refine Below.setCell ?_ ?_ _) | (with_reducible refine Below.alloc ?_ ?_ _) | (with_reducible refine Below.drew ?_) | (with_reducible refine below_drewN ?_ _) | (with_reducible refine below_next ?_ (by with_reducible assumption)) | omega | (dsimp only; omega) | (simp only [World.size_alloc, World.size_setCell, World.size_drew, World.heap_drewN]; omega))))).mono ?_); rintro e w' ⟨rfl, hbl⟩; obtain ⟨hc, hf, hz⟩ := cif hbl; (try simp only [World.size_alloc, World.size_setCell, World.size_drew, World.heap_drewN] at hz)) | (go_at_call 67; (with_reducible refine (HW2.out _ (by (repeat' (first | (with_reducible exact Below.refl _ _) | (with_reducible assumption) | (with_reducible refine Below.setCell ?_ ?_ _) | (with_reducible refine Below.alloc ?_ ?_ _) | (with_reducible refine Below.drew ?_) | (with_reducible refine below_drewN ?_ _) | (with_reducible refine below_next ?_ (by with_reducible assumption)) | omega | (dsimp only; omega) | (simp only [World.size_alloc, World.size_setCell, World.size_drew, World.heap_drewN]; omega))))).mono ?_); rintro e w' ⟨rfl, hbl⟩; obtain ⟨hc, hf, hz⟩ := cif hbl; (try simp only [World.size_alloc, World.size_setCell, World.size_drew, World.heap_drewN] at hz)) | (go_at_call 71; (with_reducible refine (sign_any _ _ _ _ _).mono ?_); rintro e w' ⟨A7, c7, rfl, hrd, hbl⟩; have HRD := Lib.hid hrd; clear hrd; obtain ⟨hc, hf, hz⟩ := cif hbl; (try simp only [World.size_alloc, World.size_setCell, World.size_drew, World.heap_drewN] at hz)) | (go_at_call 72; (with_reducible refine (small_any _ _ _).mono ?_); rintro e w' ⟨A7, c7, rfl, hrd, hbl⟩; have HRD := Lib.hid hrd; clear hrd; obtain ⟨hc, hf, hz⟩ := cif hbl; (try simp only [World.size_alloc, World.size_setCell, World.size_drew, World.heap_drewN] at hz)))
    all_goals (go_returns; exact ops_some HRD.out (by (repeat' (first | (with_reducible exact Below.refl _ _) | (with_reducible assumption) | (with_reducible refine Below.setCell ?_ ?_ _) | (with_reducible refine Below.alloc ?_ ?_ _) | (with_reducible refine Below.drew ?_) | (with_reducible refine below_drewN ?_ _) | (with_reducible refine below_next ?_ (by with_reducible assumption)) | omega | (dsimp only; omega) | (simp only [World.size_alloc, World.size_setCell, World.size_drew, World.heap_drewN]; omega))))))
set_option maxRecDepth 100000 in
set_option maxHeartbeats 4000000 in
theorem rops_size (s : Int) (u : Bool) (r : Int) (v : Bool) (w : World) (h8 : ¬ r = 8) (hsr : ¬ s = r) (h1 : (k1 == 4) = false) (h2 : (k2 == 4) = false)
    (a1 : Arith w (.agg #[.int .i64 k1, .int .i64 s1, .int .i64 l1, .bool f1, .string n1, .slice A1 m1 c1]) s u false true) (a2 : Arith w (.agg #[.int .i64 k2, .int .i64 s2, .int .i64 l2, .bool f2, .string n2, .slice A2 m2 c2]) r v false true) :
    Calls Tryd.prog 33 #[.agg #[.int .i64 k1, .int .i64 s1, .int .i64 l1, .bool f1, .string n1, .slice A1 m1 c1], .agg #[.int .i64 k2, .int .i64 s2, .int .i64 l2, .bool f2, .string n2, .slice A2 m2 c2]] w (OpsP (if s = 8 then 86 :: narrow r v else narrow r v, true) w) := by
  obtain ⟨i0, hi0, hz0, hz1, hz2⟩ := info_parts int_info
  unfold Arith at a1 a2
  have HW1 := Lib.hid a1
  have HW2 := Lib.hid a2
  clear a1 a2
  have d8 : (r == 8) = false := by simpa using h8
  by_cases h9 : s = 8
  · subst h9
    rw [if_pos rfl]
    have hA1 := cell_alloc_if
    have hA2 := frozen_alloc_if
    have hA3 := cell_set_if
    go_enter Tryd.func33, Tryd.ntmps33
    go_wp2_with (first | (go_at_call 67; (with_reducible refine (HW1.out _ (by (repeat' (first | (with_reducible exact Below.refl _ _) | (with_reducible assumption) | (with_reducible refine Below.setCell ?_ ?_ _) | (with_reducible refine Below.alloc ?_ ?_ _) | (with_reducible refine Below.drew ?_) | (with_reducible refine below_drewN ?_ _) | (with_reducible refine below_next ?_ (by with_reducible assumption)) | omega | (dsimp only; omega) | (simp only [World.size_alloc, World.size_setCell, World.size_drew, World.heap_drewN]; omega))))).mono ?_); rintro e w' ⟨rfl, hbl⟩; obtain ⟨hc, hf, hz⟩ := cif hbl; (try simp only [World.size_alloc, World.size_setCell, World.size_drew, World.heap_drewN] at hz)) | (go_at_call 67; (with_reducible refine (HW2.out _ (by (repeat' (first | (with_reducible exact Below.refl _ _) | (with_reducible assumption) | (with_reducible refine Below.setCell ?_ ?_ _) | (with_reducible refine Below.alloc ?_ ?_ _) | (with_reducible refine Below.drew ?_) | (with_reducible refine below_drewN ?_ _) | (with_reducible refine below_next ?_ (by with_reducible assumption)) | omega | (dsimp only; omega) | (simp only [World.size_alloc, World.size_setCell, World.size_drew, World.heap_drewN]; omega))))).mono ?_); rintro e w' ⟨rfl, hbl⟩; obtain ⟨hc, hf, hz⟩ := cif hbl; (try simp only [World.size_alloc, World.size_setCell, World.size_drew, World.heap_drewN] at hz)) | (go_at_call 71; (with_reducible refine (sign_any _ _ _ _ _).mono ?_); rintro e w' ⟨A7, c7, rfl, hrd, hbl⟩; have HRD := Lib.hid hrd; clear hrd; obtain ⟨hc, hf, hz⟩ := cif hbl; (try simp only [World.size_alloc, World.size_setCell, World.size_drew, World.heap_drewN] at hz)) | (go_at_call 72; (with_reducible refine (small_any _ _ _).mono ?_); rintro e w' ⟨A7, c7, rfl, hrd, hbl⟩; have HRD := Lib.hid hrd; clear hrd; obtain ⟨hc, hf, hz⟩ := cif hbl; (try simp only [World.size_alloc, World.size_setCell, World.size_drew, World.heap_drewN] at hz)) | (at_builtin; refine wpList_app (e := 3) (f := intC) rfl _ _ 23 rfl w.heap.size i0 _ 8 Tryd.underlying23 hi0 hz0 hz1 hz2 rfl (by decide) (fun _ => rfl) _ [86] rfl ((OwnL.lit _ _ [86] _ ?c0 ?c1 ?c2 rfl rfl).next hbl) A7 _ c7 (narrow r v) rfl ?c4 (intC_one _) (by decide) ?c5 ?c6 ?_))
    case c0 => simp
    case c1 => simp; omega
    case c2 => simp [maxLen]
    case c4 => exact HRD.out
    case c5 => have hnl := narrow_len r v; simp; omega
    case c6 => omega
    intro A9 c9 w9 hown hg hB hor
    have HR9 := Lib.hid (OwnL.rdl (f := intC) (sz := 1) (fun _ => rfl) hown)
    have hb9 : Below w.heap.size w w9 := Below.trans (by (repeat' (first | (with_reducible exact Below.refl _ _) | (with_reducible assumption) | (with_reducible refine Below.setCell ?_ ?_ _) | (with_reducible refine Below.alloc ?_ ?_ _) | (with_reducible refine Below.drew ?_) | (with_reducible refine below_drewN ?_ _) | (with_reducible refine below_next ?_ (by with_reducible assumption)) | omega | (dsimp only; omega) | (simp only [World.size_alloc, World.size_setCell, World.size_drew, World.heap_drewN]; omega)))) hB
    clear hown hg hB hor
    go_wp2
    go_returns
    exact ops_some (by simpa [Nat.add_comm] using HR9.out) hb9
  · rw [if_neg h9]
    have d9 : (s == 8) = false := by simpa using h9
    have hA1 := cell_alloc_if
    have hA2 := frozen_alloc_if
    have hA3 := cell_set_if
    go_enter Tryd.func33, Tryd.ntmps33
    go_wp2_with (first | (go_at_call 67; (with_reducible refine (HW1.out _ (by (repeat' (first | (with_reducible exact Below.refl _ _) | (with_reducible assumption) | (with_reducible refine Below.setCell ?_ ?_ _) | (with_reducible refine Below.alloc ?_ ?_ _) | (with_reducible refine Below.drew ?_) | (with_reducible refine below_drewN ?_ _) | (with_reducible refine below_next ?_ (by with_reducible assumption)) | omega | (dsimp only; omega) | (simp only [World.size_alloc, World.size_setCell, World.size_drew, World.heap_drewN]; omega))))).mono ?_); rintro e w' ⟨rfl, hbl⟩; obtain ⟨hc, hf, hz⟩ := cif hbl; (try simp only [World.size_alloc, World.size_setCell, World.size_drew, World.heap_drewN] at hz)) | (go_at_call 67; (with_reducible refine (HW2.out _ (by (repeat' (first | (with_reducible exact Below.refl _ _) | (with_reducible assumption) | (with_reducible refine Below.setCell ?_ ?_ _) | (with_reducible refine Below.alloc ?_ ?_ _) | (with_reducible refine Below.drew ?_) | (with_reducible refine below_drewN ?_ _) | (with_reducible refine below_next ?_ (by with_reducible assumption)) | omega | (dsimp only; omega) | (simp only [World.size_alloc, World.size_setCell, World.size_drew, World.heap_drewN]; omega))))).mono ?_); rintro e w' ⟨rfl, hbl⟩; obtain ⟨hc, hf, hz⟩ := cif hbl; (try simp only [World.size_alloc, World.size_setCell, World.size_drew, World.heap_drewN] at hz)) | (go_at_call 71; (with_reducible refine (sign_any _ _ _ _ _).mono ?_); rintro e w' ⟨A7, c7, rfl, hrd, hbl⟩; have HRD := Lib.hid hrd; clear hrd; obtain ⟨hc, hf, hz⟩ := cif hbl; (try simp only [World.size_alloc, World.size_setCell, World.size_drew, World.heap_drewN] at hz)) | (go_at_call 72; (with_reducible refine (small_any _ _ _).mono ?_); rintro e w' ⟨A7, c7, rfl, hrd, hbl⟩; have HRD := Lib.hid hrd; clear hrd; obtain ⟨hc, hf, hz⟩ := cif hbl; (try simp only [World.size_alloc, World.size_setCell, World.size_drew, World.heap_drewN] at hz)))
    all_goals (go_returns; exact ops_some HRD.out (by (repeat' (first | (with_reducible exact Below.refl _ _) | (with_reducible assumption) | (with_reducible refine Below.setCell ?_ ?_ _) | (with_reducible refine Below.alloc ?_ ?_ _) | (with_reducible refine Below.drew ?_) | (with_reducible refine below_drewN ?_ _) | (with_reducible refine below_next ?_ (by with_reducible assumption)) | omega | (dsimp only; omega) | (simp only [World.size_alloc, World.size_setCell, World.size_drew, World.heap_drewN]; omega)))))
theorem rops_NN (s : Int) (u : Bool) (r : Int) (v : Bool) (w : World) (h1 : (k1 == 4) = false) (h2 : (k2 == 4) = false)
    (a1 : Arith w (.agg #[.int .i64 k1, .int .i64 s1, .int .i64 l1, .bool f1, .string n1, .slice A1 m1 c1]) s u false true) (a2 : Arith w (.agg #[.int .i64 k2, .int .i64 s2, .int .i64 l2, .bool f2, .string n2, .slice A2 m2 c2]) r v false true) :
    Calls Tryd.prog 33 #[.agg #[.int .i64 k1, .int .i64 s1, .int .i64 l1, .bool f1, .string n1, .slice A1 m1 c1], .agg #[.int .i64 k2, .int .i64 s2, .int .i64 l2, .bool f2, .string n2, .slice A2 m2 c2]] w (OpsP (numsOp s u r v, true) w) := by
  by_cases h8 : r = 8
  · subst h8
    rw [show numsOp s u 8 v = if s = 8 then [] else [if u then 85 else 84] by unfold numsOp; by_cases h : s = 8 <;> simp [h]]
    exact rops_8 s u v w h1 h2 a1 a2
  · by_cases hs : s = r
    · subst hs
      by_cases hu : u = v
      · subst hu
        rw [show numsOp s u s u = [] by simp [numsOp]]
        exact rops_same s u w h8 h1 h2 a1 a2
      · rw [show numsOp s u s v = narrow s v by unfold numsOp; simp [hu, h8]]
        exact rops_sign s u v w h8 hu h1 h2 a1 a2
    · rw [show numsOp s u r v = if s = 8 then 86 :: narrow r v else narrow r v by unfold numsOp; simp [hs, h8]]
      exact rops_size s u r v w h8 hs h1 h2 a1 a2
end
set_option maxRecDepth 100000 in
set_option maxHeartbeats 16000000 in
theorem rops_any (a b : Ty) (w : World) (ha : RdT w a) (hb : RdT w b) : Calls Tryd.prog 33 #[tyV a, tyV b] w (OpsP (opsT a b) w) := by
  obtain ⟨i0, hi0, hz0, hz1, hz2⟩ := info_parts int_info
  obtain ⟨k1, s1, l1, f1, n1, A1, m1, c1, vw1, k3, s3, l3, f3, n3, A3, m3, c3, e1, _, _, _, hk1⟩ := ty_ops a ha
  obtain ⟨k2, s2, l2, f2, n2, A2, m2, c2, vw2, k4, s4, l4, f4, n4, A4, m4, c4, e2, _, _, _, hk2⟩ := ty_ops b hb
  have hw1 := fun W (hW : Below w.heap.size w W) => arithmetic_any a W (ha.next hW)
  have hw2 := fun W (hW : Below w.heap.size w W) => arithmetic_any b W (hb.next hW)
  rw [ops_R]
  rw [tyV_of e1] at hw1
  rw [tyV_of e2] at hw2
  rw [tyV_of e1, tyV_of e2]
  have ca := cls a
  have cb := cls b
  generalize isF a = fa at *
  generalize isF b = fb at *
  generalize isP a = pa at *
  generalize isP b = pb at *
  generalize okN a = oa at *
  generalize okN b = ob at *
  generalize (wholeN a).1 = s at *
  generalize (wholeN a).2 = u at *
  generalize (wholeN b).1 = r at *
  generalize (wholeN b).2 = v at *
  have HW1 := Lib.hid hw1
  have HW2 := Lib.hid hw2
  clear hw1 hw2 e1 e2 ha hb
  rcases ca with ⟨rfl, rfl, rfl⟩ | ⟨rfl, rfl, rfl⟩ | ⟨rfl, rfl, rfl⟩ | ⟨rfl, rfl, rfl⟩ <;> rcases cb with ⟨rfl, rfl, rfl⟩ | ⟨rfl, rfl, rfl⟩ | ⟨rfl, rfl, rfl⟩ | ⟨rfl, rfl, rfl⟩
  all_goals (
    simp only [opsR, Bool.and_true, Bool.and_false, Bool.true_and, Bool.false_and, Bool.or_false, Bool.or_true, Bool.false_eq_true, if_true, if_false] at *
    first
    | exact rops_FN s u r v w hk1 hk2 HW1.out HW2.out
    | exact rops_NF s u r v w hk1 hk2 HW1.out HW2.out
    | exact rops_NN s u r v w hk1 hk2 HW1.out HW2.out
    | (as_aux_lemma =>
        have hA1 := cell_alloc_if
        have hA2 := frozen_alloc_if
        have hA3 := cell_set_if
        go_enter Tryd.func33, Tryd.ntmps33
        go_wp2_with (first | (go_at_call 67; (with_reducible refine (HW1.out _ (by (repeat' (first | (with_reducible exact Below.refl _ _) | (with_reducible assumption) | (with_reducible refine Below.setCell ?_ ?_ _) | (with_reducible refine Below.alloc ?_ ?_ _) | (with_reducible refine Below.drew ?_) | (with_reducible refine below_drewN ?_ _) | (with_reducible refine below_next ?_ (by with_reducible assumption)) | omega | (dsimp only; omega) | (simp only [World.size_alloc, World.size_setCell, World.size_drew, World.heap_drewN]; omega))))).mono ?_); rintro e w' ⟨rfl, hbl⟩; obtain ⟨hc, hf, hz⟩ := cif hbl; (try simp only [World.size_alloc, World.size_setCell, World.size_drew, World.heap_drewN] at hz)) | (go_at_call 67; (with_reducible refine (HW2.out _ (by (repeat' (first | (with_reducible exact Below.refl _ _) | (with_reducible assumption) | (with_reducible refine Below.setCell ?_ ?_ _) | (with_reducible refine Below.alloc ?_ ?_ _) | (with_reducible refine Below.drew ?_) | (with_reducible refine below_drewN ?_ _) | (with_reducible refine below_next ?_ (by with_reducible assumption)) | omega | (dsimp only; omega) | (simp only [World.size_alloc, World.size_setCell, World.size_drew, World.heap_drewN]; omega))))).mono ?_); rintro e w' ⟨rfl, hbl⟩; obtain ⟨hc, hf, hz⟩ := cif hbl; (try simp only [World.size_alloc, World.size_setCell, World.size_drew, World.heap_drewN] at hz)) | (go_at_call 71; (with_reducible refine (sign_any _ _ _ _ _).mono ?_); rintro e w' ⟨A7, c7, rfl, hrd, hbl⟩; have HRD := Lib.hid hrd; clear hrd; obtain ⟨hc, hf, hz⟩ := cif hbl; (try simp only [World.size_alloc, World.size_setCell, World.size_drew, World.heap_drewN] at hz)) | (go_at_call 72; (with_reducible refine (small_any _ _ _).mono ?_); rintro e w' ⟨A7, c7, rfl, hrd, hbl⟩; have HRD := Lib.hid hrd; clear hrd; obtain ⟨hc, hf, hz⟩ := cif hbl; (try simp only [World.size_alloc, World.size_setCell, World.size_drew, World.heap_drewN] at hz)))
        all_goals (go_returns; exact ops_none _ (by (repeat' (first | (with_reducible exact Below.refl _ _) | (with_reducible assumption) | (with_reducible refine Below.setCell ?_ ?_ _) | (with_reducible refine Below.alloc ?_ ?_ _) | (with_reducible refine Below.drew ?_) | (with_reducible refine below_drewN ?_ _) | (with_reducible refine below_next ?_ (by with_reducible assumption)) | omega | (dsimp only; omega) | (simp only [World.size_alloc, World.size_setCell, World.size_drew, World.heap_drewN]; omega)))))))

end Go.Proofs.YteeojgepgjndgaaDoor
