/-
  The common type of two: the program's, the reference's.
-/
import Derived.Test.YteeojgepgjndgaaDoorCtypeW4
namespace Go.Proofs.YteeojgepgjndgaaDoor
open Go.RowKit
set_option linter.unusedVariables false
set_option linter.unusedSimpArgs false
attribute [local go_sem] ta_nil_Void ta_yes_Void ta_no_Number_Void ta_no_Float_Void ta_no_Record_Void ta_no_Pointer_Void ta_no_Array_Void ta_no_Function_Void ta_nil_Number ta_yes_Number ta_no_Void_Number ta_no_Float_Number ta_no_Record_Number ta_no_Pointer_Number ta_no_Array_Number ta_no_Function_Number ta_nil_Float ta_yes_Float ta_no_Void_Float ta_no_Number_Float ta_no_Record_Float ta_no_Pointer_Float ta_no_Array_Float ta_no_Function_Float ta_nil_Record ta_yes_Record ta_no_Void_Record ta_no_Number_Record ta_no_Float_Record ta_no_Pointer_Record ta_no_Array_Record ta_no_Function_Record ta_nil_Pointer ta_yes_Pointer ta_no_Void_Pointer ta_no_Number_Pointer ta_no_Float_Pointer ta_no_Record_Pointer ta_no_Array_Pointer ta_no_Function_Pointer ta_nil_Array ta_yes_Array ta_no_Void_Array ta_no_Number_Array ta_no_Float_Array ta_no_Record_Array ta_no_Pointer_Array ta_no_Function_Array ta_nil_Function ta_yes_Function ta_no_Void_Function ta_no_Number_Function ta_no_Float_Function ta_no_Record_Function ta_no_Pointer_Function ta_no_Array_Function

/-- What a type is seen as, where it is asked whether it is a double. -/
theorem ty_isF {w : World} (t : Ty) (h : RdT w t) : ∃ (k s l : Int) (f : Bool) (n : ByteArray) (A : Option Addr) (m c : Nat) (vw : Value), tyC t = [.int .i64 k, .int .i64 s, .int .i64 l, .bool f, .string n, .slice A m c] ∧
    (∀ W, Below w.heap.size w W → Calls Tryd.prog 48 #[.agg #[.int .i64 k, .int .i64 s, .int .i64 l, .bool f, .string n, .slice A m c]] W fun e w' => e = .returned vw ∧ Below W.heap.size W w') ∧
    (∀ w, (Instr.typeAssert vw 20 75 true).run Tryd.prog w = .ok (.tuple #[.agg #[], .bool (isF t)]) w) := by
  obtain ⟨k, s, l, f, n, A, m, c, vw, e0, hv, hcase⟩ := ty_view t h
  refine ⟨k, s, l, f, n, A, m, c, vw, e0, hv, ?_⟩
  rcases hcase with ⟨rfl, rfl, rfl⟩ | ⟨rfl, rfl, rfl⟩ | ⟨rfl, rfl, rfl⟩ | ⟨rfl, rfl, rfl⟩ | ⟨rfl, rfl, rfl⟩ | ⟨t1, k1, s1, l1, f1, n1, A1, m1, c1, e1, r1, q1, rfl, rfl, rfl⟩ | ⟨t1, k1, s1, l1, f1, n1, A1, m1, c1, e1, r1, q1, rfl, rfl, rfl⟩ | ⟨t1, ps, k1, s1, l1, f1, n1, A1, m1, c1, A2, m2, c2, e1, r1, q1, rps, q2, rfl, rfl, rfl⟩
  · exact ta_nil_Float
  · exact ta_no_Void_Float _
  · exact ta_no_Number_Float _
  · exact ta_yes_Float _
  · exact ta_no_Record_Float _
  · exact ta_no_Pointer_Float _
  · exact ta_no_Array_Float _
  · exact ta_no_Function_Float _

set_option maxRecDepth 100000 in
set_option maxHeartbeats 4000000 in
theorem common_any (a b : Ty) (w : World) (ha : RdT w a) (hb : RdT w b) : Calls Tryd.prog 30 #[tyV a, tyV b] w fun e w' => e = .returned (.tuple #[tyV (common a b).1, .bool (common a b).2]) ∧ Below w.heap.size w w' := by
  obtain ⟨k1, s1, l1, f1, n1, A1, m1, c1, vw1, e1, hv1, ht1⟩ := ty_isF a ha
  obtain ⟨k2, s2, l2, f2, n2, A2, m2, c2, vw2, e2, hv2, ht2⟩ := ty_isF b hb
  obtain ⟨k3, s3, l3, f3, n3, A3, m3, c3, e3⟩ := tyC_form _ ha.promote
  obtain ⟨k4, s4, l4, f4, n4, A4, m4, c4, e4⟩ := tyC_form _ hb.promote
  have hp1 := fun W (hW : Below w.heap.size w W) => promote_any a W (ha.next hW)
  have hp2 := fun W (hW : Below w.heap.size w W) => promote_any b W (hb.next hW)
  have hw1 := fun W (hW : Below w.heap.size w W) => whole_any (promote a) W (ha.promote.next hW)
  have hw2 := fun W (hW : Below w.heap.size w W) => whole_any (promote b) W (hb.promote.next hW)
  rw [common_R]
  rw [okN_promote] at hw1 hw2
  rw [tyV_of e1, tyV_of e3] at hp1
  rw [tyV_of e2, tyV_of e4] at hp2
  rw [tyV_of e3] at hw1
  rw [tyV_of e4] at hw2
  rw [tyV_of e1, tyV_of e2]
  clear e1 e2 e3 e4 ha hb
  generalize isF a = fa at *
  generalize isF b = fb at *
  generalize okN a = oa at *
  generalize okN b = ob at *
  generalize (wholeN (promote a)).1 = s at *
  generalize (wholeN (promote a)).2 = u at *
  generalize (wholeN (promote b)).1 = r at *
  generalize (wholeN (promote b)).2 = v at *
  have HV1 := Lib.hid hv1
  have HV2 := Lib.hid hv2
  have HP1 := Lib.hid hp1
  have HP2 := Lib.hid hp2
  have HW1 := Lib.hid hw1
  have HW2 := Lib.hid hw2
  clear hv1 hv2 hp1 hp2 hw1 hw2
  have hA1 := cell_alloc_if
  have hA2 := frozen_alloc_if
  have hA3 := cell_set_if
  go_enter Tryd.func30, Tryd.ntmps30
  go_wp2_with (first
    | (go_at_call 48; (with_reducible refine (HV1.out _ (by (repeat' (first | (with_reducible exact Below.refl _ _) | (with_reducible assumption) | (with_reducible refine Below.setCell ?_ ?_ _) | (with_reducible refine Below.alloc ?_ ?_ _) | (with_reducible refine Below.drew ?_) | (with_reducible refine below_drewN ?_ _) | (with_reducible refine below_next ?_ (by with_reducible assumption)) | omega | (dsimp only; omega) | (simp only [World.size_alloc, World.size_setCell, World.size_drew, World.heap_drewN]; omega))))).mono ?_); rintro e w' ⟨rfl, hbl⟩; obtain ⟨hc, hf, hz⟩ := cif hbl; (try simp only [World.size_alloc, World.size_setCell, World.size_drew, World.heap_drewN] at hz))
    | (go_at_call 48; (with_reducible refine (HV2.out _ (by (repeat' (first | (with_reducible exact Below.refl _ _) | (with_reducible assumption) | (with_reducible refine Below.setCell ?_ ?_ _) | (with_reducible refine Below.alloc ?_ ?_ _) | (with_reducible refine Below.drew ?_) | (with_reducible refine below_drewN ?_ _) | (with_reducible refine below_next ?_ (by with_reducible assumption)) | omega | (dsimp only; omega) | (simp only [World.size_alloc, World.size_setCell, World.size_drew, World.heap_drewN]; omega))))).mono ?_); rintro e w' ⟨rfl, hbl⟩; obtain ⟨hc, hf, hz⟩ := cif hbl; (try simp only [World.size_alloc, World.size_setCell, World.size_drew, World.heap_drewN] at hz))
    | (go_at_call 27; (with_reducible refine (HP1.out _ (by (repeat' (first | (with_reducible exact Below.refl _ _) | (with_reducible assumption) | (with_reducible refine Below.setCell ?_ ?_ _) | (with_reducible refine Below.alloc ?_ ?_ _) | (with_reducible refine Below.drew ?_) | (with_reducible refine below_drewN ?_ _) | (with_reducible refine below_next ?_ (by with_reducible assumption)) | omega | (dsimp only; omega) | (simp only [World.size_alloc, World.size_setCell, World.size_drew, World.heap_drewN]; omega))))).mono ?_); rintro e w' ⟨rfl, hbl⟩; obtain ⟨hc, hf, hz⟩ := cif hbl; (try simp only [World.size_alloc, World.size_setCell, World.size_drew, World.heap_drewN] at hz))
    | (go_at_call 27; (with_reducible refine (HP2.out _ (by (repeat' (first | (with_reducible exact Below.refl _ _) | (with_reducible assumption) | (with_reducible refine Below.setCell ?_ ?_ _) | (with_reducible refine Below.alloc ?_ ?_ _) | (with_reducible refine Below.drew ?_) | (with_reducible refine below_drewN ?_ _) | (with_reducible refine below_next ?_ (by with_reducible assumption)) | omega | (dsimp only; omega) | (simp only [World.size_alloc, World.size_setCell, World.size_drew, World.heap_drewN]; omega))))).mono ?_); rintro e w' ⟨rfl, hbl⟩; obtain ⟨hc, hf, hz⟩ := cif hbl; (try simp only [World.size_alloc, World.size_setCell, World.size_drew, World.heap_drewN] at hz))
    | (go_at_call 49; (with_reducible refine (HW1.out _ (by (repeat' (first | (with_reducible exact Below.refl _ _) | (with_reducible assumption) | (with_reducible refine Below.setCell ?_ ?_ _) | (with_reducible refine Below.alloc ?_ ?_ _) | (with_reducible refine Below.drew ?_) | (with_reducible refine below_drewN ?_ _) | (with_reducible refine below_next ?_ (by with_reducible assumption)) | omega | (dsimp only; omega) | (simp only [World.size_alloc, World.size_setCell, World.size_drew, World.heap_drewN]; omega))))).mono ?_); rintro e w' ⟨rfl, hbl⟩; obtain ⟨hc, hf, hz⟩ := cif hbl; (try simp only [World.size_alloc, World.size_setCell, World.size_drew, World.heap_drewN] at hz))
    | (go_at_call 49; (with_reducible refine (HW2.out _ (by (repeat' (first | (with_reducible exact Below.refl _ _) | (with_reducible assumption) | (with_reducible refine Below.setCell ?_ ?_ _) | (with_reducible refine Below.alloc ?_ ?_ _) | (with_reducible refine Below.drew ?_) | (with_reducible refine below_drewN ?_ _) | (with_reducible refine below_next ?_ (by with_reducible assumption)) | omega | (dsimp only; omega) | (simp only [World.size_alloc, World.size_setCell, World.size_drew, World.heap_drewN]; omega))))).mono ?_); rintro e w' ⟨rfl, hbl⟩; obtain ⟨hc, hf, hz⟩ := cif hbl; (try simp only [World.size_alloc, World.size_setCell, World.size_drew, World.heap_drewN] at hz))
    | (go_at_call 42; (with_reducible refine (floatTy_any _).mono ?_); rintro e w' ⟨rfl, hbl⟩; obtain ⟨hc, hf, hz⟩ := cif hbl; (try simp only [World.size_alloc, World.size_setCell, World.size_drew, World.heap_drewN] at hz))
    | (go_at_call 39; (with_reducible refine (numberTy_any _ _ _).mono ?_); rintro e w' ⟨rfl, hbl⟩; obtain ⟨hc, hf, hz⟩ := cif hbl; (try simp only [World.size_alloc, World.size_setCell, World.size_drew, World.heap_drewN] at hz)))
  all_goals (((try simp only [Exit.inBlock, Exit.then]); go_light; refine bodyPost_ret (by simp [results, Tryd.results30, go_sem, *, ↓IntWalk.iteOmega]; try rfl) rfl ?_); refine ⟨congrArg Ending.returned ?_, by (repeat' (first | (with_reducible exact Below.refl _ _) | (with_reducible assumption) | (with_reducible refine Below.setCell ?_ ?_ _) | (with_reducible refine Below.alloc ?_ ?_ _) | (with_reducible refine Below.drew ?_) | (with_reducible refine below_drewN ?_ _) | (with_reducible refine below_next ?_ (by with_reducible assumption)) | omega | (dsimp only; omega) | (simp only [World.size_alloc, World.size_setCell, World.size_drew, World.heap_drewN]; omega)))⟩; clear hA1 hA2 hA3)
  all_goals (unfold commonR; simp_all; first | done | rfl | (split <;> simp_all [tyV, tyC, tyMk]; done) | grind [tyV, tyC, tyMk])

set_option maxRecDepth 100000 in
set_option maxHeartbeats 4000000 in
theorem rcommon_any (a b : Ty) (w : World) (ha : RdT w a) (hb : RdT w b) : Calls Tryd.prog 31 #[tyV a, tyV b] w fun e w' => e = .returned (.tuple #[tyV (common a b).1, .bool (common a b).2]) ∧ Below w.heap.size w w' := by
  obtain ⟨k1, s1, l1, f1, n1, A1, m1, c1, e1⟩ := tyC_form a ha
  obtain ⟨k2, s2, l2, f2, n2, A2, m2, c2, e2⟩ := tyC_form b hb
  obtain ⟨k3, s3, l3, f3, n3, A3, m3, c3, e3⟩ := tyC_form _ ha.promote
  obtain ⟨k4, s4, l4, f4, n4, A4, m4, c4, e4⟩ := tyC_form _ hb.promote
  have hp1 := fun W (hW : Below w.heap.size w W) => rpromote_any a W (ha.next hW)
  have hp2 := fun W (hW : Below w.heap.size w W) => rpromote_any b W (hb.next hW)
  have hv1 := fun W (hW : Below w.heap.size w W) => arithmetic_any a W (ha.next hW)
  have hv2 := fun W (hW : Below w.heap.size w W) => arithmetic_any b W (hb.next hW)
  have hw1 := fun W (hW : Below w.heap.size w W) => arithmetic_any (promote a) W (ha.promote.next hW)
  have hw2 := fun W (hW : Below w.heap.size w W) => arithmetic_any (promote b) W (hb.promote.next hW)
  rw [common_R]
  rw [okN_promote, isF_promote] at hw1 hw2
  rw [tyV_of e1, tyV_of e3] at hp1
  rw [tyV_of e2, tyV_of e4] at hp2
  rw [tyV_of e1] at hv1
  rw [tyV_of e2] at hv2
  rw [tyV_of e3] at hw1
  rw [tyV_of e4] at hw2
  rw [tyV_of e1, tyV_of e2]
  clear e1 e2 e3 e4 ha hb
  generalize isF a = fa at *
  generalize isF b = fb at *
  generalize okN a = oa at *
  generalize okN b = ob at *
  generalize (wholeN (promote a)).1 = s at *
  generalize (wholeN (promote a)).2 = u at *
  generalize (wholeN (promote b)).1 = r at *
  generalize (wholeN (promote b)).2 = v at *
  generalize (wholeN a).1 = s' at *
  generalize (wholeN a).2 = u' at *
  generalize (wholeN b).1 = r' at *
  generalize (wholeN b).2 = v' at *
  obtain ⟨pa, hpa⟩ : ∃ pa, pa = (fa || oa) := ⟨_, rfl⟩
  obtain ⟨pb, hpb⟩ : ∃ pb, pb = (fb || ob) := ⟨_, rfl⟩
  rw [← hpa] at hv1 hw1
  rw [← hpb] at hv2 hw2
  have HPA := Lib.hid hpa
  have HPB := Lib.hid hpb
  clear hpa hpb
  have HV1 := Lib.hid hv1
  have HV2 := Lib.hid hv2
  have HP1 := Lib.hid hp1
  have HP2 := Lib.hid hp2
  have HW1 := Lib.hid hw1
  have HW2 := Lib.hid hw2
  clear hv1 hv2 hp1 hp2 hw1 hw2
  have hA1 := cell_alloc_if
  have hA2 := frozen_alloc_if
  have hA3 := cell_set_if
  go_enter Tryd.func31, Tryd.ntmps31
  go_wp2_with (first
    | (go_at_call 67; (with_reducible refine (HV1.out _ (by (repeat' (first | (with_reducible exact Below.refl _ _) | (with_reducible assumption) | (with_reducible refine Below.setCell ?_ ?_ _) | (with_reducible refine Below.alloc ?_ ?_ _) | (with_reducible refine Below.drew ?_) | (with_reducible refine below_drewN ?_ _) | (with_reducible refine below_next ?_ (by with_reducible assumption)) | omega | (dsimp only; omega) | (simp only [World.size_alloc, World.size_setCell, World.size_drew, World.heap_drewN]; omega))))).mono ?_); rintro e w' ⟨rfl, hbl⟩; obtain ⟨hc, hf, hz⟩ := cif hbl; (try simp only [World.size_alloc, World.size_setCell, World.size_drew, World.heap_drewN] at hz))
    | (go_at_call 67; (with_reducible refine (HV2.out _ (by (repeat' (first | (with_reducible exact Below.refl _ _) | (with_reducible assumption) | (with_reducible refine Below.setCell ?_ ?_ _) | (with_reducible refine Below.alloc ?_ ?_ _) | (with_reducible refine Below.drew ?_) | (with_reducible refine below_drewN ?_ _) | (with_reducible refine below_next ?_ (by with_reducible assumption)) | omega | (dsimp only; omega) | (simp only [World.size_alloc, World.size_setCell, World.size_drew, World.heap_drewN]; omega))))).mono ?_); rintro e w' ⟨rfl, hbl⟩; obtain ⟨hc, hf, hz⟩ := cif hbl; (try simp only [World.size_alloc, World.size_setCell, World.size_drew, World.heap_drewN] at hz))
    | (go_at_call 28; (with_reducible refine (HP1.out _ (by (repeat' (first | (with_reducible exact Below.refl _ _) | (with_reducible assumption) | (with_reducible refine Below.setCell ?_ ?_ _) | (with_reducible refine Below.alloc ?_ ?_ _) | (with_reducible refine Below.drew ?_) | (with_reducible refine below_drewN ?_ _) | (with_reducible refine below_next ?_ (by with_reducible assumption)) | omega | (dsimp only; omega) | (simp only [World.size_alloc, World.size_setCell, World.size_drew, World.heap_drewN]; omega))))).mono ?_); rintro e w' ⟨rfl, hbl⟩; obtain ⟨hc, hf, hz⟩ := cif hbl; (try simp only [World.size_alloc, World.size_setCell, World.size_drew, World.heap_drewN] at hz))
    | (go_at_call 28; (with_reducible refine (HP2.out _ (by (repeat' (first | (with_reducible exact Below.refl _ _) | (with_reducible assumption) | (with_reducible refine Below.setCell ?_ ?_ _) | (with_reducible refine Below.alloc ?_ ?_ _) | (with_reducible refine Below.drew ?_) | (with_reducible refine below_drewN ?_ _) | (with_reducible refine below_next ?_ (by with_reducible assumption)) | omega | (dsimp only; omega) | (simp only [World.size_alloc, World.size_setCell, World.size_drew, World.heap_drewN]; omega))))).mono ?_); rintro e w' ⟨rfl, hbl⟩; obtain ⟨hc, hf, hz⟩ := cif hbl; (try simp only [World.size_alloc, World.size_setCell, World.size_drew, World.heap_drewN] at hz))
    | (go_at_call 67; (with_reducible refine (HW1.out _ (by (repeat' (first | (with_reducible exact Below.refl _ _) | (with_reducible assumption) | (with_reducible refine Below.setCell ?_ ?_ _) | (with_reducible refine Below.alloc ?_ ?_ _) | (with_reducible refine Below.drew ?_) | (with_reducible refine below_drewN ?_ _) | (with_reducible refine below_next ?_ (by with_reducible assumption)) | omega | (dsimp only; omega) | (simp only [World.size_alloc, World.size_setCell, World.size_drew, World.heap_drewN]; omega))))).mono ?_); rintro e w' ⟨rfl, hbl⟩; obtain ⟨hc, hf, hz⟩ := cif hbl; (try simp only [World.size_alloc, World.size_setCell, World.size_drew, World.heap_drewN] at hz))
    | (go_at_call 67; (with_reducible refine (HW2.out _ (by (repeat' (first | (with_reducible exact Below.refl _ _) | (with_reducible assumption) | (with_reducible refine Below.setCell ?_ ?_ _) | (with_reducible refine Below.alloc ?_ ?_ _) | (with_reducible refine Below.drew ?_) | (with_reducible refine below_drewN ?_ _) | (with_reducible refine below_next ?_ (by with_reducible assumption)) | omega | (dsimp only; omega) | (simp only [World.size_alloc, World.size_setCell, World.size_drew, World.heap_drewN]; omega))))).mono ?_); rintro e w' ⟨rfl, hbl⟩; obtain ⟨hc, hf, hz⟩ := cif hbl; (try simp only [World.size_alloc, World.size_setCell, World.size_drew, World.heap_drewN] at hz))
    | (go_at_call 42; (with_reducible refine (floatTy_any _).mono ?_); rintro e w' ⟨rfl, hbl⟩; obtain ⟨hc, hf, hz⟩ := cif hbl; (try simp only [World.size_alloc, World.size_setCell, World.size_drew, World.heap_drewN] at hz))
    | (go_at_call 39; (with_reducible refine (numberTy_any _ _ _).mono ?_); rintro e w' ⟨rfl, hbl⟩; obtain ⟨hc, hf, hz⟩ := cif hbl; (try simp only [World.size_alloc, World.size_setCell, World.size_drew, World.heap_drewN] at hz)))
  all_goals (((try simp only [Exit.inBlock, Exit.then]); go_light; refine bodyPost_ret (by simp [results, Tryd.results31, go_sem, *, ↓IntWalk.iteOmega]; try rfl) rfl ?_); refine ⟨congrArg Ending.returned ?_, by (repeat' (first | (with_reducible exact Below.refl _ _) | (with_reducible assumption) | (with_reducible refine Below.setCell ?_ ?_ _) | (with_reducible refine Below.alloc ?_ ?_ _) | (with_reducible refine Below.drew ?_) | (with_reducible refine below_drewN ?_ _) | (with_reducible refine below_next ?_ (by with_reducible assumption)) | omega | (dsimp only; omega) | (simp only [World.size_alloc, World.size_setCell, World.size_drew, World.heap_drewN]; omega)))⟩; clear hA1 hA2 hA3; have hpa := HPA.out; have hpb := HPB.out; clear HPA HPB)
  all_goals (unfold commonR; simp_all; first | done | rfl | (split <;> simp_all [tyV, tyC, tyMk]; done) | grind [tyV, tyC, tyMk])

end Go.Proofs.YteeojgepgjndgaaDoor
