/-
  A complete type's size and alignment: the program's, the reference's.
-/
import Derived.Test.YteeojgepgjndgaaDoorCtypeW9
import Derived.Test.YteeojgepgjndgaaDoorCtypeW14
namespace Go.Proofs.YteeojgepgjndgaaDoor
open Go.RowKit
set_option linter.unusedVariables false
set_option linter.unusedSimpArgs false
attribute [local go_sem] ta_nil_Void ta_yes_Void ta_no_Number_Void ta_no_Float_Void ta_no_Record_Void ta_no_Pointer_Void ta_no_Array_Void ta_no_Function_Void ta_nil_Number ta_yes_Number ta_no_Void_Number ta_no_Float_Number ta_no_Record_Number ta_no_Pointer_Number ta_no_Array_Number ta_no_Function_Number ta_nil_Float ta_yes_Float ta_no_Void_Float ta_no_Number_Float ta_no_Record_Float ta_no_Pointer_Float ta_no_Array_Float ta_no_Function_Float ta_nil_Record ta_yes_Record ta_no_Void_Record ta_no_Number_Record ta_no_Float_Record ta_no_Pointer_Record ta_no_Array_Record ta_no_Function_Record ta_nil_Pointer ta_yes_Pointer ta_no_Void_Pointer ta_no_Number_Pointer ta_no_Float_Pointer ta_no_Record_Pointer ta_no_Array_Pointer ta_no_Function_Pointer ta_nil_Array ta_yes_Array ta_no_Void_Array ta_no_Number_Array ta_no_Float_Array ta_no_Record_Array ta_no_Pointer_Array ta_no_Function_Array ta_nil_Function ta_yes_Function ta_no_Void_Function ta_no_Number_Function ta_no_Float_Function ta_no_Record_Function ta_no_Pointer_Function ta_no_Array_Function

def sizeT (K : List Ly) (t : Ty) : Int × Int := (complete K t).getD (0, 0)
def CompAt (t : Ty) : Prop := ∀ (K : List Ly) (s : Value) (w : World), KOk K → RdLs w s K → RdT w t → Calls Tryd.prog 50 #[tyV t, s] w fun e w' => e = .returned (.bool (complete K t).isSome) ∧ Below w.heap.size w w'
def SizeAt (t : Ty) : Prop := ∀ (K : List Ly) (s : Value) (w : World), KOk K → RdLs w s K → RdT w t → Calls Tryd.prog 12 #[tyV t, s] w fun e w' => e = .returned (.tuple #[.int .i64 (sizeT K t).1, .int .i64 (sizeT K t).2]) ∧ Below w.heap.size w w'
set_option maxRecDepth 100000 in
set_option maxHeartbeats 2000000 in
theorem comp_rcd (u : Bool) (n : ByteArray) : CompAt (.rcd u n) := by
  intro K s w hK h hr
  have hfi := fun W (hW : Below w.heap.size w W) => find_any s K n W (h.next hW)
  unfold FindR at hfi
  obtain ⟨A2, m2, c2, e2, _⟩ := lyC_form _ (foundL_rd h n.toList)
  rw [e2] at hfi
  have hres : (complete K (.rcd u n)).isSome = ((find K n.toList).isSome && ((foundL K n.toList).union == u)) := by
    unfold complete foundL
    cases find K n.toList with
    | none => rfl
    | some y =>
      simp only [Option.getD_some, Option.isSome_some, Bool.true_and]
      by_cases hu : y.union = u <;> simp [hu]
  rw [hres, show tyV (.rcd u n) = .agg #[.int .i64 6, .int .i64 0, .int .i64 0, .bool u, .string n, .slice none 0 0] from rfl]
  have HFI := Lib.hid hfi
  clear hfi e2 hres h hr hK
  generalize (foundL K n.toList).name = fnm at *
  generalize (foundL K n.toList).union = fu at *
  generalize (foundL K n.toList).size = fz at *
  generalize (foundL K n.toList).align = fa at *
  generalize (find K n.toList).isSome = ok at *
  cases ok
  all_goals (
    have hA1 := cell_alloc_if
    have hA2 := frozen_alloc_if
    have hA3 := cell_set_if
    go_enter Tryd.func50, Tryd.ntmps50
    go_wp2_with (first | (go_at_call 48; (with_reducible refine (view_6 _ _ _ _ _ _ _ _).mono ?_); rintro e w' ⟨rfl, hbl⟩; obtain ⟨hc, hf, hz⟩ := cif hbl; (try simp only [World.size_alloc, World.size_setCell, World.size_drew, World.heap_drewN] at hz)) | (go_at_call 14; (with_reducible refine (HFI.out _ (by (repeat' (first | (with_reducible exact Below.refl _ _) | (with_reducible assumption) | (with_reducible refine Below.setCell ?_ ?_ _) | (with_reducible refine Below.alloc ?_ ?_ _) | (with_reducible refine Below.drew ?_) | (with_reducible refine below_drewN ?_ _) | (with_reducible refine below_next ?_ (by with_reducible assumption)) | omega | (dsimp only; omega) | (simp only [World.size_alloc, World.size_setCell, World.size_drew, World.heap_drewN]; omega))))).mono ?_); rintro e w' ⟨rfl, hbl⟩; obtain ⟨hc, hf, hz⟩ := cif hbl; (try simp only [World.size_alloc, World.size_setCell, World.size_drew, World.heap_drewN] at hz)))
    all_goals (go_returns; exact ⟨by simp, by (repeat' (first | (with_reducible exact Below.refl _ _) | (with_reducible assumption) | (with_reducible refine Below.setCell ?_ ?_ _) | (with_reducible refine Below.alloc ?_ ?_ _) | (with_reducible refine Below.drew ?_) | (with_reducible refine below_drewN ?_ _) | (with_reducible refine below_next ?_ (by with_reducible assumption)) | omega | (dsimp only; omega) | (simp only [World.size_alloc, World.size_setCell, World.size_drew, World.heap_drewN]; omega)))⟩))
set_option maxRecDepth 100000 in
set_option maxHeartbeats 2000000 in
theorem comp_plain (t : Ty) (ha : isA t = false) (hr0 : ∀ u n, t ≠ .rcd u n) : CompAt t := by
  intro K sk w hK h hr
  have HK := Lib.hid hK
  have HL := Lib.hid h
  clear hK h
  have h := hr
  clear hr
  obtain ⟨k, s, l, f, n, A, m, c, vw, e0, hv, hcase⟩ := ty_view t h
  rw [tyV_of e0]
  have HV := Lib.hid hv
  have HT := Lib.hid h
  clear e0 hv h
  rcases hcase with ⟨rfl, rfl, rfl⟩ | ⟨rfl, rfl, rfl⟩ | ⟨rfl, rfl, rfl⟩ | ⟨rfl, rfl, rfl⟩ | ⟨rfl, rfl, rfl⟩ | ⟨t1, k1, s1, l1, f1, n1, A1, m1, c1, e1, r1, q1, rfl, rfl, rfl⟩ | ⟨t1, k1, s1, l1, f1, n1, A1, m1, c1, e1, r1, q1, rfl, rfl, rfl⟩ | ⟨t1, ps, k1, s1, l1, f1, n1, A1, m1, c1, A2, m2, c2, e1, r1, q1, rps, q2, rfl, rfl, rfl⟩
  all_goals (try (have E1 := Lib.hid e1; have R1 := Lib.hid r1; have Q1 := Lib.hid q1; clear e1 r1 q1))
  all_goals (try (have RPS := Lib.hid rps; have Q2 := Lib.hid q2; clear rps q2))
  case inr.inr.inr.inr.inl => exact absurd rfl (hr0 _ _)
  case inr.inr.inr.inr.inr.inr.inl => cases ha
  case inr.inr.inl =>
    clear hr0 ha
    have hres : (complete K (.num s f)).isSome = isSz s := by unfold complete; cases isSz s <;> rfl
    rw [hres]
    clear hres
    have hA1 := cell_alloc_if
    have hA2 := frozen_alloc_if
    have hA3 := cell_set_if
    go_enter Tryd.func50, Tryd.ntmps50
    go_wp2_with (first
      | (go_at_call 48; (with_reducible refine (HV.out _ (by (repeat' (first | (with_reducible exact Below.refl _ _) | (with_reducible assumption) | (with_reducible refine Below.setCell ?_ ?_ _) | (with_reducible refine Below.alloc ?_ ?_ _) | (with_reducible refine Below.drew ?_) | (with_reducible refine below_drewN ?_ _) | (with_reducible refine below_next ?_ (by with_reducible assumption)) | omega | (dsimp only; omega) | (simp only [World.size_alloc, World.size_setCell, World.size_drew, World.heap_drewN]; omega))))).mono ?_); rintro e w' ⟨rfl, hbl⟩; obtain ⟨hc, hf, hz⟩ := cif hbl; (try simp only [World.size_alloc, World.size_setCell, World.size_drew, World.heap_drewN] at hz))
      | (go_at_call 39; (with_reducible refine (numberTy_any _ _ _).mono ?_); rintro e w' ⟨rfl, hbl⟩; obtain ⟨hc, hf, hz⟩ := cif hbl; (try simp only [World.size_alloc, World.size_setCell, World.size_drew, World.heap_drewN] at hz))
      | (go_at_call 49; (with_reducible refine (whole_num _ _ _ _ _ _ _ _).mono ?_); rintro e w' ⟨rfl, hbl⟩; obtain ⟨hc, hf, hz⟩ := cif hbl; (try simp only [World.size_alloc, World.size_setCell, World.size_drew, World.heap_drewN] at hz)))
    all_goals (go_returns; exact ⟨rfl, by (repeat' (first | (with_reducible exact Below.refl _ _) | (with_reducible assumption) | (with_reducible refine Below.setCell ?_ ?_ _) | (with_reducible refine Below.alloc ?_ ?_ _) | (with_reducible refine Below.drew ?_) | (with_reducible refine below_drewN ?_ _) | (with_reducible refine below_next ?_ (by with_reducible assumption)) | omega | (dsimp only; omega) | (simp only [World.size_alloc, World.size_setCell, World.size_drew, World.heap_drewN]; omega)))⟩)
  all_goals (
    clear hr0 ha
    have hA1 := cell_alloc_if
    have hA2 := frozen_alloc_if
    have hA3 := cell_set_if
    go_enter Tryd.func50, Tryd.ntmps50
    go_wp2_with (go_at_call 48; (with_reducible refine (HV.out _ (by (repeat' (first | (with_reducible exact Below.refl _ _) | (with_reducible assumption) | (with_reducible refine Below.setCell ?_ ?_ _) | (with_reducible refine Below.alloc ?_ ?_ _) | (with_reducible refine Below.drew ?_) | (with_reducible refine below_drewN ?_ _) | (with_reducible refine below_next ?_ (by with_reducible assumption)) | omega | (dsimp only; omega) | (simp only [World.size_alloc, World.size_setCell, World.size_drew, World.heap_drewN]; omega))))).mono ?_); rintro e w' ⟨rfl, hbl⟩; obtain ⟨hc, hf, hz⟩ := cif hbl; (try simp only [World.size_alloc, World.size_setCell, World.size_drew, World.heap_drewN] at hz))
    all_goals (go_returns; exact ⟨rfl, by (repeat' (first | (with_reducible exact Below.refl _ _) | (with_reducible assumption) | (with_reducible refine Below.setCell ?_ ?_ _) | (with_reducible refine Below.alloc ?_ ?_ _) | (with_reducible refine Below.drew ?_) | (with_reducible refine below_drewN ?_ _) | (with_reducible refine below_next ?_ (by with_reducible assumption)) | omega | (dsimp only; omega) | (simp only [World.size_alloc, World.size_setCell, World.size_drew, World.heap_drewN]; omega)))⟩))
set_option maxRecDepth 100000 in
set_option maxHeartbeats 4000000 in
theorem comp_arr (sv : Value) (d : Int) (t : Ty) (ihs : SizeAt t) (ihc : CompAt t) : CompAt (.arr sv d t) := by
  intro K sk w hK hk hr
  obtain ⟨k, s, l, f, n, A, m, c, k1, s1, l1, f1, n1, A1, m1, c1, e0, e1, r1, hv1⟩ := arr_view sv d t hr
  have hs := fun W (hW : Below w.heap.size w W) => ihs K sk W hK (hk.next hW) (r1.next hW)
  have hc := fun W (hW : Below w.heap.size w W) => ihc K sk W hK (hk.next hW) (r1.next hW)
  rw [tyV_of e1] at hs hc
  rw [tyV_of e0]
  have HV1 := Lib.hid hv1
  unfold sizeT at hs
  unfold complete
  have hcm := complete_ok K hK t
  obtain ⟨As, cs, rfl⟩ := hk.1.form
  clear e0 e1 r1 hv1 hr hk hK ihs ihc
  cases hct : complete K t with
  | none =>
    rw [hct] at hs hc
    simp only [Option.getD_none, Option.isSome_none] at hs hc ⊢
    have HS := Lib.hid hs
    have HC := Lib.hid hc
    clear hs hc hct hcm
    have hA1 := cell_alloc_if
    have hA2 := frozen_alloc_if
    have hA3 := cell_set_if
    go_enter Tryd.func50, Tryd.ntmps50
    go_wp2_with (first | (go_at_call 48; (with_reducible refine (HV1.out _ (by (repeat' (first | (with_reducible exact Below.refl _ _) | (with_reducible assumption) | (with_reducible refine Below.setCell ?_ ?_ _) | (with_reducible refine Below.alloc ?_ ?_ _) | (with_reducible refine Below.drew ?_) | (with_reducible refine below_drewN ?_ _) | (with_reducible refine below_next ?_ (by with_reducible assumption)) | omega | (dsimp only; omega) | (simp only [World.size_alloc, World.size_setCell, World.size_drew, World.heap_drewN]; omega))))).mono ?_); rintro e w' ⟨rfl, hbl⟩; obtain ⟨hc, hf, hz⟩ := cif hbl; (try simp only [World.size_alloc, World.size_setCell, World.size_drew, World.heap_drewN] at hz)) | (go_at_call 12; (with_reducible refine (HS.out _ (by (repeat' (first | (with_reducible exact Below.refl _ _) | (with_reducible assumption) | (with_reducible refine Below.setCell ?_ ?_ _) | (with_reducible refine Below.alloc ?_ ?_ _) | (with_reducible refine Below.drew ?_) | (with_reducible refine below_drewN ?_ _) | (with_reducible refine below_next ?_ (by with_reducible assumption)) | omega | (dsimp only; omega) | (simp only [World.size_alloc, World.size_setCell, World.size_drew, World.heap_drewN]; omega))))).mono ?_); rintro e w' ⟨rfl, hbl⟩; obtain ⟨hc, hf, hz⟩ := cif hbl; (try simp only [World.size_alloc, World.size_setCell, World.size_drew, World.heap_drewN] at hz)))
    refine wp_region_ext (by kernel_rfl) (by kernel_rfl) ?_
    repeat (first | go_big_quiet_skip | (go_big_quiet_want; go_big_quiet_op; first | go_big_quiet_on | (apply Exists.intro; refine ⟨fun W hW => ?_, ?_⟩; (focus (first
      | (go_at_call 50; have hWb := Ext.of hW; (with_reducible refine (HC.out _ (by (repeat' (first | (with_reducible exact Below.refl _ _) | (with_reducible assumption) | (with_reducible refine Below.setCell ?_ ?_ _) | (with_reducible refine Below.alloc ?_ ?_ _) | (with_reducible refine Below.drew ?_) | (with_reducible refine below_drewN ?_ _) | (with_reducible refine below_next ?_ (by with_reducible assumption)) | omega | (dsimp only; omega) | (simp only [World.size_alloc, World.size_setCell, World.size_drew, World.heap_drewN]; omega))))).mono ?_); rintro e w1 ⟨rfl, hb⟩; exact ⟨rfl, Ext.next hW hb⟩)
      | exact rfl | (obtain ⟨hcW, hfW, hzW⟩ := cif (Ext.of hW); (try simp only [World.size_alloc, World.size_setCell, World.size_drew, World.heap_drewN] at hzW); simp [go_sem, *, ↓IntWalk.iteOmega]; (try exact rfl)))); go_big_quiet_on)))
    refine wpQuiet_nil ?_
    intro w' hw'
    have hbl := Ext.of hw'
    obtain ⟨hc, hf, hz⟩ := cif hbl
    (try simp only [World.size_alloc, World.size_setCell, World.size_drew, World.heap_drewN] at hz)
    clear hw'
    go_wp2
    go_returns
    exact ⟨rfl, by (repeat' (first | (with_reducible exact Below.refl _ _) | (with_reducible assumption) | (with_reducible refine Below.setCell ?_ ?_ _) | (with_reducible refine Below.alloc ?_ ?_ _) | (with_reducible refine Below.drew ?_) | (with_reducible refine below_drewN ?_ _) | (with_reducible refine below_next ?_ (by with_reducible assumption)) | omega | (dsimp only; omega) | (simp only [World.size_alloc, World.size_setCell, World.size_drew, World.heap_drewN]; omega)))⟩
  | some sa =>
    obtain ⟨z, a⟩ := sa
    obtain ⟨z0, z1, _⟩ := hcm z a hct
    rw [hct] at hs hc
    simp only [Option.getD_some, Option.isSome_some] at hs hc ⊢
    have HS := Lib.hid hs
    have HC := Lib.hid hc
    clear hs hc hct hcm
    by_cases hd : 0 < d
    · by_cases hz : z ≤ 0
      · rw [if_pos ⟨hd, .inl hz⟩]
        have hA1 := cell_alloc_if
        have hA2 := frozen_alloc_if
        have hA3 := cell_set_if
        go_enter Tryd.func50, Tryd.ntmps50
        go_wp2_with (first | (go_at_call 48; (with_reducible refine (HV1.out _ (by (repeat' (first | (with_reducible exact Below.refl _ _) | (with_reducible assumption) | (with_reducible refine Below.setCell ?_ ?_ _) | (with_reducible refine Below.alloc ?_ ?_ _) | (with_reducible refine Below.drew ?_) | (with_reducible refine below_drewN ?_ _) | (with_reducible refine below_next ?_ (by with_reducible assumption)) | omega | (dsimp only; omega) | (simp only [World.size_alloc, World.size_setCell, World.size_drew, World.heap_drewN]; omega))))).mono ?_); rintro e w' ⟨rfl, hbl⟩; obtain ⟨hc, hf, hz⟩ := cif hbl; (try simp only [World.size_alloc, World.size_setCell, World.size_drew, World.heap_drewN] at hz)) | (go_at_call 12; (with_reducible refine (HS.out _ (by (repeat' (first | (with_reducible exact Below.refl _ _) | (with_reducible assumption) | (with_reducible refine Below.setCell ?_ ?_ _) | (with_reducible refine Below.alloc ?_ ?_ _) | (with_reducible refine Below.drew ?_) | (with_reducible refine below_drewN ?_ _) | (with_reducible refine below_next ?_ (by with_reducible assumption)) | omega | (dsimp only; omega) | (simp only [World.size_alloc, World.size_setCell, World.size_drew, World.heap_drewN]; omega))))).mono ?_); rintro e w' ⟨rfl, hbl⟩; obtain ⟨hc, hf, hz⟩ := cif hbl; (try simp only [World.size_alloc, World.size_setCell, World.size_drew, World.heap_drewN] at hz)))
        refine wp_region_ext (by kernel_rfl) (by kernel_rfl) ?_
        repeat (first | go_big_quiet_skip | (go_big_quiet_want; go_big_quiet_op; first | go_big_quiet_on | (apply Exists.intro; refine ⟨fun W hW => ?_, ?_⟩; (focus (first
          | (go_at_call 50; have hWb := Ext.of hW; (with_reducible refine (HC.out _ (by (repeat' (first | (with_reducible exact Below.refl _ _) | (with_reducible assumption) | (with_reducible refine Below.setCell ?_ ?_ _) | (with_reducible refine Below.alloc ?_ ?_ _) | (with_reducible refine Below.drew ?_) | (with_reducible refine below_drewN ?_ _) | (with_reducible refine below_next ?_ (by with_reducible assumption)) | omega | (dsimp only; omega) | (simp only [World.size_alloc, World.size_setCell, World.size_drew, World.heap_drewN]; omega))))).mono ?_); rintro e w1 ⟨rfl, hb⟩; exact ⟨rfl, Ext.next hW hb⟩)
          | exact rfl | (obtain ⟨hcW, hfW, hzW⟩ := cif (Ext.of hW); (try simp only [World.size_alloc, World.size_setCell, World.size_drew, World.heap_drewN] at hzW); simp [go_sem, *, ↓IntWalk.iteOmega]; (try exact rfl)))); go_big_quiet_on)))
        refine wpQuiet_nil ?_
        intro w' hw'
        have hbl := Ext.of hw'
        obtain ⟨hc, hf, hz⟩ := cif hbl
        (try simp only [World.size_alloc, World.size_setCell, World.size_drew, World.heap_drewN] at hz)
        clear hw'
        go_wp2
        go_returns
        exact ⟨rfl, by (repeat' (first | (with_reducible exact Below.refl _ _) | (with_reducible assumption) | (with_reducible refine Below.setCell ?_ ?_ _) | (with_reducible refine Below.alloc ?_ ?_ _) | (with_reducible refine Below.drew ?_) | (with_reducible refine below_drewN ?_ _) | (with_reducible refine below_next ?_ (by with_reducible assumption)) | omega | (dsimp only; omega) | (simp only [World.size_alloc, World.size_setCell, World.size_drew, World.heap_drewN]; omega)))⟩
      · have hz' : 0 < z := by omega
        have hq : (1048576 : Int).tdiv z = 1048576 / z := Int.tdiv_eq_ediv_of_nonneg (by omega)
        have hq0 : 0 ≤ (1048576 : Int) / z := Int.ediv_nonneg (by omega) (by omega)
        have hq1 : (1048576 : Int) / z ≤ 1048576 := Int.ediv_le_self _ (by omega)
        have hR : Hid ((if 0 < d ∧ (z ≤ 0 ∨ d ≤ 1048576 / z) then some (z * d, a) else none).isSome = decide (d ≤ 1048576 / z)) := Lib.hid (by
          by_cases h : d ≤ 1048576 / z
          · rw [if_pos ⟨hd, .inr h⟩]; simp [h]
          · rw [if_neg (by rintro ⟨_, h1 | h1⟩ <;> omega)]; simp [h])
        rw [hR.out]
        have hzz : (z == 0) = false := by simp; omega
        have hzd : decide (z ≤ 0) = false := by simpa using hz
        have hdd : decide (0 < d) = true := by simpa using hd
        have hwr : IntKind.i64.wrap ((1048576 : Int).tdiv z) = 1048576 / z := by rw [hq]; exact IntWalk.i64_in _ (by omega)
        have hne : ¬ z = 0 := by omega
        have hA1 := cell_alloc_if
        have hA2 := frozen_alloc_if
        have hA3 := cell_set_if
        go_enter Tryd.func50, Tryd.ntmps50
        go_wp2_with (first | (go_at_call 48; (with_reducible refine (HV1.out _ (by (repeat' (first | (with_reducible exact Below.refl _ _) | (with_reducible assumption) | (with_reducible refine Below.setCell ?_ ?_ _) | (with_reducible refine Below.alloc ?_ ?_ _) | (with_reducible refine Below.drew ?_) | (with_reducible refine below_drewN ?_ _) | (with_reducible refine below_next ?_ (by with_reducible assumption)) | omega | (dsimp only; omega) | (simp only [World.size_alloc, World.size_setCell, World.size_drew, World.heap_drewN]; omega))))).mono ?_); rintro e w' ⟨rfl, hbl⟩; obtain ⟨hc, hf, hz⟩ := cif hbl; (try simp only [World.size_alloc, World.size_setCell, World.size_drew, World.heap_drewN] at hz)) | (go_at_call 12; (with_reducible refine (HS.out _ (by (repeat' (first | (with_reducible exact Below.refl _ _) | (with_reducible assumption) | (with_reducible refine Below.setCell ?_ ?_ _) | (with_reducible refine Below.alloc ?_ ?_ _) | (with_reducible refine Below.drew ?_) | (with_reducible refine below_drewN ?_ _) | (with_reducible refine below_next ?_ (by with_reducible assumption)) | omega | (dsimp only; omega) | (simp only [World.size_alloc, World.size_setCell, World.size_drew, World.heap_drewN]; omega))))).mono ?_); rintro e w' ⟨rfl, hbl⟩; obtain ⟨hc, hf, hz⟩ := cif hbl; (try simp only [World.size_alloc, World.size_setCell, World.size_drew, World.heap_drewN] at hz)))
        refine wp_region_ext (by kernel_rfl) (by kernel_rfl) ?_
        repeat (first | go_big_quiet_skip | (go_big_quiet_want; go_big_quiet_op; first | go_big_quiet_on | (apply Exists.intro; refine ⟨fun W hW => ?_, ?_⟩; (focus (first
          | (go_at_call 50; have hWb := Ext.of hW; (with_reducible refine (HC.out _ (by (repeat' (first | (with_reducible exact Below.refl _ _) | (with_reducible assumption) | (with_reducible refine Below.setCell ?_ ?_ _) | (with_reducible refine Below.alloc ?_ ?_ _) | (with_reducible refine Below.drew ?_) | (with_reducible refine below_drewN ?_ _) | (with_reducible refine below_next ?_ (by with_reducible assumption)) | omega | (dsimp only; omega) | (simp only [World.size_alloc, World.size_setCell, World.size_drew, World.heap_drewN]; omega))))).mono ?_); rintro e w1 ⟨rfl, hb⟩; exact ⟨rfl, Ext.next hW hb⟩)
          | exact rfl | (obtain ⟨hcW, hfW, hzW⟩ := cif (Ext.of hW); (try simp only [World.size_alloc, World.size_setCell, World.size_drew, World.heap_drewN] at hzW); simp [go_sem, *, ↓IntWalk.iteOmega]; (try exact rfl)))); go_big_quiet_on)))
        refine wpQuiet_nil ?_
        intro w' hw'
        have hbl := Ext.of hw'
        obtain ⟨hc, hf, hz⟩ := cif hbl
        (try simp only [World.size_alloc, World.size_setCell, World.size_drew, World.heap_drewN] at hz)
        clear hw'
        go_wp2
        go_returns
        exact ⟨rfl, by (repeat' (first | (with_reducible exact Below.refl _ _) | (with_reducible assumption) | (with_reducible refine Below.setCell ?_ ?_ _) | (with_reducible refine Below.alloc ?_ ?_ _) | (with_reducible refine Below.drew ?_) | (with_reducible refine below_drewN ?_ _) | (with_reducible refine below_next ?_ (by with_reducible assumption)) | omega | (dsimp only; omega) | (simp only [World.size_alloc, World.size_setCell, World.size_drew, World.heap_drewN]; omega)))⟩
    · rw [if_neg (by omega)]
      have hdd : decide (0 < d) = false := by simpa using hd
      have hA1 := cell_alloc_if
      have hA2 := frozen_alloc_if
      have hA3 := cell_set_if
      go_enter Tryd.func50, Tryd.ntmps50
      go_wp2_with (first | (go_at_call 48; (with_reducible refine (HV1.out _ (by (repeat' (first | (with_reducible exact Below.refl _ _) | (with_reducible assumption) | (with_reducible refine Below.setCell ?_ ?_ _) | (with_reducible refine Below.alloc ?_ ?_ _) | (with_reducible refine Below.drew ?_) | (with_reducible refine below_drewN ?_ _) | (with_reducible refine below_next ?_ (by with_reducible assumption)) | omega | (dsimp only; omega) | (simp only [World.size_alloc, World.size_setCell, World.size_drew, World.heap_drewN]; omega))))).mono ?_); rintro e w' ⟨rfl, hbl⟩; obtain ⟨hc, hf, hz⟩ := cif hbl; (try simp only [World.size_alloc, World.size_setCell, World.size_drew, World.heap_drewN] at hz)) | (go_at_call 12; (with_reducible refine (HS.out _ (by (repeat' (first | (with_reducible exact Below.refl _ _) | (with_reducible assumption) | (with_reducible refine Below.setCell ?_ ?_ _) | (with_reducible refine Below.alloc ?_ ?_ _) | (with_reducible refine Below.drew ?_) | (with_reducible refine below_drewN ?_ _) | (with_reducible refine below_next ?_ (by with_reducible assumption)) | omega | (dsimp only; omega) | (simp only [World.size_alloc, World.size_setCell, World.size_drew, World.heap_drewN]; omega))))).mono ?_); rintro e w' ⟨rfl, hbl⟩; obtain ⟨hc, hf, hz⟩ := cif hbl; (try simp only [World.size_alloc, World.size_setCell, World.size_drew, World.heap_drewN] at hz)))
      refine wp_region_ext (by kernel_rfl) (by kernel_rfl) ?_
      repeat (first | go_big_quiet_skip | (go_big_quiet_want; go_big_quiet_op; first | go_big_quiet_on | (apply Exists.intro; refine ⟨fun W hW => ?_, ?_⟩; (focus (first
        | (go_at_call 50; have hWb := Ext.of hW; (with_reducible refine (HC.out _ (by (repeat' (first | (with_reducible exact Below.refl _ _) | (with_reducible assumption) | (with_reducible refine Below.setCell ?_ ?_ _) | (with_reducible refine Below.alloc ?_ ?_ _) | (with_reducible refine Below.drew ?_) | (with_reducible refine below_drewN ?_ _) | (with_reducible refine below_next ?_ (by with_reducible assumption)) | omega | (dsimp only; omega) | (simp only [World.size_alloc, World.size_setCell, World.size_drew, World.heap_drewN]; omega))))).mono ?_); rintro e w1 ⟨rfl, hb⟩; exact ⟨rfl, Ext.next hW hb⟩)
        | exact rfl | (obtain ⟨hcW, hfW, hzW⟩ := cif (Ext.of hW); (try simp only [World.size_alloc, World.size_setCell, World.size_drew, World.heap_drewN] at hzW); simp [go_sem, *, ↓IntWalk.iteOmega]; (try exact rfl)))); go_big_quiet_on)))
      refine wpQuiet_nil ?_
      intro w' hw'
      have hbl := Ext.of hw'
      obtain ⟨hc, hf, hz⟩ := cif hbl
      (try simp only [World.size_alloc, World.size_setCell, World.size_drew, World.heap_drewN] at hz)
      clear hw'
      go_wp2
      go_returns
      exact ⟨rfl, by (repeat' (first | (with_reducible exact Below.refl _ _) | (with_reducible assumption) | (with_reducible refine Below.setCell ?_ ?_ _) | (with_reducible refine Below.alloc ?_ ?_ _) | (with_reducible refine Below.drew ?_) | (with_reducible refine below_drewN ?_ _) | (with_reducible refine below_next ?_ (by with_reducible assumption)) | omega | (dsimp only; omega) | (simp only [World.size_alloc, World.size_setCell, World.size_drew, World.heap_drewN]; omega)))⟩

set_option maxRecDepth 100000 in
set_option maxHeartbeats 2000000 in
theorem size_rcd (u : Bool) (n : ByteArray) : SizeAt (.rcd u n) := by
  intro K s w hK h hr
  have hfi := fun W (hW : Below w.heap.size w W) => find_any s K n W (h.next hW)
  unfold FindR at hfi
  obtain ⟨A2, m2, c2, e2, _⟩ := lyC_form _ (foundL_rd h n.toList)
  rw [e2] at hfi
  have hres : sizeT K (.rcd u n) = if ((find K n.toList).isSome && ((foundL K n.toList).union == u)) then ((foundL K n.toList).size, (foundL K n.toList).align) else (0, 0) := by
    unfold sizeT complete foundL
    cases find K n.toList with
    | none => rfl
    | some y =>
      simp only [Option.getD_some, Option.isSome_some, Bool.true_and]
      by_cases hu : y.union = u <;> simp [hu]
  rw [hres, show tyV (.rcd u n) = .agg #[.int .i64 6, .int .i64 0, .int .i64 0, .bool u, .string n, .slice none 0 0] from rfl]
  have HFI := Lib.hid hfi
  clear hfi e2 hres h hr hK
  generalize (foundL K n.toList).name = fnm at *
  generalize (foundL K n.toList).union = fu at *
  generalize (foundL K n.toList).size = fz at *
  generalize (foundL K n.toList).align = fa at *
  generalize (find K n.toList).isSome = ok at *
  cases ok
  · simp only [Bool.false_and, Bool.false_eq_true, if_false]
    have hA1 := cell_alloc_if
    have hA2 := frozen_alloc_if
    have hA3 := cell_set_if
    go_enter Tryd.func12, Tryd.ntmps12
    go_wp2_with (first | (go_at_call 48; (with_reducible refine (view_6 _ _ _ _ _ _ _ _).mono ?_); rintro e w' ⟨rfl, hbl⟩; obtain ⟨hc, hf, hz⟩ := cif hbl; (try simp only [World.size_alloc, World.size_setCell, World.size_drew, World.heap_drewN] at hz)) | (go_at_call 14; (with_reducible refine (HFI.out _ (by (repeat' (first | (with_reducible exact Below.refl _ _) | (with_reducible assumption) | (with_reducible refine Below.setCell ?_ ?_ _) | (with_reducible refine Below.alloc ?_ ?_ _) | (with_reducible refine Below.drew ?_) | (with_reducible refine below_drewN ?_ _) | (with_reducible refine below_next ?_ (by with_reducible assumption)) | omega | (dsimp only; omega) | (simp only [World.size_alloc, World.size_setCell, World.size_drew, World.heap_drewN]; omega))))).mono ?_); rintro e w' ⟨rfl, hbl⟩; obtain ⟨hc, hf, hz⟩ := cif hbl; (try simp only [World.size_alloc, World.size_setCell, World.size_drew, World.heap_drewN] at hz)))
    all_goals (go_returns; exact ⟨rfl, by (repeat' (first | (with_reducible exact Below.refl _ _) | (with_reducible assumption) | (with_reducible refine Below.setCell ?_ ?_ _) | (with_reducible refine Below.alloc ?_ ?_ _) | (with_reducible refine Below.drew ?_) | (with_reducible refine below_drewN ?_ _) | (with_reducible refine below_next ?_ (by with_reducible assumption)) | omega | (dsimp only; omega) | (simp only [World.size_alloc, World.size_setCell, World.size_drew, World.heap_drewN]; omega)))⟩)
  · by_cases hu : fu = u
    · subst hu
      simp only [Bool.true_and, beq_self_eq_true, if_true]
      have hA1 := cell_alloc_if
      have hA2 := frozen_alloc_if
      have hA3 := cell_set_if
      go_enter Tryd.func12, Tryd.ntmps12
      go_wp2_with (first | (go_at_call 48; (with_reducible refine (view_6 _ _ _ _ _ _ _ _).mono ?_); rintro e w' ⟨rfl, hbl⟩; obtain ⟨hc, hf, hz⟩ := cif hbl; (try simp only [World.size_alloc, World.size_setCell, World.size_drew, World.heap_drewN] at hz)) | (go_at_call 14; (with_reducible refine (HFI.out _ (by (repeat' (first | (with_reducible exact Below.refl _ _) | (with_reducible assumption) | (with_reducible refine Below.setCell ?_ ?_ _) | (with_reducible refine Below.alloc ?_ ?_ _) | (with_reducible refine Below.drew ?_) | (with_reducible refine below_drewN ?_ _) | (with_reducible refine below_next ?_ (by with_reducible assumption)) | omega | (dsimp only; omega) | (simp only [World.size_alloc, World.size_setCell, World.size_drew, World.heap_drewN]; omega))))).mono ?_); rintro e w' ⟨rfl, hbl⟩; obtain ⟨hc, hf, hz⟩ := cif hbl; (try simp only [World.size_alloc, World.size_setCell, World.size_drew, World.heap_drewN] at hz)))
      refine wp_region_ext (by kernel_rfl) (by kernel_rfl) ?_
      repeat (first | go_big_quiet_skip | (go_big_quiet_want; go_big_quiet_op; first | go_big_quiet_on | (apply Exists.intro; refine ⟨fun W hW => ?_, ?_⟩; (focus (first
        | (go_at_call 50; have hWb := Ext.of hW; (with_reducible refine (HC.out _ (by (repeat' (first | (with_reducible exact Below.refl _ _) | (with_reducible assumption) | (with_reducible refine Below.setCell ?_ ?_ _) | (with_reducible refine Below.alloc ?_ ?_ _) | (with_reducible refine Below.drew ?_) | (with_reducible refine below_drewN ?_ _) | (with_reducible refine below_next ?_ (by with_reducible assumption)) | omega | (dsimp only; omega) | (simp only [World.size_alloc, World.size_setCell, World.size_drew, World.heap_drewN]; omega))))).mono ?_); rintro e w1 ⟨rfl, hb⟩; exact ⟨rfl, Ext.next hW hb⟩)
        | exact rfl | (obtain ⟨hcW, hfW, hzW⟩ := cif (Ext.of hW); (try simp only [World.size_alloc, World.size_setCell, World.size_drew, World.heap_drewN] at hzW); simp [go_sem, *, ↓IntWalk.iteOmega]; (try exact rfl)))); go_big_quiet_on)))
      refine wpQuiet_nil ?_
      intro w' hw'
      have hbl := Ext.of hw'
      obtain ⟨hc, hf, hz⟩ := cif hbl
      (try simp only [World.size_alloc, World.size_setCell, World.size_drew, World.heap_drewN] at hz)
      clear hw'
      go_wp2
      go_returns
      exact ⟨rfl, by (repeat' (first | (with_reducible exact Below.refl _ _) | (with_reducible assumption) | (with_reducible refine Below.setCell ?_ ?_ _) | (with_reducible refine Below.alloc ?_ ?_ _) | (with_reducible refine Below.drew ?_) | (with_reducible refine below_drewN ?_ _) | (with_reducible refine below_next ?_ (by with_reducible assumption)) | omega | (dsimp only; omega) | (simp only [World.size_alloc, World.size_setCell, World.size_drew, World.heap_drewN]; omega)))⟩
    · have hu2 : (fu == u) = false := by simpa using hu
      simp only [hu2, Bool.and_false, Bool.false_eq_true, if_false]
      have hA1 := cell_alloc_if
      have hA2 := frozen_alloc_if
      have hA3 := cell_set_if
      go_enter Tryd.func12, Tryd.ntmps12
      go_wp2_with (first | (go_at_call 48; (with_reducible refine (view_6 _ _ _ _ _ _ _ _).mono ?_); rintro e w' ⟨rfl, hbl⟩; obtain ⟨hc, hf, hz⟩ := cif hbl; (try simp only [World.size_alloc, World.size_setCell, World.size_drew, World.heap_drewN] at hz)) | (go_at_call 14; (with_reducible refine (HFI.out _ (by (repeat' (first | (with_reducible exact Below.refl _ _) | (with_reducible assumption) | (with_reducible refine Below.setCell ?_ ?_ _) | (with_reducible refine Below.alloc ?_ ?_ _) | (with_reducible refine Below.drew ?_) | (with_reducible refine below_drewN ?_ _) | (with_reducible refine below_next ?_ (by with_reducible assumption)) | omega | (dsimp only; omega) | (simp only [World.size_alloc, World.size_setCell, World.size_drew, World.heap_drewN]; omega))))).mono ?_); rintro e w' ⟨rfl, hbl⟩; obtain ⟨hc, hf, hz⟩ := cif hbl; (try simp only [World.size_alloc, World.size_setCell, World.size_drew, World.heap_drewN] at hz)))
      all_goals (go_returns; exact ⟨rfl, by (repeat' (first | (with_reducible exact Below.refl _ _) | (with_reducible assumption) | (with_reducible refine Below.setCell ?_ ?_ _) | (with_reducible refine Below.alloc ?_ ?_ _) | (with_reducible refine Below.drew ?_) | (with_reducible refine below_drewN ?_ _) | (with_reducible refine below_next ?_ (by with_reducible assumption)) | omega | (dsimp only; omega) | (simp only [World.size_alloc, World.size_setCell, World.size_drew, World.heap_drewN]; omega)))⟩)
set_option maxRecDepth 100000 in
set_option maxHeartbeats 2000000 in
theorem size_num (s : Int) (u : Bool) : SizeAt (.num s u) := by
  intro K sk w hK h hr
  have hres : sizeT K (.num s u) = if isSz s then (s, s) else (0, 0) := by unfold sizeT complete; cases isSz s <;> rfl
  rw [hres, show tyV (.num s u) = .agg #[.int .i64 2, .int .i64 s, .int .i64 0, .bool u, .string ⟨#[]⟩, .slice none 0 0] from rfl]
  clear hres hr h hK
  have HW := Lib.hid (whole_num s 0 u ⟨#[]⟩ none 0 0)
  generalize isSz s = z at *
  cases z
  · simp only [Bool.false_eq_true, if_false]
    have hA1 := cell_alloc_if
    have hA2 := frozen_alloc_if
    have hA3 := cell_set_if
    go_enter Tryd.func12, Tryd.ntmps12
    go_wp2_with (first
      | (go_at_call 48; (with_reducible refine (view_2 _ _ _ _ _ _ _ _).mono ?_); rintro e w' ⟨rfl, hbl⟩; obtain ⟨hc, hf, hz⟩ := cif hbl; (try simp only [World.size_alloc, World.size_setCell, World.size_drew, World.heap_drewN] at hz))
      | (go_at_call 39; (with_reducible refine (numberTy_any _ _ _).mono ?_); rintro e w' ⟨rfl, hbl⟩; obtain ⟨hc, hf, hz⟩ := cif hbl; (try simp only [World.size_alloc, World.size_setCell, World.size_drew, World.heap_drewN] at hz))
      | (go_at_call 49; (with_reducible refine (HW.out _).mono ?_); rintro e w' ⟨rfl, hbl⟩; obtain ⟨hc, hf, hz⟩ := cif hbl; (try simp only [World.size_alloc, World.size_setCell, World.size_drew, World.heap_drewN] at hz)))
    all_goals (go_returns; exact ⟨rfl, by (repeat' (first | (with_reducible exact Below.refl _ _) | (with_reducible assumption) | (with_reducible refine Below.setCell ?_ ?_ _) | (with_reducible refine Below.alloc ?_ ?_ _) | (with_reducible refine Below.drew ?_) | (with_reducible refine below_drewN ?_ _) | (with_reducible refine below_next ?_ (by with_reducible assumption)) | omega | (dsimp only; omega) | (simp only [World.size_alloc, World.size_setCell, World.size_drew, World.heap_drewN]; omega)))⟩)
  · simp only [if_true]
    have hA1 := cell_alloc_if
    have hA2 := frozen_alloc_if
    have hA3 := cell_set_if
    go_enter Tryd.func12, Tryd.ntmps12
    go_wp2_with (first
      | (go_at_call 48; (with_reducible refine (view_2 _ _ _ _ _ _ _ _).mono ?_); rintro e w' ⟨rfl, hbl⟩; obtain ⟨hc, hf, hz⟩ := cif hbl; (try simp only [World.size_alloc, World.size_setCell, World.size_drew, World.heap_drewN] at hz))
      | (go_at_call 39; (with_reducible refine (numberTy_any _ _ _).mono ?_); rintro e w' ⟨rfl, hbl⟩; obtain ⟨hc, hf, hz⟩ := cif hbl; (try simp only [World.size_alloc, World.size_setCell, World.size_drew, World.heap_drewN] at hz))
      | (go_at_call 49; (with_reducible refine (HW.out _).mono ?_); rintro e w' ⟨rfl, hbl⟩; obtain ⟨hc, hf, hz⟩ := cif hbl; (try simp only [World.size_alloc, World.size_setCell, World.size_drew, World.heap_drewN] at hz)))
    refine wp_region_ext (by kernel_rfl) (by kernel_rfl) ?_
    repeat (first | go_big_quiet_skip | (go_big_quiet_want; go_big_quiet_op; first | go_big_quiet_on | (apply Exists.intro; refine ⟨fun W hW => ?_, ?_⟩; (focus (first
      | (go_at_call 50; have hWb := Ext.of hW; (with_reducible refine (HC.out _ (by (repeat' (first | (with_reducible exact Below.refl _ _) | (with_reducible assumption) | (with_reducible refine Below.setCell ?_ ?_ _) | (with_reducible refine Below.alloc ?_ ?_ _) | (with_reducible refine Below.drew ?_) | (with_reducible refine below_drewN ?_ _) | (with_reducible refine below_next ?_ (by with_reducible assumption)) | omega | (dsimp only; omega) | (simp only [World.size_alloc, World.size_setCell, World.size_drew, World.heap_drewN]; omega))))).mono ?_); rintro e w1 ⟨rfl, hb⟩; exact ⟨rfl, Ext.next hW hb⟩)
      | exact rfl | (obtain ⟨hcW, hfW, hzW⟩ := cif (Ext.of hW); (try simp only [World.size_alloc, World.size_setCell, World.size_drew, World.heap_drewN] at hzW); simp [go_sem, *, ↓IntWalk.iteOmega]; (try exact rfl)))); go_big_quiet_on)))
    refine wpQuiet_nil ?_
    intro w' hw'
    have hbl := Ext.of hw'
    obtain ⟨hc, hf, hz⟩ := cif hbl
    (try simp only [World.size_alloc, World.size_setCell, World.size_drew, World.heap_drewN] at hz)
    clear hw'
    go_wp2
    go_returns
    exact ⟨rfl, by (repeat' (first | (with_reducible exact Below.refl _ _) | (with_reducible assumption) | (with_reducible refine Below.setCell ?_ ?_ _) | (with_reducible refine Below.alloc ?_ ?_ _) | (with_reducible refine Below.drew ?_) | (with_reducible refine below_drewN ?_ _) | (with_reducible refine below_next ?_ (by with_reducible assumption)) | omega | (dsimp only; omega) | (simp only [World.size_alloc, World.size_setCell, World.size_drew, World.heap_drewN]; omega)))⟩
set_option maxRecDepth 100000 in
set_option maxHeartbeats 2000000 in
theorem size_plain (t : Ty) (ha : isA t = false) (hr0 : ∀ u n, t ≠ .rcd u n) (hn0 : ∀ s u, t ≠ .num s u) : SizeAt t := by
  intro K sk w hK h hr
  have HK := Lib.hid hK
  have HL := Lib.hid h
  clear hK h
  have h := hr
  clear hr
  obtain ⟨k, s, l, f, n, A, m, c, vw, e0, hv, hcase⟩ := ty_view t h
  rw [tyV_of e0]
  have HV := Lib.hid hv
  have HT := Lib.hid h
  clear e0 hv h
  rcases hcase with ⟨rfl, rfl, rfl⟩ | ⟨rfl, rfl, rfl⟩ | ⟨rfl, rfl, rfl⟩ | ⟨rfl, rfl, rfl⟩ | ⟨rfl, rfl, rfl⟩ | ⟨t1, k1, s1, l1, f1, n1, A1, m1, c1, e1, r1, q1, rfl, rfl, rfl⟩ | ⟨t1, k1, s1, l1, f1, n1, A1, m1, c1, e1, r1, q1, rfl, rfl, rfl⟩ | ⟨t1, ps, k1, s1, l1, f1, n1, A1, m1, c1, A2, m2, c2, e1, r1, q1, rps, q2, rfl, rfl, rfl⟩
  all_goals (try (have E1 := Lib.hid e1; have R1 := Lib.hid r1; have Q1 := Lib.hid q1; clear e1 r1 q1))
  all_goals (try (have RPS := Lib.hid rps; have Q2 := Lib.hid q2; clear rps q2))
  case inr.inr.inr.inr.inl => exact absurd rfl (hr0 _ _)
  case inr.inr.inr.inr.inr.inr.inl => cases ha
  case inr.inr.inl => exact absurd rfl (hn0 _ _)
  all_goals (
    clear hr0 ha hn0
    have hA1 := cell_alloc_if
    have hA2 := frozen_alloc_if
    have hA3 := cell_set_if
    go_enter Tryd.func12, Tryd.ntmps12
    go_wp2_with (go_at_call 48; (with_reducible refine (HV.out _ (by (repeat' (first | (with_reducible exact Below.refl _ _) | (with_reducible assumption) | (with_reducible refine Below.setCell ?_ ?_ _) | (with_reducible refine Below.alloc ?_ ?_ _) | (with_reducible refine Below.drew ?_) | (with_reducible refine below_drewN ?_ _) | (with_reducible refine below_next ?_ (by with_reducible assumption)) | omega | (dsimp only; omega) | (simp only [World.size_alloc, World.size_setCell, World.size_drew, World.heap_drewN]; omega))))).mono ?_); rintro e w' ⟨rfl, hbl⟩; obtain ⟨hc, hf, hz⟩ := cif hbl; (try simp only [World.size_alloc, World.size_setCell, World.size_drew, World.heap_drewN] at hz))
    all_goals (go_returns; exact ⟨rfl, by (repeat' (first | (with_reducible exact Below.refl _ _) | (with_reducible assumption) | (with_reducible refine Below.setCell ?_ ?_ _) | (with_reducible refine Below.alloc ?_ ?_ _) | (with_reducible refine Below.drew ?_) | (with_reducible refine below_drewN ?_ _) | (with_reducible refine below_next ?_ (by with_reducible assumption)) | omega | (dsimp only; omega) | (simp only [World.size_alloc, World.size_setCell, World.size_drew, World.heap_drewN]; omega)))⟩))
theorem complete_arr (K : List Ly) (sv : Value) (d : Int) (t : Ty) : complete K (.arr sv d t) = match complete K t with
    | some (s, a) => if 0 < d ∧ (s ≤ 0 ∨ d ≤ 1048576 / s) then some (s * d, a) else none
    | none => none := rfl
set_option maxRecDepth 100000 in
set_option maxHeartbeats 4000000 in
theorem size_arr (sv : Value) (d : Int) (t : Ty) (ihs : SizeAt t) (ihc : ∀ sv, CompAt (.arr sv d t)) : SizeAt (.arr sv d t) := by
  intro K sk w hK hk hr
  obtain ⟨k, s, l, f, n, A, m, c, k1, s1, l1, f1, n1, A1, m1, c1, e0, e1, r1, hv1⟩ := arr_view sv d t hr
  have hs := fun W (hW : Below w.heap.size w W) => ihs K sk W hK (hk.next hW) (r1.next hW)
  rw [tyV_of e1] at hs
  rw [tyV_of e0]
  have HV1 := Lib.hid hv1
  have HC := Lib.hid (fun sv W (hW : Below w.heap.size w W) (hr : RdT W (.arr sv d t)) => ihc sv K sk W hK (hk.next hW) hr)
  have R1 := Lib.hid r1
  have E1 := Lib.hid e1
  have hcm := complete_ok K hK t
  have hres : ∀ sv, complete K (.arr sv d t) = complete K (.arr .nilFunc d t) := fun sv => rfl
  have hr2 : sizeT K (.arr sv d t) = if (complete K (.arr .nilFunc d t)).isSome then ((sizeT K t).1 * d, (sizeT K t).2) else (0, 0) := by
    unfold sizeT
    rw [complete_arr, complete_arr]
    cases complete K t with
    | none => rfl
    | some sa => obtain ⟨z, a⟩ := sa; dsimp only; split <;> simp
  have hbd : (complete K (.arr .nilFunc d t)).isSome = true → 0 ≤ (sizeT K t).1 * d ∧ (sizeT K t).1 * d ≤ 1048576 := by
    unfold sizeT
    rw [complete_arr]
    cases hct : complete K t with
    | none => simp
    | some sa =>
      obtain ⟨z, a⟩ := sa
      obtain ⟨z0, z1, _⟩ := hcm z a hct
      dsimp only
      split
      · rename_i h
        intro _
        obtain ⟨h1, h2⟩ := h
        simp only [Option.getD_some]
        refine ⟨Int.mul_nonneg z0 (by omega), ?_⟩
        rcases h2 with h2 | h2
        · have : z = 0 := by omega
          rw [this]; simp
        · have h3 : z * d ≤ z * (1048576 / z) := Int.mul_le_mul_of_nonneg_left h2 z0
          have h4 : z * (1048576 / z) ≤ 1048576 := Int.mul_ediv_self_le (by
            intro h0; rw [h0] at h2; simp at h2; omega)
          omega
      · simp
  simp only [hres] at HC
  rw [hr2]
  obtain ⟨As, cs, rfl⟩ := hk.1.form
  have HS := Lib.hid hs
  clear e0 e1 r1 hv1 hr hk hK ihs ihc hs hcm hres hr2
  generalize (complete K (.arr .nilFunc d t)).isSome = ok at *
  generalize (sizeT K t).1 = z at *
  generalize (sizeT K t).2 = a at *
  cases ok
  · clear hbd
    simp only [Bool.false_eq_true, if_false]
    have hA1 := cell_alloc_if
    have hA2 := frozen_alloc_if
    have hA3 := cell_set_if
    go_enter Tryd.func12, Tryd.ntmps12
    go_wp2_with (first
      | (go_at_call 48; (with_reducible refine (HV1.out _ (by (repeat' (first | (with_reducible exact Below.refl _ _) | (with_reducible assumption) | (with_reducible refine Below.setCell ?_ ?_ _) | (with_reducible refine Below.alloc ?_ ?_ _) | (with_reducible refine Below.drew ?_) | (with_reducible refine below_drewN ?_ _) | (with_reducible refine below_next ?_ (by with_reducible assumption)) | omega | (dsimp only; omega) | (simp only [World.size_alloc, World.size_setCell, World.size_drew, World.heap_drewN]; omega))))).mono ?_); rintro e w' ⟨rfl, hbl⟩; obtain ⟨hc, hf, hz⟩ := cif hbl; (try simp only [World.size_alloc, World.size_setCell, World.size_drew, World.heap_drewN] at hz))
      | (go_at_call 12; (with_reducible refine (HS.out _ (by (repeat' (first | (with_reducible exact Below.refl _ _) | (with_reducible assumption) | (with_reducible refine Below.setCell ?_ ?_ _) | (with_reducible refine Below.alloc ?_ ?_ _) | (with_reducible refine Below.drew ?_) | (with_reducible refine below_drewN ?_ _) | (with_reducible refine below_next ?_ (by with_reducible assumption)) | omega | (dsimp only; omega) | (simp only [World.size_alloc, World.size_setCell, World.size_drew, World.heap_drewN]; omega))))).mono ?_); rintro e w' ⟨rfl, hbl⟩; obtain ⟨hc, hf, hz⟩ := cif hbl; (try simp only [World.size_alloc, World.size_setCell, World.size_drew, World.heap_drewN] at hz))
      | (go_at_call 44; (with_reducible refine (arrayTy_any _ _ _ _ _ _ _ _ _ t _ (R1.out.next (by (repeat' (first | (with_reducible exact Below.refl _ _) | (with_reducible assumption) | (with_reducible refine Below.setCell ?_ ?_ _) | (with_reducible refine Below.alloc ?_ ?_ _) | (with_reducible refine Below.drew ?_) | (with_reducible refine below_drewN ?_ _) | (with_reducible refine below_next ?_ (by with_reducible assumption)) | omega | (dsimp only; omega) | (simp only [World.size_alloc, World.size_setCell, World.size_drew, World.heap_drewN]; omega))))) E1.out).mono ?_); rintro e w4 ⟨t4, ⟨sv4, rfl, hs4⟩, rfl, hr4, hb4⟩; obtain ⟨hc4, hf4, hz4⟩ := cif hb4; (try simp only [World.size_alloc, World.size_setCell, World.size_drew, World.heap_drewN] at hz4); have HC4 := Lib.hid (fun W hW hW2 => HC.out sv4 W hW (hr4.next hW2)); clear hr4 hs4; obtain ⟨v4, hv4⟩ : ∃ v, v = tyV (.arr sv4 d t) := ⟨_, rfl⟩; rw [← hv4] at HC4 ⊢; clear hv4)
      | (go_at_call 50; (with_reducible refine (HC4.out _ (by (repeat' (first | (with_reducible exact Below.refl _ _) | (with_reducible assumption) | (with_reducible refine Below.setCell ?_ ?_ _) | (with_reducible refine Below.alloc ?_ ?_ _) | (with_reducible refine Below.drew ?_) | (with_reducible refine below_drewN ?_ _) | (with_reducible refine below_next ?_ (by with_reducible assumption)) | omega | (dsimp only; omega) | (simp only [World.size_alloc, World.size_setCell, World.size_drew, World.heap_drewN]; omega)))) (by (repeat' (first | (with_reducible exact Below.refl _ _) | (with_reducible assumption) | (with_reducible refine Below.setCell ?_ ?_ _) | (with_reducible refine Below.alloc ?_ ?_ _) | (with_reducible refine Below.drew ?_) | (with_reducible refine below_drewN ?_ _) | (with_reducible refine below_next ?_ (by with_reducible assumption)) | omega | (dsimp only; omega) | (simp only [World.size_alloc, World.size_setCell, World.size_drew, World.heap_drewN]; omega))))).mono ?_); rintro e w' ⟨rfl, hbl⟩; obtain ⟨hc, hf, hz⟩ := cif hbl; (try simp only [World.size_alloc, World.size_setCell, World.size_drew, World.heap_drewN] at hz)))
    all_goals (go_returns; exact ⟨rfl, by (repeat' (first | (with_reducible exact Below.refl _ _) | (with_reducible assumption) | (with_reducible refine Below.setCell ?_ ?_ _) | (with_reducible refine Below.alloc ?_ ?_ _) | (with_reducible refine Below.drew ?_) | (with_reducible refine below_drewN ?_ _) | (with_reducible refine below_next ?_ (by with_reducible assumption)) | omega | (dsimp only; omega) | (simp only [World.size_alloc, World.size_setCell, World.size_drew, World.heap_drewN]; omega)))⟩)
  · obtain ⟨hb1, hb2⟩ := hbd rfl
    clear hbd
    simp only [if_true]
    have hA1 := cell_alloc_if
    have hA2 := frozen_alloc_if
    have hA3 := cell_set_if
    go_enter Tryd.func12, Tryd.ntmps12
    go_wp2_with (first
      | (go_at_call 48; (with_reducible refine (HV1.out _ (by (repeat' (first | (with_reducible exact Below.refl _ _) | (with_reducible assumption) | (with_reducible refine Below.setCell ?_ ?_ _) | (with_reducible refine Below.alloc ?_ ?_ _) | (with_reducible refine Below.drew ?_) | (with_reducible refine below_drewN ?_ _) | (with_reducible refine below_next ?_ (by with_reducible assumption)) | omega | (dsimp only; omega) | (simp only [World.size_alloc, World.size_setCell, World.size_drew, World.heap_drewN]; omega))))).mono ?_); rintro e w' ⟨rfl, hbl⟩; obtain ⟨hc, hf, hz⟩ := cif hbl; (try simp only [World.size_alloc, World.size_setCell, World.size_drew, World.heap_drewN] at hz))
      | (go_at_call 12; (with_reducible refine (HS.out _ (by (repeat' (first | (with_reducible exact Below.refl _ _) | (with_reducible assumption) | (with_reducible refine Below.setCell ?_ ?_ _) | (with_reducible refine Below.alloc ?_ ?_ _) | (with_reducible refine Below.drew ?_) | (with_reducible refine below_drewN ?_ _) | (with_reducible refine below_next ?_ (by with_reducible assumption)) | omega | (dsimp only; omega) | (simp only [World.size_alloc, World.size_setCell, World.size_drew, World.heap_drewN]; omega))))).mono ?_); rintro e w' ⟨rfl, hbl⟩; obtain ⟨hc, hf, hz⟩ := cif hbl; (try simp only [World.size_alloc, World.size_setCell, World.size_drew, World.heap_drewN] at hz))
      | (go_at_call 44; (with_reducible refine (arrayTy_any _ _ _ _ _ _ _ _ _ t _ (R1.out.next (by (repeat' (first | (with_reducible exact Below.refl _ _) | (with_reducible assumption) | (with_reducible refine Below.setCell ?_ ?_ _) | (with_reducible refine Below.alloc ?_ ?_ _) | (with_reducible refine Below.drew ?_) | (with_reducible refine below_drewN ?_ _) | (with_reducible refine below_next ?_ (by with_reducible assumption)) | omega | (dsimp only; omega) | (simp only [World.size_alloc, World.size_setCell, World.size_drew, World.heap_drewN]; omega))))) E1.out).mono ?_); rintro e w4 ⟨t4, ⟨sv4, rfl, hs4⟩, rfl, hr4, hb4⟩; obtain ⟨hc4, hf4, hz4⟩ := cif hb4; (try simp only [World.size_alloc, World.size_setCell, World.size_drew, World.heap_drewN] at hz4); have HC4 := Lib.hid (fun W hW hW2 => HC.out sv4 W hW (hr4.next hW2)); clear hr4 hs4; obtain ⟨v4, hv4⟩ : ∃ v, v = tyV (.arr sv4 d t) := ⟨_, rfl⟩; rw [← hv4] at HC4 ⊢; clear hv4)
      | (go_at_call 50; (with_reducible refine (HC4.out _ (by (repeat' (first | (with_reducible exact Below.refl _ _) | (with_reducible assumption) | (with_reducible refine Below.setCell ?_ ?_ _) | (with_reducible refine Below.alloc ?_ ?_ _) | (with_reducible refine Below.drew ?_) | (with_reducible refine below_drewN ?_ _) | (with_reducible refine below_next ?_ (by with_reducible assumption)) | omega | (dsimp only; omega) | (simp only [World.size_alloc, World.size_setCell, World.size_drew, World.heap_drewN]; omega)))) (by (repeat' (first | (with_reducible exact Below.refl _ _) | (with_reducible assumption) | (with_reducible refine Below.setCell ?_ ?_ _) | (with_reducible refine Below.alloc ?_ ?_ _) | (with_reducible refine Below.drew ?_) | (with_reducible refine below_drewN ?_ _) | (with_reducible refine below_next ?_ (by with_reducible assumption)) | omega | (dsimp only; omega) | (simp only [World.size_alloc, World.size_setCell, World.size_drew, World.heap_drewN]; omega))))).mono ?_); rintro e w' ⟨rfl, hbl⟩; obtain ⟨hc, hf, hz⟩ := cif hbl; (try simp only [World.size_alloc, World.size_setCell, World.size_drew, World.heap_drewN] at hz)))
    all_goals (go_returns; exact ⟨by simp, by (repeat' (first | (with_reducible exact Below.refl _ _) | (with_reducible assumption) | (with_reducible refine Below.setCell ?_ ?_ _) | (with_reducible refine Below.alloc ?_ ?_ _) | (with_reducible refine Below.drew ?_) | (with_reducible refine below_drewN ?_ _) | (with_reducible refine below_next ?_ (by with_reducible assumption)) | omega | (dsimp only; omega) | (simp only [World.size_alloc, World.size_setCell, World.size_drew, World.heap_drewN]; omega)))⟩)
theorem both_any : ∀ (t : Ty), CompAt t ∧ SizeAt t
  | .arr sv d t => by
    obtain ⟨h1, h2⟩ := both_any t
    exact ⟨comp_arr sv d t h2 h1, size_arr sv d t h2 (fun sv => comp_arr sv d t h2 h1)⟩
  | .rcd u n => ⟨comp_rcd u n, size_rcd u n⟩
  | .num s u => ⟨comp_plain _ rfl (by simp), size_num s u⟩
  | .none => ⟨comp_plain _ rfl (by simp), size_plain _ rfl (by simp) (by simp)⟩
  | .void => ⟨comp_plain _ rfl (by simp), size_plain _ rfl (by simp) (by simp)⟩
  | .flt => ⟨comp_plain _ rfl (by simp), size_plain _ rfl (by simp) (by simp)⟩
  | .ptr sv t => ⟨comp_plain _ rfl (by simp), size_plain _ rfl (by simp) (by simp)⟩
  | .fn sv r ps => ⟨comp_plain _ rfl (by simp), size_plain _ rfl (by simp) (by simp)⟩

/-- The reference's answer: size, alignment, whether it is complete. -/
def RCompAt (t : Ty) : Prop := ∀ (K : List Ly) (s : Value) (w : World), KOk K → RdLs w s K → RdT w t → Calls Tryd.prog 51 #[tyV t, s] w fun e w' => e = .returned (.tuple #[.int .i64 (sizeT K t).1, .int .i64 (sizeT K t).2, .bool (complete K t).isSome]) ∧ Below w.heap.size w w'
set_option maxRecDepth 100000 in
set_option maxHeartbeats 2000000 in
theorem rcomp_rcd (u : Bool) (n : ByteArray) : RCompAt (.rcd u n) := by
  intro K s w hK h hr
  have hfi := fun W (hW : Below w.heap.size w W) => rfind_any s K n W (h.next hW)
  unfold FindR at hfi
  obtain ⟨A2, m2, c2, e2, _⟩ := lyC_form _ (foundL_rd h n.toList)
  rw [e2] at hfi
  have hres : complete K (.rcd u n) = if ((find K n.toList).isSome && ((foundL K n.toList).union == u)) then some ((foundL K n.toList).size, (foundL K n.toList).align) else none := by
    unfold complete foundL
    cases find K n.toList with
    | none => rfl
    | some y =>
      simp only [Option.getD_some, Option.isSome_some, Bool.true_and]
      by_cases hu : y.union = u <;> simp [hu]
  unfold sizeT
  rw [hres, show tyV (.rcd u n) = .agg #[.int .i64 6, .int .i64 0, .int .i64 0, .bool u, .string n, .slice none 0 0] from rfl]
  have HFI := Lib.hid hfi
  clear hfi e2 hres h hr hK
  generalize (foundL K n.toList).name = fnm at *
  generalize (foundL K n.toList).union = fu at *
  generalize (foundL K n.toList).size = fz at *
  generalize (foundL K n.toList).align = fa at *
  generalize (find K n.toList).isSome = ok at *
  cases ok
  · simp only [Bool.false_and, Bool.false_eq_true, if_false]
    have hA1 := cell_alloc_if
    have hA2 := frozen_alloc_if
    have hA3 := cell_set_if
    go_enter Tryd.func51, Tryd.ntmps51
    go_wp2_with (first | (go_at_call 58; (with_reducible refine (recordOf_any _ _ _ _ _ _ _ _ _).mono ?_); rintro e w' ⟨rfl, hbl⟩; obtain ⟨hc, hf, hz⟩ := cif hbl; (try simp only [World.size_alloc, World.size_setCell, World.size_drew, World.heap_drewN] at hz)) | (go_at_call 16; (with_reducible refine (HFI.out _ (by (repeat' (first | (with_reducible exact Below.refl _ _) | (with_reducible assumption) | (with_reducible refine Below.setCell ?_ ?_ _) | (with_reducible refine Below.alloc ?_ ?_ _) | (with_reducible refine Below.drew ?_) | (with_reducible refine below_drewN ?_ _) | (with_reducible refine below_next ?_ (by with_reducible assumption)) | omega | (dsimp only; omega) | (simp only [World.size_alloc, World.size_setCell, World.size_drew, World.heap_drewN]; omega))))).mono ?_); rintro e w' ⟨rfl, hbl⟩; obtain ⟨hc, hf, hz⟩ := cif hbl; (try simp only [World.size_alloc, World.size_setCell, World.size_drew, World.heap_drewN] at hz)))
    all_goals (go_returns; exact ⟨rfl, by (repeat' (first | (with_reducible exact Below.refl _ _) | (with_reducible assumption) | (with_reducible refine Below.setCell ?_ ?_ _) | (with_reducible refine Below.alloc ?_ ?_ _) | (with_reducible refine Below.drew ?_) | (with_reducible refine below_drewN ?_ _) | (with_reducible refine below_next ?_ (by with_reducible assumption)) | omega | (dsimp only; omega) | (simp only [World.size_alloc, World.size_setCell, World.size_drew, World.heap_drewN]; omega)))⟩)
  · by_cases hu : fu = u
    · subst hu
      simp only [Bool.true_and, beq_self_eq_true, if_true]
      have hA1 := cell_alloc_if
      have hA2 := frozen_alloc_if
      have hA3 := cell_set_if
      go_enter Tryd.func51, Tryd.ntmps51
      go_wp2_with (first | (go_at_call 58; (with_reducible refine (recordOf_any _ _ _ _ _ _ _ _ _).mono ?_); rintro e w' ⟨rfl, hbl⟩; obtain ⟨hc, hf, hz⟩ := cif hbl; (try simp only [World.size_alloc, World.size_setCell, World.size_drew, World.heap_drewN] at hz)) | (go_at_call 16; (with_reducible refine (HFI.out _ (by (repeat' (first | (with_reducible exact Below.refl _ _) | (with_reducible assumption) | (with_reducible refine Below.setCell ?_ ?_ _) | (with_reducible refine Below.alloc ?_ ?_ _) | (with_reducible refine Below.drew ?_) | (with_reducible refine below_drewN ?_ _) | (with_reducible refine below_next ?_ (by with_reducible assumption)) | omega | (dsimp only; omega) | (simp only [World.size_alloc, World.size_setCell, World.size_drew, World.heap_drewN]; omega))))).mono ?_); rintro e w' ⟨rfl, hbl⟩; obtain ⟨hc, hf, hz⟩ := cif hbl; (try simp only [World.size_alloc, World.size_setCell, World.size_drew, World.heap_drewN] at hz)))
      refine wp_region_ext (by kernel_rfl) (by kernel_rfl) ?_
      repeat (first | go_big_quiet_skip | (go_big_quiet_want; go_big_quiet_op; first | go_big_quiet_on | (apply Exists.intro; refine ⟨fun W hW => ?_, ?_⟩; (focus (first
        | (go_at_call 50; have hWb := Ext.of hW; (with_reducible refine (HC.out _ (by (repeat' (first | (with_reducible exact Below.refl _ _) | (with_reducible assumption) | (with_reducible refine Below.setCell ?_ ?_ _) | (with_reducible refine Below.alloc ?_ ?_ _) | (with_reducible refine Below.drew ?_) | (with_reducible refine below_drewN ?_ _) | (with_reducible refine below_next ?_ (by with_reducible assumption)) | omega | (dsimp only; omega) | (simp only [World.size_alloc, World.size_setCell, World.size_drew, World.heap_drewN]; omega))))).mono ?_); rintro e w1 ⟨rfl, hb⟩; exact ⟨rfl, Ext.next hW hb⟩)
        | exact rfl | (obtain ⟨hcW, hfW, hzW⟩ := cif (Ext.of hW); (try simp only [World.size_alloc, World.size_setCell, World.size_drew, World.heap_drewN] at hzW); simp [go_sem, *, ↓IntWalk.iteOmega]; (try exact rfl)))); go_big_quiet_on)))
      refine wpQuiet_nil ?_
      intro w' hw'
      have hbl := Ext.of hw'
      obtain ⟨hc, hf, hz⟩ := cif hbl
      (try simp only [World.size_alloc, World.size_setCell, World.size_drew, World.heap_drewN] at hz)
      clear hw'
      go_wp2
      go_returns
      exact ⟨rfl, by (repeat' (first | (with_reducible exact Below.refl _ _) | (with_reducible assumption) | (with_reducible refine Below.setCell ?_ ?_ _) | (with_reducible refine Below.alloc ?_ ?_ _) | (with_reducible refine Below.drew ?_) | (with_reducible refine below_drewN ?_ _) | (with_reducible refine below_next ?_ (by with_reducible assumption)) | omega | (dsimp only; omega) | (simp only [World.size_alloc, World.size_setCell, World.size_drew, World.heap_drewN]; omega)))⟩
    · have hu2 : (fu == u) = false := by simpa using hu
      simp only [hu2, Bool.and_false, Bool.false_eq_true, if_false]
      have hA1 := cell_alloc_if
      have hA2 := frozen_alloc_if
      have hA3 := cell_set_if
      go_enter Tryd.func51, Tryd.ntmps51
      go_wp2_with (first | (go_at_call 58; (with_reducible refine (recordOf_any _ _ _ _ _ _ _ _ _).mono ?_); rintro e w' ⟨rfl, hbl⟩; obtain ⟨hc, hf, hz⟩ := cif hbl; (try simp only [World.size_alloc, World.size_setCell, World.size_drew, World.heap_drewN] at hz)) | (go_at_call 16; (with_reducible refine (HFI.out _ (by (repeat' (first | (with_reducible exact Below.refl _ _) | (with_reducible assumption) | (with_reducible refine Below.setCell ?_ ?_ _) | (with_reducible refine Below.alloc ?_ ?_ _) | (with_reducible refine Below.drew ?_) | (with_reducible refine below_drewN ?_ _) | (with_reducible refine below_next ?_ (by with_reducible assumption)) | omega | (dsimp only; omega) | (simp only [World.size_alloc, World.size_setCell, World.size_drew, World.heap_drewN]; omega))))).mono ?_); rintro e w' ⟨rfl, hbl⟩; obtain ⟨hc, hf, hz⟩ := cif hbl; (try simp only [World.size_alloc, World.size_setCell, World.size_drew, World.heap_drewN] at hz)))
      all_goals (go_returns; exact ⟨rfl, by (repeat' (first | (with_reducible exact Below.refl _ _) | (with_reducible assumption) | (with_reducible refine Below.setCell ?_ ?_ _) | (with_reducible refine Below.alloc ?_ ?_ _) | (with_reducible refine Below.drew ?_) | (with_reducible refine below_drewN ?_ _) | (with_reducible refine below_next ?_ (by with_reducible assumption)) | omega | (dsimp only; omega) | (simp only [World.size_alloc, World.size_setCell, World.size_drew, World.heap_drewN]; omega)))⟩)
set_option maxRecDepth 100000 in
set_option maxHeartbeats 2000000 in
theorem rcomp_num (s : Int) (u : Bool) : RCompAt (.num s u) := by
  intro K sk w hK h hr
  have hres : complete K (.num s u) = if isSz s then some (s, s) else none := rfl
  unfold sizeT
  rw [hres, show tyV (.num s u) = .agg #[.int .i64 2, .int .i64 s, .int .i64 0, .bool u, .string ⟨#[]⟩, .slice none 0 0] from rfl]
  clear hres hr h hK
  have HW := Lib.hid (rnumber_any s u)
  generalize isSz s = z at *
  cases z
  · simp only [Bool.false_eq_true, if_false]
    have hA1 := cell_alloc_if
    have hA2 := frozen_alloc_if
    have hA3 := cell_set_if
    go_enter Tryd.func51, Tryd.ntmps51
    go_wp2_with (first
      | (go_at_call 57; (with_reducible refine (numberOf_any _ _ _ _ _ _ _ _ _).mono ?_); rintro e w' ⟨rfl, hbl⟩; obtain ⟨hc, hf, hz⟩ := cif hbl; (try simp only [World.size_alloc, World.size_setCell, World.size_drew, World.heap_drewN] at hz))
      | (go_at_call 80; (with_reducible refine (HW.out _).mono ?_); rintro e w' ⟨rfl, hbl⟩; obtain ⟨hc, hf, hz⟩ := cif hbl; (try simp only [World.size_alloc, World.size_setCell, World.size_drew, World.heap_drewN] at hz)))
    all_goals (go_returns; exact ⟨rfl, by (repeat' (first | (with_reducible exact Below.refl _ _) | (with_reducible assumption) | (with_reducible refine Below.setCell ?_ ?_ _) | (with_reducible refine Below.alloc ?_ ?_ _) | (with_reducible refine Below.drew ?_) | (with_reducible refine below_drewN ?_ _) | (with_reducible refine below_next ?_ (by with_reducible assumption)) | omega | (dsimp only; omega) | (simp only [World.size_alloc, World.size_setCell, World.size_drew, World.heap_drewN]; omega)))⟩)
  · simp only [if_true]
    have hA1 := cell_alloc_if
    have hA2 := frozen_alloc_if
    have hA3 := cell_set_if
    go_enter Tryd.func51, Tryd.ntmps51
    go_wp2_with (first
      | (go_at_call 57; (with_reducible refine (numberOf_any _ _ _ _ _ _ _ _ _).mono ?_); rintro e w' ⟨rfl, hbl⟩; obtain ⟨hc, hf, hz⟩ := cif hbl; (try simp only [World.size_alloc, World.size_setCell, World.size_drew, World.heap_drewN] at hz))
      | (go_at_call 80; (with_reducible refine (HW.out _).mono ?_); rintro e w' ⟨rfl, hbl⟩; obtain ⟨hc, hf, hz⟩ := cif hbl; (try simp only [World.size_alloc, World.size_setCell, World.size_drew, World.heap_drewN] at hz)))
    refine wp_region_ext (by kernel_rfl) (by kernel_rfl) ?_
    repeat (first | go_big_quiet_skip | (go_big_quiet_want; go_big_quiet_op; first | go_big_quiet_on | (apply Exists.intro; refine ⟨fun W hW => ?_, ?_⟩; (focus (first
      | (go_at_call 50; have hWb := Ext.of hW; (with_reducible refine (HC.out _ (by (repeat' (first | (with_reducible exact Below.refl _ _) | (with_reducible assumption) | (with_reducible refine Below.setCell ?_ ?_ _) | (with_reducible refine Below.alloc ?_ ?_ _) | (with_reducible refine Below.drew ?_) | (with_reducible refine below_drewN ?_ _) | (with_reducible refine below_next ?_ (by with_reducible assumption)) | omega | (dsimp only; omega) | (simp only [World.size_alloc, World.size_setCell, World.size_drew, World.heap_drewN]; omega))))).mono ?_); rintro e w1 ⟨rfl, hb⟩; exact ⟨rfl, Ext.next hW hb⟩)
      | exact rfl | (obtain ⟨hcW, hfW, hzW⟩ := cif (Ext.of hW); (try simp only [World.size_alloc, World.size_setCell, World.size_drew, World.heap_drewN] at hzW); simp [go_sem, *, ↓IntWalk.iteOmega]; (try exact rfl)))); go_big_quiet_on)))
    refine wpQuiet_nil ?_
    intro w' hw'
    have hbl := Ext.of hw'
    obtain ⟨hc, hf, hz⟩ := cif hbl
    (try simp only [World.size_alloc, World.size_setCell, World.size_drew, World.heap_drewN] at hz)
    clear hw'
    go_wp2
    go_returns
    exact ⟨rfl, by (repeat' (first | (with_reducible exact Below.refl _ _) | (with_reducible assumption) | (with_reducible refine Below.setCell ?_ ?_ _) | (with_reducible refine Below.alloc ?_ ?_ _) | (with_reducible refine Below.drew ?_) | (with_reducible refine below_drewN ?_ _) | (with_reducible refine below_next ?_ (by with_reducible assumption)) | omega | (dsimp only; omega) | (simp only [World.size_alloc, World.size_setCell, World.size_drew, World.heap_drewN]; omega)))⟩
set_option maxRecDepth 100000 in
set_option maxHeartbeats 2000000 in
theorem rcomp_plain (t : Ty) (ha : isA t = false) (hr0 : ∀ u n, t ≠ .rcd u n) (hn0 : ∀ s u, t ≠ .num s u) : RCompAt t := by
  intro K sk w hK h hr
  obtain ⟨s0, l0, f0, n0, A0, m0, c0, k1, s1, l1, f1, n1, A1, m1, c1, e0, q1, rs1, e1⟩ := ty_kids t hr
  rw [tyV_of e0]
  clear e0 e1 q1 rs1 hr h hK
  cases t
  case rcd => exact absurd rfl (hr0 _ _)
  case arr => cases ha
  case num => exact absurd rfl (hn0 _ _)
  all_goals (
    clear hr0 ha hn0
    simp only [kN]
    have hA1 := cell_alloc_if
    have hA2 := frozen_alloc_if
    have hA3 := cell_set_if
    go_enter Tryd.func51, Tryd.ntmps51
    go_wp2
    all_goals (go_returns; exact ⟨rfl, by (repeat' (first | (with_reducible exact Below.refl _ _) | (with_reducible assumption) | (with_reducible refine Below.setCell ?_ ?_ _) | (with_reducible refine Below.alloc ?_ ?_ _) | (with_reducible refine Below.drew ?_) | (with_reducible refine below_drewN ?_ _) | (with_reducible refine below_next ?_ (by with_reducible assumption)) | omega | (dsimp only; omega) | (simp only [World.size_alloc, World.size_setCell, World.size_drew, World.heap_drewN]; omega)))⟩))
set_option maxRecDepth 100000 in
set_option maxHeartbeats 4000000 in
theorem rcomp_arr (sv : Value) (d : Int) (t : Ty) (ihc : RCompAt t) : RCompAt (.arr sv d t) := by
  intro K sk w hK hk hr
  obtain ⟨s0, l0, f0, n0, A0, m0, c0, k1, s1, l1, f1, n1, A1, m1, c1, e0, q1, rs1, e1⟩ := ty_kids _ hr
  have r1 : RdT w t := by simp only [RdT] at hr; exact hr.2
  have hc := fun W (hW : Below w.heap.size w W) => ihc K sk W hK (hk.next hW) (r1.next hW)
  rw [show tyV t = _ from tyV_of e1] at hc
  rw [tyV_of e0]
  have Q1 := Lib.hid q1
  have RS1 := Lib.hid rs1
  have E1 := Lib.hid e1
  simp [tyC, tyMk] at e0
  obtain ⟨-, -, rfl, -⟩ := e0
  simp only [kN]
  unfold sizeT at hc ⊢
  rw [complete_arr]
  have hcm := complete_ok K hK t
  obtain ⟨As, cs, rfl⟩ := hk.1.form
  clear e1 r1 hr hk hK ihc q1 rs1
  cases hct : complete K t with
  | none =>
    rw [hct] at hc
    simp only [Option.getD_none, Option.isSome_none] at hc ⊢
    have HC := Lib.hid hc
    clear hc hct hcm
    have hA1 := cell_alloc_if
    have hA2 := frozen_alloc_if
    have hA3 := cell_set_if
    go_enter Tryd.func51, Tryd.ntmps51
    go_wp2_with (first
      | (go_at_call 55; (with_reducible refine (arrayOf_any _ _ _ _ _ _ _ _ _ (Q1.out.next (by (repeat' (first | (with_reducible exact Below.refl _ _) | (with_reducible assumption) | (with_reducible refine Below.setCell ?_ ?_ _) | (with_reducible refine Below.alloc ?_ ?_ _) | (with_reducible refine Below.drew ?_) | (with_reducible refine below_drewN ?_ _) | (with_reducible refine below_next ?_ (by with_reducible assumption)) | omega | (dsimp only; omega) | (simp only [World.size_alloc, World.size_setCell, World.size_drew, World.heap_drewN]; omega))))) (RS1.out.next (by (repeat' (first | (with_reducible exact Below.refl _ _) | (with_reducible assumption) | (with_reducible refine Below.setCell ?_ ?_ _) | (with_reducible refine Below.alloc ?_ ?_ _) | (with_reducible refine Below.drew ?_) | (with_reducible refine below_drewN ?_ _) | (with_reducible refine below_next ?_ (by with_reducible assumption)) | omega | (dsimp only; omega) | (simp only [World.size_alloc, World.size_setCell, World.size_drew, World.heap_drewN]; omega))))) E1.out).mono ?_); rintro e w' ⟨rfl, hbl⟩; obtain ⟨hc, hf, hz⟩ := cif hbl; (try simp only [World.size_alloc, World.size_setCell, World.size_drew, World.heap_drewN] at hz))
      | (go_at_call 51; (with_reducible refine (HC.out _ (by (repeat' (first | (with_reducible exact Below.refl _ _) | (with_reducible assumption) | (with_reducible refine Below.setCell ?_ ?_ _) | (with_reducible refine Below.alloc ?_ ?_ _) | (with_reducible refine Below.drew ?_) | (with_reducible refine below_drewN ?_ _) | (with_reducible refine below_next ?_ (by with_reducible assumption)) | omega | (dsimp only; omega) | (simp only [World.size_alloc, World.size_setCell, World.size_drew, World.heap_drewN]; omega))))).mono ?_); rintro e w' ⟨rfl, hbl⟩; obtain ⟨hc, hf, hz⟩ := cif hbl; (try simp only [World.size_alloc, World.size_setCell, World.size_drew, World.heap_drewN] at hz)))
    refine wp_region_ext (by kernel_rfl) (by kernel_rfl) ?_
    repeat (first | go_big_quiet_skip | (go_big_quiet_want; go_big_quiet_op; first | go_big_quiet_on | (apply Exists.intro; refine ⟨fun W hW => ?_, ?_⟩; (focus (first
      | (go_at_call 50; have hWb := Ext.of hW; (with_reducible refine (HC.out _ (by (repeat' (first | (with_reducible exact Below.refl _ _) | (with_reducible assumption) | (with_reducible refine Below.setCell ?_ ?_ _) | (with_reducible refine Below.alloc ?_ ?_ _) | (with_reducible refine Below.drew ?_) | (with_reducible refine below_drewN ?_ _) | (with_reducible refine below_next ?_ (by with_reducible assumption)) | omega | (dsimp only; omega) | (simp only [World.size_alloc, World.size_setCell, World.size_drew, World.heap_drewN]; omega))))).mono ?_); rintro e w1 ⟨rfl, hb⟩; exact ⟨rfl, Ext.next hW hb⟩)
      | exact rfl | (obtain ⟨hcW, hfW, hzW⟩ := cif (Ext.of hW); (try simp only [World.size_alloc, World.size_setCell, World.size_drew, World.heap_drewN] at hzW); simp [go_sem, *, ↓IntWalk.iteOmega]; (try exact rfl)))); go_big_quiet_on)))
    refine wpQuiet_nil ?_
    intro w' hw'
    have hbl := Ext.of hw'
    obtain ⟨hc, hf, hz⟩ := cif hbl
    (try simp only [World.size_alloc, World.size_setCell, World.size_drew, World.heap_drewN] at hz)
    clear hw'
    go_wp2
    all_goals go_returns
    all_goals exact ⟨rfl, by (repeat' (first | (with_reducible exact Below.refl _ _) | (with_reducible assumption) | (with_reducible refine Below.setCell ?_ ?_ _) | (with_reducible refine Below.alloc ?_ ?_ _) | (with_reducible refine Below.drew ?_) | (with_reducible refine below_drewN ?_ _) | (with_reducible refine below_next ?_ (by with_reducible assumption)) | omega | (dsimp only; omega) | (simp only [World.size_alloc, World.size_setCell, World.size_drew, World.heap_drewN]; omega)))⟩
  | some sa =>
    obtain ⟨z, a⟩ := sa
    obtain ⟨z0, z1, _⟩ := hcm z a hct
    rw [hct] at hc
    simp only [Option.getD_some, Option.isSome_some] at hc ⊢
    have HC := Lib.hid hc
    clear hc hct hcm
    by_cases hd : 0 < d
    · have hd1 : decide (1 ≤ d) = true := by simp; omega
      have hd2 : 1 ≤ d := by omega
      by_cases hz : z ≤ 0
      · rw [if_pos ⟨hd, .inl hz⟩]
        have hz0 : z = 0 := by omega
        subst hz0
        have hA1 := cell_alloc_if
        have hA2 := frozen_alloc_if
        have hA3 := cell_set_if
        go_enter Tryd.func51, Tryd.ntmps51
        go_wp2_with (first
          | (go_at_call 55; (with_reducible refine (arrayOf_any _ _ _ _ _ _ _ _ _ (Q1.out.next (by (repeat' (first | (with_reducible exact Below.refl _ _) | (with_reducible assumption) | (with_reducible refine Below.setCell ?_ ?_ _) | (with_reducible refine Below.alloc ?_ ?_ _) | (with_reducible refine Below.drew ?_) | (with_reducible refine below_drewN ?_ _) | (with_reducible refine below_next ?_ (by with_reducible assumption)) | omega | (dsimp only; omega) | (simp only [World.size_alloc, World.size_setCell, World.size_drew, World.heap_drewN]; omega))))) (RS1.out.next (by (repeat' (first | (with_reducible exact Below.refl _ _) | (with_reducible assumption) | (with_reducible refine Below.setCell ?_ ?_ _) | (with_reducible refine Below.alloc ?_ ?_ _) | (with_reducible refine Below.drew ?_) | (with_reducible refine below_drewN ?_ _) | (with_reducible refine below_next ?_ (by with_reducible assumption)) | omega | (dsimp only; omega) | (simp only [World.size_alloc, World.size_setCell, World.size_drew, World.heap_drewN]; omega))))) E1.out).mono ?_); rintro e w' ⟨rfl, hbl⟩; obtain ⟨hc, hf, hz⟩ := cif hbl; (try simp only [World.size_alloc, World.size_setCell, World.size_drew, World.heap_drewN] at hz))
          | (go_at_call 51; (with_reducible refine (HC.out _ (by (repeat' (first | (with_reducible exact Below.refl _ _) | (with_reducible assumption) | (with_reducible refine Below.setCell ?_ ?_ _) | (with_reducible refine Below.alloc ?_ ?_ _) | (with_reducible refine Below.drew ?_) | (with_reducible refine below_drewN ?_ _) | (with_reducible refine below_next ?_ (by with_reducible assumption)) | omega | (dsimp only; omega) | (simp only [World.size_alloc, World.size_setCell, World.size_drew, World.heap_drewN]; omega))))).mono ?_); rintro e w' ⟨rfl, hbl⟩; obtain ⟨hc, hf, hz⟩ := cif hbl; (try simp only [World.size_alloc, World.size_setCell, World.size_drew, World.heap_drewN] at hz)))
        refine wp_region_ext (by kernel_rfl) (by kernel_rfl) ?_
        repeat (first | go_big_quiet_skip | (go_big_quiet_want; go_big_quiet_op; first | go_big_quiet_on | (apply Exists.intro; refine ⟨fun W hW => ?_, ?_⟩; (focus (first
          | (go_at_call 50; have hWb := Ext.of hW; (with_reducible refine (HC.out _ (by (repeat' (first | (with_reducible exact Below.refl _ _) | (with_reducible assumption) | (with_reducible refine Below.setCell ?_ ?_ _) | (with_reducible refine Below.alloc ?_ ?_ _) | (with_reducible refine Below.drew ?_) | (with_reducible refine below_drewN ?_ _) | (with_reducible refine below_next ?_ (by with_reducible assumption)) | omega | (dsimp only; omega) | (simp only [World.size_alloc, World.size_setCell, World.size_drew, World.heap_drewN]; omega))))).mono ?_); rintro e w1 ⟨rfl, hb⟩; exact ⟨rfl, Ext.next hW hb⟩)
          | exact rfl | (obtain ⟨hcW, hfW, hzW⟩ := cif (Ext.of hW); (try simp only [World.size_alloc, World.size_setCell, World.size_drew, World.heap_drewN] at hzW); simp [go_sem, *, ↓IntWalk.iteOmega]; (try exact rfl)))); go_big_quiet_on)))
        refine wpQuiet_nil ?_
        intro w' hw'
        have hbl := Ext.of hw'
        obtain ⟨hc, hf, hz⟩ := cif hbl
        (try simp only [World.size_alloc, World.size_setCell, World.size_drew, World.heap_drewN] at hz)
        clear hw'
        go_wp2
        all_goals go_returns
        all_goals exact ⟨by simp, by (repeat' (first | (with_reducible exact Below.refl _ _) | (with_reducible assumption) | (with_reducible refine Below.setCell ?_ ?_ _) | (with_reducible refine Below.alloc ?_ ?_ _) | (with_reducible refine Below.drew ?_) | (with_reducible refine below_drewN ?_ _) | (with_reducible refine below_next ?_ (by with_reducible assumption)) | omega | (dsimp only; omega) | (simp only [World.size_alloc, World.size_setCell, World.size_drew, World.heap_drewN]; omega)))⟩
      · have hz' : 0 < z := by omega
        have hq : (1048576 : Int).tdiv z = 1048576 / z := Int.tdiv_eq_ediv_of_nonneg (by omega)
        have hq0 : 0 ≤ (1048576 : Int) / z := Int.ediv_nonneg (by omega) (by omega)
        have hq1 : (1048576 : Int) / z ≤ 1048576 := Int.ediv_le_self _ (by omega)
        have hzd : decide (z ≤ 0) = false := by simpa using hz
        have hwr : IntKind.i64.wrap ((1048576 : Int).tdiv z) = 1048576 / z := by rw [hq]; exact IntWalk.i64_in _ (by omega)
        have hne : ¬ z = 0 := by omega
        by_cases hm : d ≤ 1048576 / z
        · have hmb : decide (d ≤ 1048576 / z) = true := by simpa using hm
          have hp1 : 0 ≤ d * z := Int.mul_nonneg (by omega) (by omega)
          have hp2 : d * z ≤ 1048576 := by
            have h3 : z * d ≤ z * (1048576 / z) := Int.mul_le_mul_of_nonneg_left hm z0
            have h4 : z * (1048576 / z) ≤ 1048576 := Int.mul_ediv_self_le hne
            rw [Int.mul_comm]; omega
          rw [if_pos ⟨hd, .inr hm⟩]
          have hA1 := cell_alloc_if
          have hA2 := frozen_alloc_if
          have hA3 := cell_set_if
          go_enter Tryd.func51, Tryd.ntmps51
          go_wp2_with (first
            | (go_at_call 55; (with_reducible refine (arrayOf_any _ _ _ _ _ _ _ _ _ (Q1.out.next (by (repeat' (first | (with_reducible exact Below.refl _ _) | (with_reducible assumption) | (with_reducible refine Below.setCell ?_ ?_ _) | (with_reducible refine Below.alloc ?_ ?_ _) | (with_reducible refine Below.drew ?_) | (with_reducible refine below_drewN ?_ _) | (with_reducible refine below_next ?_ (by with_reducible assumption)) | omega | (dsimp only; omega) | (simp only [World.size_alloc, World.size_setCell, World.size_drew, World.heap_drewN]; omega))))) (RS1.out.next (by (repeat' (first | (with_reducible exact Below.refl _ _) | (with_reducible assumption) | (with_reducible refine Below.setCell ?_ ?_ _) | (with_reducible refine Below.alloc ?_ ?_ _) | (with_reducible refine Below.drew ?_) | (with_reducible refine below_drewN ?_ _) | (with_reducible refine below_next ?_ (by with_reducible assumption)) | omega | (dsimp only; omega) | (simp only [World.size_alloc, World.size_setCell, World.size_drew, World.heap_drewN]; omega))))) E1.out).mono ?_); rintro e w' ⟨rfl, hbl⟩; obtain ⟨hc, hf, hz⟩ := cif hbl; (try simp only [World.size_alloc, World.size_setCell, World.size_drew, World.heap_drewN] at hz))
            | (go_at_call 51; (with_reducible refine (HC.out _ (by (repeat' (first | (with_reducible exact Below.refl _ _) | (with_reducible assumption) | (with_reducible refine Below.setCell ?_ ?_ _) | (with_reducible refine Below.alloc ?_ ?_ _) | (with_reducible refine Below.drew ?_) | (with_reducible refine below_drewN ?_ _) | (with_reducible refine below_next ?_ (by with_reducible assumption)) | omega | (dsimp only; omega) | (simp only [World.size_alloc, World.size_setCell, World.size_drew, World.heap_drewN]; omega))))).mono ?_); rintro e w' ⟨rfl, hbl⟩; obtain ⟨hc, hf, hz⟩ := cif hbl; (try simp only [World.size_alloc, World.size_setCell, World.size_drew, World.heap_drewN] at hz)))
          refine wp_region_ext (by kernel_rfl) (by kernel_rfl) ?_
          repeat (first | go_big_quiet_skip | (go_big_quiet_want; go_big_quiet_op; first | go_big_quiet_on | (apply Exists.intro; refine ⟨fun W hW => ?_, ?_⟩; (focus (first
            | (go_at_call 50; have hWb := Ext.of hW; (with_reducible refine (HC.out _ (by (repeat' (first | (with_reducible exact Below.refl _ _) | (with_reducible assumption) | (with_reducible refine Below.setCell ?_ ?_ _) | (with_reducible refine Below.alloc ?_ ?_ _) | (with_reducible refine Below.drew ?_) | (with_reducible refine below_drewN ?_ _) | (with_reducible refine below_next ?_ (by with_reducible assumption)) | omega | (dsimp only; omega) | (simp only [World.size_alloc, World.size_setCell, World.size_drew, World.heap_drewN]; omega))))).mono ?_); rintro e w1 ⟨rfl, hb⟩; exact ⟨rfl, Ext.next hW hb⟩)
            | exact rfl | (obtain ⟨hcW, hfW, hzW⟩ := cif (Ext.of hW); (try simp only [World.size_alloc, World.size_setCell, World.size_drew, World.heap_drewN] at hzW); simp [go_sem, *, ↓IntWalk.iteOmega]; (try exact rfl)))); go_big_quiet_on)))
          refine wpQuiet_nil ?_
          intro w' hw'
          have hbl := Ext.of hw'
          obtain ⟨hc, hf, hz⟩ := cif hbl
          (try simp only [World.size_alloc, World.size_setCell, World.size_drew, World.heap_drewN] at hz)
          clear hw'
          go_wp2
          all_goals go_returns
          all_goals exact ⟨by simp [Int.mul_comm], by (repeat' (first | (with_reducible exact Below.refl _ _) | (with_reducible assumption) | (with_reducible refine Below.setCell ?_ ?_ _) | (with_reducible refine Below.alloc ?_ ?_ _) | (with_reducible refine Below.drew ?_) | (with_reducible refine below_drewN ?_ _) | (with_reducible refine below_next ?_ (by with_reducible assumption)) | omega | (dsimp only; omega) | (simp only [World.size_alloc, World.size_setCell, World.size_drew, World.heap_drewN]; omega)))⟩
        · have hmb : decide (d ≤ 1048576 / z) = false := by simpa using hm
          rw [if_neg (by rintro ⟨_, h1 | h1⟩ <;> omega)]
          have hA1 := cell_alloc_if
          have hA2 := frozen_alloc_if
          have hA3 := cell_set_if
          go_enter Tryd.func51, Tryd.ntmps51
          go_wp2_with (first
            | (go_at_call 55; (with_reducible refine (arrayOf_any _ _ _ _ _ _ _ _ _ (Q1.out.next (by (repeat' (first | (with_reducible exact Below.refl _ _) | (with_reducible assumption) | (with_reducible refine Below.setCell ?_ ?_ _) | (with_reducible refine Below.alloc ?_ ?_ _) | (with_reducible refine Below.drew ?_) | (with_reducible refine below_drewN ?_ _) | (with_reducible refine below_next ?_ (by with_reducible assumption)) | omega | (dsimp only; omega) | (simp only [World.size_alloc, World.size_setCell, World.size_drew, World.heap_drewN]; omega))))) (RS1.out.next (by (repeat' (first | (with_reducible exact Below.refl _ _) | (with_reducible assumption) | (with_reducible refine Below.setCell ?_ ?_ _) | (with_reducible refine Below.alloc ?_ ?_ _) | (with_reducible refine Below.drew ?_) | (with_reducible refine below_drewN ?_ _) | (with_reducible refine below_next ?_ (by with_reducible assumption)) | omega | (dsimp only; omega) | (simp only [World.size_alloc, World.size_setCell, World.size_drew, World.heap_drewN]; omega))))) E1.out).mono ?_); rintro e w' ⟨rfl, hbl⟩; obtain ⟨hc, hf, hz⟩ := cif hbl; (try simp only [World.size_alloc, World.size_setCell, World.size_drew, World.heap_drewN] at hz))
            | (go_at_call 51; (with_reducible refine (HC.out _ (by (repeat' (first | (with_reducible exact Below.refl _ _) | (with_reducible assumption) | (with_reducible refine Below.setCell ?_ ?_ _) | (with_reducible refine Below.alloc ?_ ?_ _) | (with_reducible refine Below.drew ?_) | (with_reducible refine below_drewN ?_ _) | (with_reducible refine below_next ?_ (by with_reducible assumption)) | omega | (dsimp only; omega) | (simp only [World.size_alloc, World.size_setCell, World.size_drew, World.heap_drewN]; omega))))).mono ?_); rintro e w' ⟨rfl, hbl⟩; obtain ⟨hc, hf, hz⟩ := cif hbl; (try simp only [World.size_alloc, World.size_setCell, World.size_drew, World.heap_drewN] at hz)))
          refine wp_region_ext (by kernel_rfl) (by kernel_rfl) ?_
          repeat (first | go_big_quiet_skip | (go_big_quiet_want; go_big_quiet_op; first | go_big_quiet_on | (apply Exists.intro; refine ⟨fun W hW => ?_, ?_⟩; (focus (first
            | (go_at_call 50; have hWb := Ext.of hW; (with_reducible refine (HC.out _ (by (repeat' (first | (with_reducible exact Below.refl _ _) | (with_reducible assumption) | (with_reducible refine Below.setCell ?_ ?_ _) | (with_reducible refine Below.alloc ?_ ?_ _) | (with_reducible refine Below.drew ?_) | (with_reducible refine below_drewN ?_ _) | (with_reducible refine below_next ?_ (by with_reducible assumption)) | omega | (dsimp only; omega) | (simp only [World.size_alloc, World.size_setCell, World.size_drew, World.heap_drewN]; omega))))).mono ?_); rintro e w1 ⟨rfl, hb⟩; exact ⟨rfl, Ext.next hW hb⟩)
            | exact rfl | (obtain ⟨hcW, hfW, hzW⟩ := cif (Ext.of hW); (try simp only [World.size_alloc, World.size_setCell, World.size_drew, World.heap_drewN] at hzW); simp [go_sem, *, ↓IntWalk.iteOmega]; (try exact rfl)))); go_big_quiet_on)))
          refine wpQuiet_nil ?_
          intro w' hw'
          have hbl := Ext.of hw'
          obtain ⟨hc, hf, hz⟩ := cif hbl
          (try simp only [World.size_alloc, World.size_setCell, World.size_drew, World.heap_drewN] at hz)
          clear hw'
          go_wp2
          all_goals go_returns
          all_goals exact ⟨rfl, by (repeat' (first | (with_reducible exact Below.refl _ _) | (with_reducible assumption) | (with_reducible refine Below.setCell ?_ ?_ _) | (with_reducible refine Below.alloc ?_ ?_ _) | (with_reducible refine Below.drew ?_) | (with_reducible refine below_drewN ?_ _) | (with_reducible refine below_next ?_ (by with_reducible assumption)) | omega | (dsimp only; omega) | (simp only [World.size_alloc, World.size_setCell, World.size_drew, World.heap_drewN]; omega)))⟩
    · rw [if_neg (by omega)]
      have hdd : decide (1 ≤ d) = false := by simp; omega
      have hd2 : ¬ 1 ≤ d := by omega
      have hA1 := cell_alloc_if
      have hA2 := frozen_alloc_if
      have hA3 := cell_set_if
      go_enter Tryd.func51, Tryd.ntmps51
      go_wp2_with (first
        | (go_at_call 55; (with_reducible refine (arrayOf_any _ _ _ _ _ _ _ _ _ (Q1.out.next (by (repeat' (first | (with_reducible exact Below.refl _ _) | (with_reducible assumption) | (with_reducible refine Below.setCell ?_ ?_ _) | (with_reducible refine Below.alloc ?_ ?_ _) | (with_reducible refine Below.drew ?_) | (with_reducible refine below_drewN ?_ _) | (with_reducible refine below_next ?_ (by with_reducible assumption)) | omega | (dsimp only; omega) | (simp only [World.size_alloc, World.size_setCell, World.size_drew, World.heap_drewN]; omega))))) (RS1.out.next (by (repeat' (first | (with_reducible exact Below.refl _ _) | (with_reducible assumption) | (with_reducible refine Below.setCell ?_ ?_ _) | (with_reducible refine Below.alloc ?_ ?_ _) | (with_reducible refine Below.drew ?_) | (with_reducible refine below_drewN ?_ _) | (with_reducible refine below_next ?_ (by with_reducible assumption)) | omega | (dsimp only; omega) | (simp only [World.size_alloc, World.size_setCell, World.size_drew, World.heap_drewN]; omega))))) E1.out).mono ?_); rintro e w' ⟨rfl, hbl⟩; obtain ⟨hc, hf, hz⟩ := cif hbl; (try simp only [World.size_alloc, World.size_setCell, World.size_drew, World.heap_drewN] at hz))
        | (go_at_call 51; (with_reducible refine (HC.out _ (by (repeat' (first | (with_reducible exact Below.refl _ _) | (with_reducible assumption) | (with_reducible refine Below.setCell ?_ ?_ _) | (with_reducible refine Below.alloc ?_ ?_ _) | (with_reducible refine Below.drew ?_) | (with_reducible refine below_drewN ?_ _) | (with_reducible refine below_next ?_ (by with_reducible assumption)) | omega | (dsimp only; omega) | (simp only [World.size_alloc, World.size_setCell, World.size_drew, World.heap_drewN]; omega))))).mono ?_); rintro e w' ⟨rfl, hbl⟩; obtain ⟨hc, hf, hz⟩ := cif hbl; (try simp only [World.size_alloc, World.size_setCell, World.size_drew, World.heap_drewN] at hz)))
      refine wp_region_ext (by kernel_rfl) (by kernel_rfl) ?_
      repeat (first | go_big_quiet_skip | (go_big_quiet_want; go_big_quiet_op; first | go_big_quiet_on | (apply Exists.intro; refine ⟨fun W hW => ?_, ?_⟩; (focus (first
        | (go_at_call 50; have hWb := Ext.of hW; (with_reducible refine (HC.out _ (by (repeat' (first | (with_reducible exact Below.refl _ _) | (with_reducible assumption) | (with_reducible refine Below.setCell ?_ ?_ _) | (with_reducible refine Below.alloc ?_ ?_ _) | (with_reducible refine Below.drew ?_) | (with_reducible refine below_drewN ?_ _) | (with_reducible refine below_next ?_ (by with_reducible assumption)) | omega | (dsimp only; omega) | (simp only [World.size_alloc, World.size_setCell, World.size_drew, World.heap_drewN]; omega))))).mono ?_); rintro e w1 ⟨rfl, hb⟩; exact ⟨rfl, Ext.next hW hb⟩)
        | exact rfl | (obtain ⟨hcW, hfW, hzW⟩ := cif (Ext.of hW); (try simp only [World.size_alloc, World.size_setCell, World.size_drew, World.heap_drewN] at hzW); simp [go_sem, *, ↓IntWalk.iteOmega]; (try exact rfl)))); go_big_quiet_on)))
      refine wpQuiet_nil ?_
      intro w' hw'
      have hbl := Ext.of hw'
      obtain ⟨hc, hf, hz⟩ := cif hbl
      (try simp only [World.size_alloc, World.size_setCell, World.size_drew, World.heap_drewN] at hz)
      clear hw'
      go_wp2
      all_goals go_returns
      all_goals exact ⟨rfl, by (repeat' (first | (with_reducible exact Below.refl _ _) | (with_reducible assumption) | (with_reducible refine Below.setCell ?_ ?_ _) | (with_reducible refine Below.alloc ?_ ?_ _) | (with_reducible refine Below.drew ?_) | (with_reducible refine below_drewN ?_ _) | (with_reducible refine below_next ?_ (by with_reducible assumption)) | omega | (dsimp only; omega) | (simp only [World.size_alloc, World.size_setCell, World.size_drew, World.heap_drewN]; omega)))⟩
theorem rcomp_any : ∀ (t : Ty), RCompAt t
  | .arr sv d t => rcomp_arr sv d t (rcomp_any t)
  | .rcd u n => rcomp_rcd u n
  | .num s u => rcomp_num s u
  | .none => rcomp_plain _ rfl (by simp) (by simp)
  | .void => rcomp_plain _ rfl (by simp) (by simp)
  | .flt => rcomp_plain _ rfl (by simp) (by simp)
  | .ptr sv t => rcomp_plain _ rfl (by simp) (by simp)
  | .fn sv r ps => rcomp_plain _ rfl (by simp) (by simp)
set_option maxRecDepth 100000 in
set_option maxHeartbeats 1000000 in
theorem rsize_any (t : Ty) (K : List Ly) (s : Value) (w : World) (hK : KOk K) (h : RdLs w s K) (hr : RdT w t) : Calls Tryd.prog 13 #[tyV t, s] w fun e w' => e = .returned (.tuple #[.int .i64 (sizeT K t).1, .int .i64 (sizeT K t).2]) ∧ Below w.heap.size w w' := by
  obtain ⟨k1, s1, l1, f1, n1, A1, m1, c1, e1⟩ := tyC_form t hr
  have hc := fun W (hW : Below w.heap.size w W) => rcomp_any t K s W hK (h.next hW) (hr.next hW)
  rw [tyV_of e1] at hc ⊢
  obtain ⟨As, cs, rfl⟩ := h.1.form
  have HC := Lib.hid hc
  clear hc e1 hr h hK
  have hA1 := cell_alloc_if
  have hA2 := frozen_alloc_if
  have hA3 := cell_set_if
  go_enter Tryd.func13, Tryd.ntmps13
  go_wp2_with (go_at_call 51; (with_reducible refine (HC.out _ (by (repeat' (first | (with_reducible exact Below.refl _ _) | (with_reducible assumption) | (with_reducible refine Below.setCell ?_ ?_ _) | (with_reducible refine Below.alloc ?_ ?_ _) | (with_reducible refine Below.drew ?_) | (with_reducible refine below_drewN ?_ _) | (with_reducible refine below_next ?_ (by with_reducible assumption)) | omega | (dsimp only; omega) | (simp only [World.size_alloc, World.size_setCell, World.size_drew, World.heap_drewN]; omega))))).mono ?_); rintro e w' ⟨rfl, hbl⟩; obtain ⟨hc, hf, hz⟩ := cif hbl; (try simp only [World.size_alloc, World.size_setCell, World.size_drew, World.heap_drewN] at hz))
  go_returns
  exact ⟨rfl, by (repeat' (first | (with_reducible exact Below.refl _ _) | (with_reducible assumption) | (with_reducible refine Below.setCell ?_ ?_ _) | (with_reducible refine Below.alloc ?_ ?_ _) | (with_reducible refine Below.drew ?_) | (with_reducible refine below_drewN ?_ _) | (with_reducible refine below_next ?_ (by with_reducible assumption)) | omega | (dsimp only; omega) | (simp only [World.size_alloc, World.size_setCell, World.size_drew, World.heap_drewN]; omega)))⟩
end Go.Proofs.YteeojgepgjndgaaDoor
