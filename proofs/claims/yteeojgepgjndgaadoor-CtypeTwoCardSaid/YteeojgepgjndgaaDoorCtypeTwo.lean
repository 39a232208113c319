/-
  The law CtypeTwo, walked: the program gives the document's common type and conversions of every two types.
-/
import Derived.Test.YteeojgepgjndgaaDoorCtypeW23
import Derived.Test.YteeojgepgjndgaaDoorCtypeW24
import Derived.Test.YteeojgepgjndgaaDoorCtypeW5
import Derived.Test.YteeojgepgjndgaaDoorCtypeW7
namespace Go.Proofs.YteeojgepgjndgaaDoor
open Go.RowKit
set_option linter.unusedVariables false
set_option linter.unusedSimpArgs false

set_option maxRecDepth 100000 in
set_option maxHeartbeats 8000000 in
theorem two_core (la lb : List Int) (Aa Ab : Option Addr) (ma ca mb cb : Nat) (w : World) (ht : TabW w) (hla : ∀ x ∈ la, I64 x) (hlb : ∀ x ∈ lb, I64 x)
    (ha : RdL intC 1 w (.slice Aa ma ca) la) (hb : RdL intC 1 w (.slice Ab mb cb) lb) :
    Calls Tryd.prog 5 #[.slice Aa ma ca, .slice Ab mb cb] w fun e w' => e = .returned (.bool true) ∧ Below w.heap.size w w' := by
  have HF : Hid (∀ W, Below w.heap.size w W → Calls Tryd.prog 9 #[] W fun e w' => e = .returned (.bool true) ∧ Below W.heap.size W w') := Lib.hid fun W hW => fixed_any W (ht.next hW)
  have HO1 : Hid (∀ W, Below w.heap.size w W → Calls Tryd.prog 11 #[.slice Aa ma ca] W (OneP (oneE la) W)) := Lib.hid fun W hW => one_free la Aa ma ca W hla (ha.next hW)
  have HO2 : Hid (∀ W, Below w.heap.size w W → Calls Tryd.prog 11 #[.slice Ab mb cb] W (OneP (oneE lb) W)) := Lib.hid fun W hW => one_free lb Ab mb cb W hlb (hb.next hW)
  clear ht hla hlb ha hb
  have hA1 := cell_alloc_if
  have hA2 := frozen_alloc_if
  have hA3 := cell_set_if
  go_enter Tryd.func5, Tryd.ntmps5
  go_upto_region 4 with (first
    | (go_at_call 9; (with_reducible refine (HF.out _ (by (repeat' (first | (with_reducible exact Below.refl _ _) | (with_reducible assumption) | (with_reducible refine Below.setCell ?_ ?_ _) | (with_reducible refine Below.alloc ?_ ?_ _) | (with_reducible refine Below.drew ?_) | (with_reducible refine below_drewN ?_ _) | (with_reducible refine below_next ?_ (by with_reducible assumption)) | omega | (dsimp only; omega) | (simp only [World.size_alloc, World.size_setCell, World.size_drew, World.heap_drewN]; omega))))).mono ?_); rintro e w1 ⟨rfl, hb1⟩; obtain ⟨hc1, hf1, hz1⟩ := cif hb1; clear hf1; (try simp only [World.size_alloc, World.size_setCell, World.size_drew, World.heap_drewN] at hz1))
    | (go_at_call 11; (with_reducible refine (HO1.out _ (by (repeat' (first | (with_reducible exact Below.refl _ _) | (with_reducible assumption) | (with_reducible refine Below.setCell ?_ ?_ _) | (with_reducible refine Below.alloc ?_ ?_ _) | (with_reducible refine Below.drew ?_) | (with_reducible refine below_drewN ?_ _) | (with_reducible refine below_next ?_ (by with_reducible assumption)) | omega | (dsimp only; omega) | (simp only [World.size_alloc, World.size_setCell, World.size_drew, World.heap_drewN]; omega))))).mono ?_); rintro e w2 ⟨t, rfl, het, hrt, hit, hb2⟩; obtain ⟨k1, s1, l1, f1, n1, A1, m1, c1, e1⟩ := tyC_form t hrt; rw [tyV_of e1]; have E1 := Lib.hid e1; have HT1 := Lib.hid hrt; have ET1 := Lib.hid het; clear e1 hrt hit het; obtain ⟨hc2, hf2, hz2⟩ := cif hb2; clear hf2; (try simp only [World.size_alloc, World.size_setCell, World.size_drew, World.heap_drewN] at hz2))
    | (go_at_call 11; (with_reducible refine (HO2.out _ (by (repeat' (first | (with_reducible exact Below.refl _ _) | (with_reducible assumption) | (with_reducible refine Below.setCell ?_ ?_ _) | (with_reducible refine Below.alloc ?_ ?_ _) | (with_reducible refine Below.drew ?_) | (with_reducible refine below_drewN ?_ _) | (with_reducible refine below_next ?_ (by with_reducible assumption)) | omega | (dsimp only; omega) | (simp only [World.size_alloc, World.size_setCell, World.size_drew, World.heap_drewN]; omega))))).mono ?_); rintro e w3 ⟨u, rfl, heu, hru, hiu, hb3⟩; obtain ⟨k2, s2, l2, f2, n2, A2, m2, c2, e2⟩ := tyC_form u hru; rw [tyV_of e2]; have E2 := Lib.hid e2; have HT2 := Lib.hid hru; have ET2 := Lib.hid heu; clear e2 hru hiu heu; obtain ⟨hc3, hf3, hz3⟩ := cif hb3; clear hf3; (try simp only [World.size_alloc, World.size_setCell, World.size_drew, World.heap_drewN] at hz3)))
  have r2 : RdT w3 u := HT2.out
  have r1 : RdT w3 t := HT1.out.next (by (repeat' (first | (with_reducible exact Below.refl _ _) | (with_reducible assumption) | (with_reducible refine Below.setCell ?_ ?_ _) | (with_reducible refine Below.alloc ?_ ?_ _) | (with_reducible refine Below.drew ?_) | (with_reducible refine below_drewN ?_ _) | (with_reducible refine below_next ?_ (by with_reducible assumption)) | omega | (dsimp only; omega) | (simp only [World.size_alloc, World.size_setCell, World.size_drew, World.heap_drewN]; omega))))
  have cv : ∀ (W : World), Below w3.heap.size w3 W → Calls Tryd.prog 30 #[tyV t, tyV u] W _ := fun W hW => common_any t u W (r1.next hW) (r2.next hW)
  have rv : ∀ (W : World), Below w3.heap.size w3 W → Calls Tryd.prog 31 #[tyV t, tyV u] W _ := fun W hW => rcommon_any t u W (r1.next hW) (r2.next hW)
  have ov : ∀ (W : World), Below w3.heap.size w3 W → Calls Tryd.prog 32 #[tyV t, tyV u] W _ := fun W hW => ops_any t u W (r1.next hW) (r2.next hW)
  have qv : ∀ (W : World), Below w3.heap.size w3 W → Calls Tryd.prog 33 #[tyV t, tyV u] W _ := fun W hW => rops_any t u W (r1.next hW) (r2.next hW)
  have ra : ∀ W, RdT W (common t u).1 := fun W => by
    rw [common_eq, commonA_eq]
    cases joinA (arOf t) (arOf u) <;> simp [tyOf, RdT]
  have sa : ∀ W, Calls Tryd.prog 18 #[tyV (common t u).1, tyV (common t u).1] W fun e w' => e = .returned (.bool true) ∧ Below W.heap.size W w' := fun W => boolp_yes (rsame_any _ _ W (ra W) (ra W)) rfl
  obtain ⟨k3, s3, l3, f3, n3, A3, m3, c3, e3⟩ := tyC_form (common t u).1 (ra w)
  generalize (common t u).2 = ok at *
  generalize opsT t u = r at *
  obtain ⟨L, may⟩ := r
  simp only [tyV_of E1.out, tyV_of E2.out, tyV_of e3] at cv rv ov qv sa
  unfold OpsP at ov qv
  dsimp only at ov qv
  have HC := Lib.hid cv
  have HR := Lib.hid rv
  have HO := Lib.hid ov
  have HQ := Lib.hid qv
  have HS := Lib.hid sa
  clear cv rv ov qv ra sa e3 r1 r2
  go_upto_region 10 with (first
    | (go_at_call 30; (with_reducible refine (HC.out _ (by (repeat' (first | (with_reducible exact Below.refl _ _) | (with_reducible assumption) | (with_reducible refine Below.setCell ?_ ?_ _) | (with_reducible refine Below.alloc ?_ ?_ _) | (with_reducible refine Below.drew ?_) | (with_reducible refine below_drewN ?_ _) | (with_reducible refine below_next ?_ (by with_reducible assumption)) | omega | (dsimp only; omega) | (simp only [World.size_alloc, World.size_setCell, World.size_drew, World.heap_drewN]; omega))))).mono ?_); rintro e w4 ⟨rfl, hb4⟩; obtain ⟨hc4, hf4, hz4⟩ := cif hb4; clear hf4; (try simp only [World.size_alloc, World.size_setCell, World.size_drew, World.heap_drewN] at hz4))
    | (go_at_call 31; (with_reducible refine (HR.out _ (by (repeat' (first | (with_reducible exact Below.refl _ _) | (with_reducible assumption) | (with_reducible refine Below.setCell ?_ ?_ _) | (with_reducible refine Below.alloc ?_ ?_ _) | (with_reducible refine Below.drew ?_) | (with_reducible refine below_drewN ?_ _) | (with_reducible refine below_next ?_ (by with_reducible assumption)) | omega | (dsimp only; omega) | (simp only [World.size_alloc, World.size_setCell, World.size_drew, World.heap_drewN]; omega))))).mono ?_); rintro e w5 ⟨rfl, hb5⟩; obtain ⟨hc5, hf5, hz5⟩ := cif hb5; clear hf5; (try simp only [World.size_alloc, World.size_setCell, World.size_drew, World.heap_drewN] at hz5))
    | (go_at_call 32; (with_reducible refine (HO.out _ (by (repeat' (first | (with_reducible exact Below.refl _ _) | (with_reducible assumption) | (with_reducible refine Below.setCell ?_ ?_ _) | (with_reducible refine Below.alloc ?_ ?_ _) | (with_reducible refine Below.drew ?_) | (with_reducible refine below_drewN ?_ _) | (with_reducible refine below_next ?_ (by with_reducible assumption)) | omega | (dsimp only; omega) | (simp only [World.size_alloc, World.size_setCell, World.size_drew, World.heap_drewN]; omega))))).mono ?_); rintro e w6 ⟨A6, c6, rfl, hr6, hb6⟩; have HR6 := Lib.hid hr6; clear hr6; obtain ⟨hc6, hf6, hz6⟩ := cif hb6; clear hf6; (try simp only [World.size_alloc, World.size_setCell, World.size_drew, World.heap_drewN] at hz6))
    | (go_at_call 33; (with_reducible refine (HQ.out _ (by (repeat' (first | (with_reducible exact Below.refl _ _) | (with_reducible assumption) | (with_reducible refine Below.setCell ?_ ?_ _) | (with_reducible refine Below.alloc ?_ ?_ _) | (with_reducible refine Below.drew ?_) | (with_reducible refine below_drewN ?_ _) | (with_reducible refine below_next ?_ (by with_reducible assumption)) | omega | (dsimp only; omega) | (simp only [World.size_alloc, World.size_setCell, World.size_drew, World.heap_drewN]; omega))))).mono ?_); rintro e w7 ⟨A7, c7, rfl, hr7, hb7⟩; have HR7 := Lib.hid hr7; clear hr7; obtain ⟨hc7, hf7, hz7⟩ := cif hb7; clear hf7; (try simp only [World.size_alloc, World.size_setCell, World.size_drew, World.heap_drewN] at hz7))
    | (go_at_call 18; (with_reducible refine (HS.out _).mono ?_); rintro e w8 ⟨rfl, hb8⟩; obtain ⟨hc8, hf8, hz8⟩ := cif hb8; clear hf8; (try simp only [World.size_alloc, World.size_setCell, World.size_drew, World.heap_drewN] at hz8)))
  have hL := HR6.out.len
  unfold maxLen at hL
  have h68 : Below w6.heap.size w6 w8 := by (repeat' (first | (with_reducible exact Below.refl _ _) | (with_reducible assumption) | (with_reducible refine Below.setCell ?_ ?_ _) | (with_reducible refine Below.alloc ?_ ?_ _) | (with_reducible refine Below.drew ?_) | (with_reducible refine below_drewN ?_ _) | (with_reducible refine below_next ?_ (by with_reducible assumption)) | omega | (dsimp only; omega) | (simp only [World.size_alloc, World.size_setCell, World.size_drew, World.heap_drewN]; omega)))
  have h78 : Below w7.heap.size w7 w8 := by clear h68; (repeat' (first | (with_reducible exact Below.refl _ _) | (with_reducible assumption) | (with_reducible refine Below.setCell ?_ ?_ _) | (with_reducible refine Below.alloc ?_ ?_ _) | (with_reducible refine Below.drew ?_) | (with_reducible refine below_drewN ?_ _) | (with_reducible refine below_next ?_ (by with_reducible assumption)) | omega | (dsimp only; omega) | (simp only [World.size_alloc, World.size_setCell, World.size_drew, World.heap_drewN]; omega)))
  have hlow : Below w.heap.size w w8 := by clear h68 h78; (repeat' (first | (with_reducible exact Below.refl _ _) | (with_reducible assumption) | (with_reducible refine Below.setCell ?_ ?_ _) | (with_reducible refine Below.alloc ?_ ?_ _) | (with_reducible refine Below.drew ?_) | (with_reducible refine below_drewN ?_ _) | (with_reducible refine below_next ?_ (by with_reducible assumption)) | omega | (dsimp only; omega) | (simp only [World.size_alloc, World.size_setCell, World.size_drew, World.heap_drewN]; omega)))
  have R6 : Hid (RdL intC 1 w8 (.slice A6 L.length c6) L) := Lib.hid (HR6.out.next h68)
  have R7 : Hid (RdL intC 1 w8 (.slice A7 L.length c7) L) := Lib.hid (HR7.out.next h78)
  clear hc1 hc2 hc3 hc4 hc5 hc6 hc7 hc8 HR6 HR7 HC HR HO HQ HS E1 E2 HT1 HT2 ET1 ET2
  go_wp2
  go_loopw [69] (fun i wr => ∃ k : Nat, k ≤ L.length ∧ i = .int .i64 k ∧ Ext w8 wr) (fun i _ => L.length - (intOf i).toNat)
  case atStart => exact ⟨0, by omega, rfl, Below.refl _ _⟩
  case round =>
    obtain ⟨k, hk, rfl, hX⟩ := hrel
    have hXb := Ext.of hX
    by_cases hlt : k < L.length
    · obtain ⟨v, ev⟩ : ∃ v, L[k]? = some v := ⟨_, List.getElem?_eq_getElem hlt⟩
      obtain ⟨g6, o6, c6', e6, _, _, hl6, h6⟩ := (R6.out.next hXb).some_ (by omega)
      obtain ⟨g7, o7, c7', e7, _, _, hl7, h7⟩ := (R7.out.next hXb).some_ (by omega)
      injection e6 with e60 e61 e62
      injection e7 with e70 e71 e72
      subst e60 e70
      have p6 := h6 k v ev 0 _ rfl
      have p7 := h7 k v ev 0 _ rfl
      simp only [Nat.mul_one, Nat.add_zero] at p6 p7
      clear h6 h7 e61 e62 e71 e72 ev
      go_wp2
      go_quiet (fail)
      go_wp2
      go_roundw
      case rel => exact ⟨k + 1, by omega, by go_num, by unfold Ext at *; (repeat' (first | (with_reducible exact Below.refl _ _) | (with_reducible assumption) | (with_reducible refine Below.setCell ?_ ?_ _) | (with_reducible refine Below.alloc ?_ ?_ _) | (with_reducible refine Below.drew ?_) | (with_reducible refine below_drewN ?_ _) | (with_reducible refine below_next ?_ (by with_reducible assumption)) | omega | (dsimp only; omega) | (simp only [World.size_alloc, World.size_setCell, World.size_drew, World.heap_drewN]; omega)))⟩
      case measure => simp [intOf]; omega
    · go_wp2
      go_returns
      exact ⟨rfl, by unfold Ext at *; (repeat' (first | (with_reducible exact Below.refl _ _) | (with_reducible assumption) | (with_reducible refine Below.setCell ?_ ?_ _) | (with_reducible refine Below.alloc ?_ ?_ _) | (with_reducible refine Below.drew ?_) | (with_reducible refine below_drewN ?_ _) | (with_reducible refine below_next ?_ (by with_reducible assumption)) | omega | (dsimp only; omega) | (simp only [World.size_alloc, World.size_setCell, World.size_drew, World.heap_drewN]; omega)))⟩
end Go.Proofs.YteeojgepgjndgaaDoor
