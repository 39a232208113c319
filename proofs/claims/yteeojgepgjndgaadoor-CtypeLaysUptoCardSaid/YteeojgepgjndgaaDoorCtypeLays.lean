/-
  The law CtypeLays, walked: the program gives the document's layout of every row of records, and the document's size of every type beside them.
-/
import Derived.Test.YteeojgepgjndgaaDoorCtypeW23
import Derived.Test.YteeojgepgjndgaaDoorCtypeW29
namespace Go.Proofs.YteeojgepgjndgaaDoor
open Go.RowKit
set_option linter.unusedVariables false
set_option linter.unusedSimpArgs false

set_option maxRecDepth 100000 in
set_option maxHeartbeats 8000000 in
theorem lays_core (recs : List Rc) (Ar : Option Addr) (nr cr : Nat) (lc : List Int) (Ac : Option Addr) (mc cc : Nat) (nm : Int) (w : World) (ht : TabW w)
    (h : RdL rcC 5 w (.slice Ar nr cr) recs) (hr : ∀ r ∈ recs, RdRc w r) (hlc : ∀ x ∈ lc, I64 x) (hc : RdL intC 1 w (.slice Ac mc cc) lc) :
    Calls Tryd.prog 3 #[.slice Ar nr cr, .slice Ac mc cc, .int .i64 nm] w fun e w' => e = .returned (.bool true) ∧ Below w.heap.size w w' := by
  have HF : Hid (∀ W, Below w.heap.size w W → Calls Tryd.prog 9 #[] W fun e w' => e = .returned (.bool true) ∧ Below W.heap.size W w') := Lib.hid fun W hW => fixed_any W (ht.next hW)
  have HO : Hid (∀ W, Below w.heap.size w W → Calls Tryd.prog 11 #[.slice Ac mc cc] W (OneP (oneE lc) W)) := Lib.hid fun W hW => one_free lc Ac mc cc W hlc (hc.next hW)
  have hnr : recs.length = nr := by obtain ⟨_, _, e, _⟩ := h; injection e with _ e _; exact e.symm
  have bl := h.len
  unfold maxLen at bl
  by_cases h30 : 30 < recs.length
  · have h2 : RdL rcC 5 w (.slice Ar 30 cr) (recs.take 30) := h.take 30 (by omega)
    have HK : Hid (∀ W, Below w.heap.size w W → Calls Tryd.prog 10 #[.slice Ar 30 cr] W (KnownP W)) := Lib.hid fun W hW => known_core (recs.take 30) Ar 30 cr W (h2.next hW) (fun r hx => (hr r (List.mem_of_mem_take hx)).next hW) (by simp; omega)
    obtain ⟨b, off, c, e, hm1, hm2, hlt, _⟩ := h.some_ (by omega)
    injection e with ea eb ec
    subst ea ec hnr
    unfold maxLen at hm2
    have h30i : (30 : Int) < recs.length := by omega
    clear ht h hr hlc hc h2 eb
    have hA1 := cell_alloc_if
    have hA2 := frozen_alloc_if
    have hA3 := cell_set_if
    go_enter Tryd.func3, Tryd.ntmps3
    go_upto_region 9 with (first
      | (go_at_call 9; (with_reducible refine (HF.out _ (by (repeat' (first | (with_reducible exact Below.refl _ _) | (with_reducible assumption) | (with_reducible refine Below.setCell ?_ ?_ _) | (with_reducible refine Below.alloc ?_ ?_ _) | (with_reducible refine Below.drew ?_) | (with_reducible refine below_drewN ?_ _) | (with_reducible refine below_next ?_ (by with_reducible assumption)) | omega | (dsimp only; omega) | (simp only [World.size_alloc, World.size_setCell, World.size_drew, World.heap_drewN]; omega))))).mono ?_); rintro e w1 ⟨rfl, hb1⟩; obtain ⟨hc1, hf1, hz1⟩ := cif hb1; clear hf1; (try simp only [World.size_alloc, World.size_setCell, World.size_drew, World.heap_drewN] at hz1))
      | (go_at_call 10; (with_reducible refine (HK.out _ (by (repeat' (first | (with_reducible exact Below.refl _ _) | (with_reducible assumption) | (with_reducible refine Below.setCell ?_ ?_ _) | (with_reducible refine Below.alloc ?_ ?_ _) | (with_reducible refine Below.drew ?_) | (with_reducible refine below_drewN ?_ _) | (with_reducible refine below_next ?_ (by with_reducible assumption)) | omega | (dsimp only; omega) | (simp only [World.size_alloc, World.size_setCell, World.size_drew, World.heap_drewN]; omega))))).mono ?_); rintro e w2 ⟨K, A5, c5, rfl, hrk, hok, hb2⟩; have HRK := Lib.hid hrk; have HOK := Lib.hid hok; clear hrk hok; obtain ⟨hc2, hf2, hz2⟩ := cif hb2; clear hf2; (try simp only [World.size_alloc, World.size_setCell, World.size_drew, World.heap_drewN] at hz2))
      | (go_at_call 11; (with_reducible refine (HO.out _ (by (repeat' (first | (with_reducible exact Below.refl _ _) | (with_reducible assumption) | (with_reducible refine Below.setCell ?_ ?_ _) | (with_reducible refine Below.alloc ?_ ?_ _) | (with_reducible refine Below.drew ?_) | (with_reducible refine below_drewN ?_ _) | (with_reducible refine below_next ?_ (by with_reducible assumption)) | omega | (dsimp only; omega) | (simp only [World.size_alloc, World.size_setCell, World.size_drew, World.heap_drewN]; omega))))).mono ?_); rintro e w3 ⟨t, rfl, het, hrt, hit, hb3⟩; obtain ⟨k1, s1, l1, f1, n1, A1, m1, c1, e1⟩ := tyC_form t hrt; rw [tyV_of e1]; have E1 := Lib.hid e1; have HT1 := Lib.hid hrt; clear e1 hrt hit het; obtain ⟨hc3, hf3, hz3⟩ := cif hb3; clear hf3; (try simp only [World.size_alloc, World.size_setCell, World.size_drew, World.heap_drewN] at hz3)))
    have rk : RdLs w3 (.slice A5 K.length c5) K := HRK.out.next (by (repeat' (first | (with_reducible exact Below.refl _ _) | (with_reducible assumption) | (with_reducible refine Below.setCell ?_ ?_ _) | (with_reducible refine Below.alloc ?_ ?_ _) | (with_reducible refine Below.drew ?_) | (with_reducible refine below_drewN ?_ _) | (with_reducible refine below_next ?_ (by with_reducible assumption)) | omega | (dsimp only; omega) | (simp only [World.size_alloc, World.size_setCell, World.size_drew, World.heap_drewN]; omega))))
    have sx : ∀ (W : World), Below w3.heap.size w3 W → Calls Tryd.prog 12 #[tyV t, .slice A5 K.length c5] W _ := fun W hW => (both_any t).2 K _ W HOK.out (rk.next hW) (HT1.out.next hW)
    have sy : ∀ (W : World), Below w3.heap.size w3 W → Calls Tryd.prog 13 #[tyV t, .slice A5 K.length c5] W _ := fun W hW => rsize_any t K _ W HOK.out (rk.next hW) (HT1.out.next hW)
    have fx : ∀ (W : World), Below w3.heap.size w3 W → Calls Tryd.prog 14 #[.slice A5 K.length c5, .string (nameB nm)] W _ := fun W hW => find_any _ K (nameB nm) W (rk.next hW)
    have fy : ∀ (W : World), Below w3.heap.size w3 W → Calls Tryd.prog 16 #[.slice A5 K.length c5, .string (nameB nm)] W _ := fun W hW => rfind_any _ K (nameB nm) W (rk.next hW)
    have hfd := foundL_rd rk (nameB nm).toList
    obtain ⟨A6, m6, c6, e6, e7⟩ := lyC_form _ hfd
    have sl : ∀ (W : World), Below w3.heap.size w3 W → Calls Tryd.prog 17 #[.agg (lyC (foundL K (nameB nm).toList)).toArray, .agg (lyC (foundL K (nameB nm).toList)).toArray] W fun e w' => e = .returned (.bool true) ∧ Below W.heap.size W w' := fun W hW => by
      rw [e6]
      rw [e7] at hfd
      exact same_layout _ _ _ _ _ _ _ _ _ _ _ W (hfd.next hW) (hfd.next hW) rfl
    unfold FindR at fx fy
    rw [tyV_of E1.out] at sx sy
    rw [e6] at fx fy sl
    generalize (find K (nameB nm).toList).isSome = fb at *
    generalize (foundL K (nameB nm).toList).name = gn at *
    generalize (foundL K (nameB nm).toList).union = gu at *
    generalize (foundL K (nameB nm).toList).size = gs at *
    generalize (foundL K (nameB nm).toList).align = ga at *
    generalize (sizeT K t).1 = z1 at *
    generalize (sizeT K t).2 = z2 at *
    have HSX := Lib.hid sx
    have HSY := Lib.hid sy
    have HFX := Lib.hid fx
    have HFY := Lib.hid fy
    have HSL := Lib.hid sl
    clear sx sy fx fy sl e6 e7 hfd rk
    go_wp2_with (first
      | (go_at_call 12; (with_reducible refine (HSX.out _ (by (repeat' (first | (with_reducible exact Below.refl _ _) | (with_reducible assumption) | (with_reducible refine Below.setCell ?_ ?_ _) | (with_reducible refine Below.alloc ?_ ?_ _) | (with_reducible refine Below.drew ?_) | (with_reducible refine below_drewN ?_ _) | (with_reducible refine below_next ?_ (by with_reducible assumption)) | omega | (dsimp only; omega) | (simp only [World.size_alloc, World.size_setCell, World.size_drew, World.heap_drewN]; omega))))).mono ?_); rintro e w4 ⟨rfl, hb4⟩; obtain ⟨hc4, hf4, hz4⟩ := cif hb4; clear hf4; (try simp only [World.size_alloc, World.size_setCell, World.size_drew, World.heap_drewN] at hz4))
      | (go_at_call 13; (with_reducible refine (HSY.out _ (by (repeat' (first | (with_reducible exact Below.refl _ _) | (with_reducible assumption) | (with_reducible refine Below.setCell ?_ ?_ _) | (with_reducible refine Below.alloc ?_ ?_ _) | (with_reducible refine Below.drew ?_) | (with_reducible refine below_drewN ?_ _) | (with_reducible refine below_next ?_ (by with_reducible assumption)) | omega | (dsimp only; omega) | (simp only [World.size_alloc, World.size_setCell, World.size_drew, World.heap_drewN]; omega))))).mono ?_); rintro e w5 ⟨rfl, hb4⟩; obtain ⟨hc4, hf4, hz4⟩ := cif hb4; clear hf4; (try simp only [World.size_alloc, World.size_setCell, World.size_drew, World.heap_drewN] at hz4))
      | (go_at_call 15; (with_reducible refine (name_any _ _).mono ?_); rintro e w' ⟨rfl, rfl⟩)
      | (go_at_call 14; (with_reducible refine (HFX.out _ (by (repeat' (first | (with_reducible exact Below.refl _ _) | (with_reducible assumption) | (with_reducible refine Below.setCell ?_ ?_ _) | (with_reducible refine Below.alloc ?_ ?_ _) | (with_reducible refine Below.drew ?_) | (with_reducible refine below_drewN ?_ _) | (with_reducible refine below_next ?_ (by with_reducible assumption)) | omega | (dsimp only; omega) | (simp only [World.size_alloc, World.size_setCell, World.size_drew, World.heap_drewN]; omega))))).mono ?_); rintro e w6 ⟨rfl, hb4⟩; obtain ⟨hc4, hf4, hz4⟩ := cif hb4; clear hf4; (try simp only [World.size_alloc, World.size_setCell, World.size_drew, World.heap_drewN] at hz4))
      | (go_at_call 16; (with_reducible refine (HFY.out _ (by (repeat' (first | (with_reducible exact Below.refl _ _) | (with_reducible assumption) | (with_reducible refine Below.setCell ?_ ?_ _) | (with_reducible refine Below.alloc ?_ ?_ _) | (with_reducible refine Below.drew ?_) | (with_reducible refine below_drewN ?_ _) | (with_reducible refine below_next ?_ (by with_reducible assumption)) | omega | (dsimp only; omega) | (simp only [World.size_alloc, World.size_setCell, World.size_drew, World.heap_drewN]; omega))))).mono ?_); rintro e w7 ⟨rfl, hb4⟩; obtain ⟨hc4, hf4, hz4⟩ := cif hb4; clear hf4; (try simp only [World.size_alloc, World.size_setCell, World.size_drew, World.heap_drewN] at hz4))
      | (go_at_call 17; (with_reducible refine (HSL.out _ (by (repeat' (first | (with_reducible exact Below.refl _ _) | (with_reducible assumption) | (with_reducible refine Below.setCell ?_ ?_ _) | (with_reducible refine Below.alloc ?_ ?_ _) | (with_reducible refine Below.drew ?_) | (with_reducible refine below_drewN ?_ _) | (with_reducible refine below_next ?_ (by with_reducible assumption)) | omega | (dsimp only; omega) | (simp only [World.size_alloc, World.size_setCell, World.size_drew, World.heap_drewN]; omega))))).mono ?_); rintro e w8 ⟨rfl, hb4⟩; obtain ⟨hc4, hf4, hz4⟩ := cif hb4; clear hf4; (try simp only [World.size_alloc, World.size_setCell, World.size_drew, World.heap_drewN] at hz4)))
    go_returns
    exact ⟨rfl, by (repeat' (first | (with_reducible exact Below.refl _ _) | (with_reducible assumption) | (with_reducible refine Below.setCell ?_ ?_ _) | (with_reducible refine Below.alloc ?_ ?_ _) | (with_reducible refine Below.drew ?_) | (with_reducible refine below_drewN ?_ _) | (with_reducible refine below_next ?_ (by with_reducible assumption)) | omega | (dsimp only; omega) | (simp only [World.size_alloc, World.size_setCell, World.size_drew, World.heap_drewN]; omega)))⟩
  · have HK : Hid (∀ W, Below w.heap.size w W → Calls Tryd.prog 10 #[.slice Ar nr cr] W (KnownP W)) := Lib.hid fun W hW => known_core recs Ar nr cr W (h.next hW) (fun r hx => (hr r hx).next hW) (by omega)
    have h30n : ¬ 30 < nr := by omega
    have h30i : ¬ (30 : Int) < nr := by omega
    clear ht h hr hlc hc hnr
    have hA1 := cell_alloc_if
    have hA2 := frozen_alloc_if
    have hA3 := cell_set_if
    go_enter Tryd.func3, Tryd.ntmps3
    go_upto_region 9 with (first
      | (go_at_call 9; (with_reducible refine (HF.out _ (by (repeat' (first | (with_reducible exact Below.refl _ _) | (with_reducible assumption) | (with_reducible refine Below.setCell ?_ ?_ _) | (with_reducible refine Below.alloc ?_ ?_ _) | (with_reducible refine Below.drew ?_) | (with_reducible refine below_drewN ?_ _) | (with_reducible refine below_next ?_ (by with_reducible assumption)) | omega | (dsimp only; omega) | (simp only [World.size_alloc, World.size_setCell, World.size_drew, World.heap_drewN]; omega))))).mono ?_); rintro e w1 ⟨rfl, hb1⟩; obtain ⟨hc1, hf1, hz1⟩ := cif hb1; clear hf1; (try simp only [World.size_alloc, World.size_setCell, World.size_drew, World.heap_drewN] at hz1))
      | (go_at_call 10; (with_reducible refine (HK.out _ (by (repeat' (first | (with_reducible exact Below.refl _ _) | (with_reducible assumption) | (with_reducible refine Below.setCell ?_ ?_ _) | (with_reducible refine Below.alloc ?_ ?_ _) | (with_reducible refine Below.drew ?_) | (with_reducible refine below_drewN ?_ _) | (with_reducible refine below_next ?_ (by with_reducible assumption)) | omega | (dsimp only; omega) | (simp only [World.size_alloc, World.size_setCell, World.size_drew, World.heap_drewN]; omega))))).mono ?_); rintro e w2 ⟨K, A5, c5, rfl, hrk, hok, hb2⟩; have HRK := Lib.hid hrk; have HOK := Lib.hid hok; clear hrk hok; obtain ⟨hc2, hf2, hz2⟩ := cif hb2; clear hf2; (try simp only [World.size_alloc, World.size_setCell, World.size_drew, World.heap_drewN] at hz2))
      | (go_at_call 11; (with_reducible refine (HO.out _ (by (repeat' (first | (with_reducible exact Below.refl _ _) | (with_reducible assumption) | (with_reducible refine Below.setCell ?_ ?_ _) | (with_reducible refine Below.alloc ?_ ?_ _) | (with_reducible refine Below.drew ?_) | (with_reducible refine below_drewN ?_ _) | (with_reducible refine below_next ?_ (by with_reducible assumption)) | omega | (dsimp only; omega) | (simp only [World.size_alloc, World.size_setCell, World.size_drew, World.heap_drewN]; omega))))).mono ?_); rintro e w3 ⟨t, rfl, het, hrt, hit, hb3⟩; obtain ⟨k1, s1, l1, f1, n1, A1, m1, c1, e1⟩ := tyC_form t hrt; rw [tyV_of e1]; have E1 := Lib.hid e1; have HT1 := Lib.hid hrt; clear e1 hrt hit het; obtain ⟨hc3, hf3, hz3⟩ := cif hb3; clear hf3; (try simp only [World.size_alloc, World.size_setCell, World.size_drew, World.heap_drewN] at hz3)))
    have rk : RdLs w3 (.slice A5 K.length c5) K := HRK.out.next (by (repeat' (first | (with_reducible exact Below.refl _ _) | (with_reducible assumption) | (with_reducible refine Below.setCell ?_ ?_ _) | (with_reducible refine Below.alloc ?_ ?_ _) | (with_reducible refine Below.drew ?_) | (with_reducible refine below_drewN ?_ _) | (with_reducible refine below_next ?_ (by with_reducible assumption)) | omega | (dsimp only; omega) | (simp only [World.size_alloc, World.size_setCell, World.size_drew, World.heap_drewN]; omega))))
    have sx : ∀ (W : World), Below w3.heap.size w3 W → Calls Tryd.prog 12 #[tyV t, .slice A5 K.length c5] W _ := fun W hW => (both_any t).2 K _ W HOK.out (rk.next hW) (HT1.out.next hW)
    have sy : ∀ (W : World), Below w3.heap.size w3 W → Calls Tryd.prog 13 #[tyV t, .slice A5 K.length c5] W _ := fun W hW => rsize_any t K _ W HOK.out (rk.next hW) (HT1.out.next hW)
    have fx : ∀ (W : World), Below w3.heap.size w3 W → Calls Tryd.prog 14 #[.slice A5 K.length c5, .string (nameB nm)] W _ := fun W hW => find_any _ K (nameB nm) W (rk.next hW)
    have fy : ∀ (W : World), Below w3.heap.size w3 W → Calls Tryd.prog 16 #[.slice A5 K.length c5, .string (nameB nm)] W _ := fun W hW => rfind_any _ K (nameB nm) W (rk.next hW)
    have hfd := foundL_rd rk (nameB nm).toList
    obtain ⟨A6, m6, c6, e6, e7⟩ := lyC_form _ hfd
    have sl : ∀ (W : World), Below w3.heap.size w3 W → Calls Tryd.prog 17 #[.agg (lyC (foundL K (nameB nm).toList)).toArray, .agg (lyC (foundL K (nameB nm).toList)).toArray] W fun e w' => e = .returned (.bool true) ∧ Below W.heap.size W w' := fun W hW => by
      rw [e6]
      rw [e7] at hfd
      exact same_layout _ _ _ _ _ _ _ _ _ _ _ W (hfd.next hW) (hfd.next hW) rfl
    unfold FindR at fx fy
    rw [tyV_of E1.out] at sx sy
    rw [e6] at fx fy sl
    generalize (find K (nameB nm).toList).isSome = fb at *
    generalize (foundL K (nameB nm).toList).name = gn at *
    generalize (foundL K (nameB nm).toList).union = gu at *
    generalize (foundL K (nameB nm).toList).size = gs at *
    generalize (foundL K (nameB nm).toList).align = ga at *
    generalize (sizeT K t).1 = z1 at *
    generalize (sizeT K t).2 = z2 at *
    have HSX := Lib.hid sx
    have HSY := Lib.hid sy
    have HFX := Lib.hid fx
    have HFY := Lib.hid fy
    have HSL := Lib.hid sl
    clear sx sy fx fy sl e6 e7 hfd rk
    go_wp2_with (first
      | (go_at_call 12; (with_reducible refine (HSX.out _ (by (repeat' (first | (with_reducible exact Below.refl _ _) | (with_reducible assumption) | (with_reducible refine Below.setCell ?_ ?_ _) | (with_reducible refine Below.alloc ?_ ?_ _) | (with_reducible refine Below.drew ?_) | (with_reducible refine below_drewN ?_ _) | (with_reducible refine below_next ?_ (by with_reducible assumption)) | omega | (dsimp only; omega) | (simp only [World.size_alloc, World.size_setCell, World.size_drew, World.heap_drewN]; omega))))).mono ?_); rintro e w4 ⟨rfl, hb4⟩; obtain ⟨hc4, hf4, hz4⟩ := cif hb4; clear hf4; (try simp only [World.size_alloc, World.size_setCell, World.size_drew, World.heap_drewN] at hz4))
      | (go_at_call 13; (with_reducible refine (HSY.out _ (by (repeat' (first | (with_reducible exact Below.refl _ _) | (with_reducible assumption) | (with_reducible refine Below.setCell ?_ ?_ _) | (with_reducible refine Below.alloc ?_ ?_ _) | (with_reducible refine Below.drew ?_) | (with_reducible refine below_drewN ?_ _) | (with_reducible refine below_next ?_ (by with_reducible assumption)) | omega | (dsimp only; omega) | (simp only [World.size_alloc, World.size_setCell, World.size_drew, World.heap_drewN]; omega))))).mono ?_); rintro e w5 ⟨rfl, hb4⟩; obtain ⟨hc4, hf4, hz4⟩ := cif hb4; clear hf4; (try simp only [World.size_alloc, World.size_setCell, World.size_drew, World.heap_drewN] at hz4))
      | (go_at_call 15; (with_reducible refine (name_any _ _).mono ?_); rintro e w' ⟨rfl, rfl⟩)
      | (go_at_call 14; (with_reducible refine (HFX.out _ (by (repeat' (first | (with_reducible exact Below.refl _ _) | (with_reducible assumption) | (with_reducible refine Below.setCell ?_ ?_ _) | (with_reducible refine Below.alloc ?_ ?_ _) | (with_reducible refine Below.drew ?_) | (with_reducible refine below_drewN ?_ _) | (with_reducible refine below_next ?_ (by with_reducible assumption)) | omega | (dsimp only; omega) | (simp only [World.size_alloc, World.size_setCell, World.size_drew, World.heap_drewN]; omega))))).mono ?_); rintro e w6 ⟨rfl, hb4⟩; obtain ⟨hc4, hf4, hz4⟩ := cif hb4; clear hf4; (try simp only [World.size_alloc, World.size_setCell, World.size_drew, World.heap_drewN] at hz4))
      | (go_at_call 16; (with_reducible refine (HFY.out _ (by (repeat' (first | (with_reducible exact Below.refl _ _) | (with_reducible assumption) | (with_reducible refine Below.setCell ?_ ?_ _) | (with_reducible refine Below.alloc ?_ ?_ _) | (with_reducible refine Below.drew ?_) | (with_reducible refine below_drewN ?_ _) | (with_reducible refine below_next ?_ (by with_reducible assumption)) | omega | (dsimp only; omega) | (simp only [World.size_alloc, World.size_setCell, World.size_drew, World.heap_drewN]; omega))))).mono ?_); rintro e w7 ⟨rfl, hb4⟩; obtain ⟨hc4, hf4, hz4⟩ := cif hb4; clear hf4; (try simp only [World.size_alloc, World.size_setCell, World.size_drew, World.heap_drewN] at hz4))
      | (go_at_call 17; (with_reducible refine (HSL.out _ (by (repeat' (first | (with_reducible exact Below.refl _ _) | (with_reducible assumption) | (with_reducible refine Below.setCell ?_ ?_ _) | (with_reducible refine Below.alloc ?_ ?_ _) | (with_reducible refine Below.drew ?_) | (with_reducible refine below_drewN ?_ _) | (with_reducible refine below_next ?_ (by with_reducible assumption)) | omega | (dsimp only; omega) | (simp only [World.size_alloc, World.size_setCell, World.size_drew, World.heap_drewN]; omega))))).mono ?_); rintro e w8 ⟨rfl, hb4⟩; obtain ⟨hc4, hf4, hz4⟩ := cif hb4; clear hf4; (try simp only [World.size_alloc, World.size_setCell, World.size_drew, World.heap_drewN] at hz4)))
    go_returns
    exact ⟨rfl, by (repeat' (first | (with_reducible exact Below.refl _ _) | (with_reducible assumption) | (with_reducible refine Below.setCell ?_ ?_ _) | (with_reducible refine Below.alloc ?_ ?_ _) | (with_reducible refine Below.drew ?_) | (with_reducible refine below_drewN ?_ _) | (with_reducible refine below_next ?_ (by with_reducible assumption)) | omega | (dsimp only; omega) | (simp only [World.size_alloc, World.size_setCell, World.size_drew, World.heap_drewN]; omega)))⟩
end Go.Proofs.YteeojgepgjndgaaDoor
