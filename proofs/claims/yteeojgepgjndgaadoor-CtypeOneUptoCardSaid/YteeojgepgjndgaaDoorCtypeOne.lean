/-
  The law CtypeOne, walked: the program gives the document's text, depth, chunk, kind and promotion of every type, and tells every two apart.
-/
import Derived.Test.YteeojgepgjndgaaDoorCtypeW23
import Derived.Test.YteeojgepgjndgaaDoorCtypeW22
import Derived.Test.YteeojgepgjndgaaDoorCtypeW24
namespace Go.Proofs.YteeojgepgjndgaaDoor
open Go.RowKit
set_option linter.unusedVariables false
set_option linter.unusedSimpArgs false

theorem boolp_val {P : Program} {f : FuncId} {args : Array Value} {w : World} {Q : Prop} {b : Bool} (h : Calls P f args w (BoolP Q w)) (hq : b = true ↔ Q) : Calls P f args w fun e w' => e = .returned (.bool b) ∧ Below w.heap.size w w' := by
  cases b
  · exact boolp_no h (fun h => by cases hq.2 h)
  · exact boolp_yes h (hq.1 rfl)
set_option maxRecDepth 100000 in
set_option maxHeartbeats 8000000 in
theorem one_core (la lb : List Int) (Aa Ab : Option Addr) (ma ca mb cb : Nat) (w : World) (ht : TabW w) (hla : ∀ x ∈ la, I64 x) (hlb : ∀ x ∈ lb, I64 x)
    (ha : RdL intC 1 w (.slice Aa ma ca) la) (hb : RdL intC 1 w (.slice Ab mb cb) lb) (hlen : la.length ≤ 1048576) :
    Calls Tryd.prog 4 #[.slice Aa ma ca, .slice Ab mb cb] w fun e w' => e = .returned (.bool true) ∧ Below w.heap.size w w' := by
  have HF : Hid (∀ W, Below w.heap.size w W → Calls Tryd.prog 9 #[] W fun e w' => e = .returned (.bool true) ∧ Below W.heap.size W w') := Lib.hid fun W hW => fixed_any W (ht.next hW)
  have HO1 : Hid (∀ W, Below w.heap.size w W → Calls Tryd.prog 11 #[.slice Aa ma ca] W (OneP (oneE la) W)) := Lib.hid fun W hW => one_free la Aa ma ca W hla (ha.next hW)
  have HO2 : Hid (∀ W, Below w.heap.size w W → Calls Tryd.prog 11 #[.slice Ab mb cb] W (OneP (oneE lb) W)) := Lib.hid fun W hW => one_free lb Ab mb cb W hlb (hb.next hW)
  have HOK : Hid (ErOk (oneE la) ∧ (text (oneE la)).length ≤ 1099511627776 ∧ depth (oneE la) ≤ 1000) := Lib.hid (by
    obtain ⟨_, g2, g3⟩ := mkE_ok 61 la hla
    have g4 := mkE_depth 61 la
    unfold oneE
    exact ⟨g2, by omega, by omega⟩)
  have HTB := Lib.hid ht
  clear ht hla hlb ha hb hlen
  have hA1 := cell_alloc_if
  have hA2 := frozen_alloc_if
  have hA3 := cell_set_if
  go_enter Tryd.func4, Tryd.ntmps4
  go_upto_region 4 with (first
    | (go_at_call 9; (with_reducible refine (HF.out _ (by (repeat' (first | (with_reducible exact Below.refl _ _) | (with_reducible assumption) | (with_reducible refine Below.setCell ?_ ?_ _) | (with_reducible refine Below.alloc ?_ ?_ _) | (with_reducible refine Below.drew ?_) | (with_reducible refine below_drewN ?_ _) | (with_reducible refine below_next ?_ (by with_reducible assumption)) | omega | (dsimp only; omega) | (simp only [World.size_alloc, World.size_setCell, World.size_drew, World.heap_drewN]; omega))))).mono ?_); rintro e w1 ⟨rfl, hb1⟩; obtain ⟨hc1, hf1, hz1⟩ := cif hb1; clear hf1; (try simp only [World.size_alloc, World.size_setCell, World.size_drew, World.heap_drewN] at hz1))
    | (go_at_call 11; (with_reducible refine (HO1.out _ (by (repeat' (first | (with_reducible exact Below.refl _ _) | (with_reducible assumption) | (with_reducible refine Below.setCell ?_ ?_ _) | (with_reducible refine Below.alloc ?_ ?_ _) | (with_reducible refine Below.drew ?_) | (with_reducible refine below_drewN ?_ _) | (with_reducible refine below_next ?_ (by with_reducible assumption)) | omega | (dsimp only; omega) | (simp only [World.size_alloc, World.size_setCell, World.size_drew, World.heap_drewN]; omega))))).mono ?_); rintro e w2 ⟨t, rfl, het, hrt, hit, hb2⟩; obtain ⟨k1, s1, l1, f1, n1, A1, m1, c1, e1⟩ := tyC_form t hrt; rw [tyV_of e1]; have E1 := Lib.hid e1; have HT1 := Lib.hid hrt; have ET1 := Lib.hid het; clear e1 hrt hit het; obtain ⟨hc2, hf2, hz2⟩ := cif hb2; clear hf2; (try simp only [World.size_alloc, World.size_setCell, World.size_drew, World.heap_drewN] at hz2))
    | (go_at_call 11; (with_reducible refine (HO2.out _ (by (repeat' (first | (with_reducible exact Below.refl _ _) | (with_reducible assumption) | (with_reducible refine Below.setCell ?_ ?_ _) | (with_reducible refine Below.alloc ?_ ?_ _) | (with_reducible refine Below.drew ?_) | (with_reducible refine below_drewN ?_ _) | (with_reducible refine below_next ?_ (by with_reducible assumption)) | omega | (dsimp only; omega) | (simp only [World.size_alloc, World.size_setCell, World.size_drew, World.heap_drewN]; omega))))).mono ?_); rintro e w3 ⟨u, rfl, heu, hru, hiu, hb3⟩; obtain ⟨k2, s2, l2, f2, n2, A2, m2, c2, e2⟩ := tyC_form u hru; rw [tyV_of e2]; have E2 := Lib.hid e2; have HT2 := Lib.hid hru; have ET2 := Lib.hid heu; clear e2 hru hiu heu; obtain ⟨hc3, hf3, hz3⟩ := cif hb3; clear hf3; (try simp only [World.size_alloc, World.size_setCell, World.size_drew, World.heap_drewN] at hz3)))
  have r2 : RdT w3 u := HT2.out
  have r1 : RdT w3 t := HT1.out.next (by (repeat' (first | (with_reducible exact Below.refl _ _) | (with_reducible assumption) | (with_reducible refine Below.setCell ?_ ?_ _) | (with_reducible refine Below.alloc ?_ ?_ _) | (with_reducible refine Below.drew ?_) | (with_reducible refine below_drewN ?_ _) | (with_reducible refine below_next ?_ (by with_reducible assumption)) | omega | (dsimp only; omega) | (simp only [World.size_alloc, World.size_setCell, World.size_drew, World.heap_drewN]; omega))))
  have tb : TabW w3 := HTB.out.next (by (repeat' (first | (with_reducible exact Below.refl _ _) | (with_reducible assumption) | (with_reducible refine Below.setCell ?_ ?_ _) | (with_reducible refine Below.alloc ?_ ?_ _) | (with_reducible refine Below.drew ?_) | (with_reducible refine below_drewN ?_ _) | (with_reducible refine below_next ?_ (by with_reducible assumption)) | omega | (dsimp only; omega) | (simp only [World.size_alloc, World.size_setCell, World.size_drew, World.heap_drewN]; omega))))
  obtain ⟨ok1, ok2, ok3⟩ := HOK.out
  rw [← ET1.out] at ok1 ok2 ok3
  obtain ⟨b, hbv⟩ : ∃ b : Bool, b = true ↔ er t = er u := by
    by_cases h : er t = er u
    · exact ⟨true, by simp [h]⟩
    · exact ⟨false, by simp [h]⟩
  obtain ⟨x, hx⟩ : ∃ x, x = ByteArray.mk (text (er t)).toArray := ⟨_, rfl⟩
  have tx : ∀ (W : World), Below w3.heap.size w3 W → Calls Tryd.prog 19 #[tyV t] W fun e w' => e = .returned (.string x) ∧ Below W.heap.size W w' := fun W hW => by rw [hx]; exact text_any t ok1 ok2 W (r1.next hW) (tb.next hW)
  have ty : ∀ (W : World), Below w3.heap.size w3 W → Calls Tryd.prog 20 #[tyV t] W fun e w' => e = .returned (.string x) ∧ Below W.heap.size W w' := fun W hW => by rw [hx]; exact rtext_any t ok1 ok2 W (r1.next hW) (tb.next hW)
  have dx : ∀ (W : World), Below w3.heap.size w3 W → Calls Tryd.prog 21 #[tyV t] W _ := fun W hW => depth_any t ok1 ok3 W (r1.next hW)
  have dy : ∀ (W : World), Below w3.heap.size w3 W → Calls Tryd.prog 22 #[tyV t] W _ := fun W hW => rdepth_any t ok3 W (r1.next hW)
  have cx : ∀ (W : World), Below w3.heap.size w3 W → Calls Tryd.prog 23 #[tyV t] W _ := fun W hW => chunk_any t W (r1.next hW)
  have cy : ∀ (W : World), Below w3.heap.size w3 W → Calls Tryd.prog 24 #[tyV t] W _ := fun W hW => rchunk_any t W (r1.next hW)
  have kx : ∀ (W : World), Below w3.heap.size w3 W → Calls Tryd.prog 25 #[tyV t] W _ := fun W hW => kind_any t W (r1.next hW)
  have ky : ∀ (W : World), Below w3.heap.size w3 W → Calls Tryd.prog 26 #[tyV t] W _ := fun W hW => rkind_any t W (r1.next hW)
  have px : ∀ (W : World), Below w3.heap.size w3 W → Calls Tryd.prog 27 #[tyV t] W _ := fun W hW => promote_any t W (r1.next hW)
  have py : ∀ (W : World), Below w3.heap.size w3 W → Calls Tryd.prog 28 #[tyV t] W _ := fun W hW => rpromote_any t W (r1.next hW)
  have sp : ∀ W, Below w3.heap.size w3 W → Calls Tryd.prog 18 #[tyV (promote t), tyV (promote t)] W fun e w' => e = .returned (.bool true) ∧ Below W.heap.size W w' := fun W hW => boolp_yes (rsame_any _ _ W (r1.next hW).promote (r1.next hW).promote) rfl
  have s0 : ∀ W, Below w3.heap.size w3 W → Calls Tryd.prog 18 #[tyV t, tyV u] W fun e w' => e = .returned (.bool b) ∧ Below W.heap.size W w' := fun W hW => boolp_val (rsame_any _ _ W (r1.next hW) (r2.next hW)) hbv
  have sx1 : ∀ W, Below w3.heap.size w3 W → Calls Tryd.prog 29 #[tyV t, tyV u] W fun e w' => e = .returned (.bool b) ∧ Below W.heap.size W w' := fun W hW => boolp_val (same_any _ _ W (r1.next hW) (r2.next hW)) hbv
  have sx2 : ∀ W, Below w3.heap.size w3 W → Calls Tryd.prog 29 #[tyV u, tyV t] W fun e w' => e = .returned (.bool b) ∧ Below W.heap.size W w' := fun W hW => boolp_val (same_any _ _ W (r2.next hW) (r1.next hW)) (hbv.trans eq_comm)
  have sx3 : ∀ W, Below w3.heap.size w3 W → Calls Tryd.prog 29 #[tyV t, tyV t] W fun e w' => e = .returned (.bool true) ∧ Below W.heap.size W w' := fun W hW => boolp_yes (same_any _ _ W (r1.next hW) (r1.next hW)) rfl
  obtain ⟨k4, s4, l4, f4, n4, A4, m4, c4, e4⟩ := tyC_form (promote t) r1.promote
  simp only [tyV_of E1.out, tyV_of E2.out, tyV_of e4] at tx ty dx dy cx cy kx ky px py sp s0 sx1 sx2 sx3
  generalize depth (er t) = dt at *
  generalize chunk t = ct at *
  generalize kindT t = kt at *
  have HTX := Lib.hid tx
  have HTY := Lib.hid ty
  have HDX := Lib.hid dx
  have HDY := Lib.hid dy
  have HCX := Lib.hid cx
  have HCY := Lib.hid cy
  have HKX := Lib.hid kx
  have HKY := Lib.hid ky
  have HPX := Lib.hid px
  have HPY := Lib.hid py
  have HSP := Lib.hid sp
  have HS0 := Lib.hid s0
  have HS1 := Lib.hid sx1
  have HS2 := Lib.hid sx2
  have HS3 := Lib.hid sx3
  clear tx ty dx dy cx cy kx ky px py sp s0 sx1 sx2 sx3 e4 r1 r2 tb ok1 ok2 ok3 hbv hx HF HO1 HO2
  go_upto_region 5 with (go_at_call 18; (with_reducible refine (HS0.out _ (by (repeat' (first | (with_reducible exact Below.refl _ _) | (with_reducible assumption) | (with_reducible refine Below.setCell ?_ ?_ _) | (with_reducible refine Below.alloc ?_ ?_ _) | (with_reducible refine Below.drew ?_) | (with_reducible refine below_drewN ?_ _) | (with_reducible refine below_next ?_ (by with_reducible assumption)) | omega | (dsimp only; omega) | (simp only [World.size_alloc, World.size_setCell, World.size_drew, World.heap_drewN]; omega))))).mono ?_); rintro e w4 ⟨rfl, hb4⟩; obtain ⟨hc4, hf4, hz4⟩ := cif hb4; clear hf4; (try simp only [World.size_alloc, World.size_setCell, World.size_drew, World.heap_drewN] at hz4))
  refine wp_region_ext (by kernel_rfl) (by kernel_rfl) ?_
  repeat (first | go_big_quiet_skip | (go_big_quiet_want; go_big_quiet_op; first | go_big_quiet_on | (apply Exists.intro; refine ⟨fun W hW => ?_, ?_⟩; (focus (first
    | (go_at_call 19; have hWb := Ext.of hW; (with_reducible refine (HTX.out _ (by (repeat' (first | (with_reducible exact Below.refl _ _) | (with_reducible assumption) | (with_reducible refine Below.setCell ?_ ?_ _) | (with_reducible refine Below.alloc ?_ ?_ _) | (with_reducible refine Below.drew ?_) | (with_reducible refine below_drewN ?_ _) | (with_reducible refine below_next ?_ (by with_reducible assumption)) | omega | (dsimp only; omega) | (simp only [World.size_alloc, World.size_setCell, World.size_drew, World.heap_drewN]; omega))))).mono ?_); rintro e w1 ⟨rfl, hb⟩; exact ⟨rfl, Ext.next hW hb⟩)
      | (go_at_call 20; have hWb := Ext.of hW; (with_reducible refine (HTY.out _ (by (repeat' (first | (with_reducible exact Below.refl _ _) | (with_reducible assumption) | (with_reducible refine Below.setCell ?_ ?_ _) | (with_reducible refine Below.alloc ?_ ?_ _) | (with_reducible refine Below.drew ?_) | (with_reducible refine below_drewN ?_ _) | (with_reducible refine below_next ?_ (by with_reducible assumption)) | omega | (dsimp only; omega) | (simp only [World.size_alloc, World.size_setCell, World.size_drew, World.heap_drewN]; omega))))).mono ?_); rintro e w1 ⟨rfl, hb⟩; exact ⟨rfl, Ext.next hW hb⟩)
      | (go_at_call 21; have hWb := Ext.of hW; (with_reducible refine (HDX.out _ (by (repeat' (first | (with_reducible exact Below.refl _ _) | (with_reducible assumption) | (with_reducible refine Below.setCell ?_ ?_ _) | (with_reducible refine Below.alloc ?_ ?_ _) | (with_reducible refine Below.drew ?_) | (with_reducible refine below_drewN ?_ _) | (with_reducible refine below_next ?_ (by with_reducible assumption)) | omega | (dsimp only; omega) | (simp only [World.size_alloc, World.size_setCell, World.size_drew, World.heap_drewN]; omega))))).mono ?_); rintro e w1 ⟨rfl, hb⟩; exact ⟨rfl, Ext.next hW hb⟩)
      | (go_at_call 22; have hWb := Ext.of hW; (with_reducible refine (HDY.out _ (by (repeat' (first | (with_reducible exact Below.refl _ _) | (with_reducible assumption) | (with_reducible refine Below.setCell ?_ ?_ _) | (with_reducible refine Below.alloc ?_ ?_ _) | (with_reducible refine Below.drew ?_) | (with_reducible refine below_drewN ?_ _) | (with_reducible refine below_next ?_ (by with_reducible assumption)) | omega | (dsimp only; omega) | (simp only [World.size_alloc, World.size_setCell, World.size_drew, World.heap_drewN]; omega))))).mono ?_); rintro e w1 ⟨rfl, hb⟩; exact ⟨rfl, Ext.next hW hb⟩)
      | (go_at_call 23; have hWb := Ext.of hW; (with_reducible refine (HCX.out _ (by (repeat' (first | (with_reducible exact Below.refl _ _) | (with_reducible assumption) | (with_reducible refine Below.setCell ?_ ?_ _) | (with_reducible refine Below.alloc ?_ ?_ _) | (with_reducible refine Below.drew ?_) | (with_reducible refine below_drewN ?_ _) | (with_reducible refine below_next ?_ (by with_reducible assumption)) | omega | (dsimp only; omega) | (simp only [World.size_alloc, World.size_setCell, World.size_drew, World.heap_drewN]; omega))))).mono ?_); rintro e w1 ⟨rfl, hb⟩; exact ⟨rfl, Ext.next hW hb⟩)
      | (go_at_call 24; have hWb := Ext.of hW; (with_reducible refine (HCY.out _ (by (repeat' (first | (with_reducible exact Below.refl _ _) | (with_reducible assumption) | (with_reducible refine Below.setCell ?_ ?_ _) | (with_reducible refine Below.alloc ?_ ?_ _) | (with_reducible refine Below.drew ?_) | (with_reducible refine below_drewN ?_ _) | (with_reducible refine below_next ?_ (by with_reducible assumption)) | omega | (dsimp only; omega) | (simp only [World.size_alloc, World.size_setCell, World.size_drew, World.heap_drewN]; omega))))).mono ?_); rintro e w1 ⟨rfl, hb⟩; exact ⟨rfl, Ext.next hW hb⟩)
      | (go_at_call 25; have hWb := Ext.of hW; (with_reducible refine (HKX.out _ (by (repeat' (first | (with_reducible exact Below.refl _ _) | (with_reducible assumption) | (with_reducible refine Below.setCell ?_ ?_ _) | (with_reducible refine Below.alloc ?_ ?_ _) | (with_reducible refine Below.drew ?_) | (with_reducible refine below_drewN ?_ _) | (with_reducible refine below_next ?_ (by with_reducible assumption)) | omega | (dsimp only; omega) | (simp only [World.size_alloc, World.size_setCell, World.size_drew, World.heap_drewN]; omega))))).mono ?_); rintro e w1 ⟨rfl, hb⟩; exact ⟨rfl, Ext.next hW hb⟩)
      | (go_at_call 26; have hWb := Ext.of hW; (with_reducible refine (HKY.out _ (by (repeat' (first | (with_reducible exact Below.refl _ _) | (with_reducible assumption) | (with_reducible refine Below.setCell ?_ ?_ _) | (with_reducible refine Below.alloc ?_ ?_ _) | (with_reducible refine Below.drew ?_) | (with_reducible refine below_drewN ?_ _) | (with_reducible refine below_next ?_ (by with_reducible assumption)) | omega | (dsimp only; omega) | (simp only [World.size_alloc, World.size_setCell, World.size_drew, World.heap_drewN]; omega))))).mono ?_); rintro e w1 ⟨rfl, hb⟩; exact ⟨rfl, Ext.next hW hb⟩)
      | (go_at_call 27; have hWb := Ext.of hW; (with_reducible refine (HPX.out _ (by (repeat' (first | (with_reducible exact Below.refl _ _) | (with_reducible assumption) | (with_reducible refine Below.setCell ?_ ?_ _) | (with_reducible refine Below.alloc ?_ ?_ _) | (with_reducible refine Below.drew ?_) | (with_reducible refine below_drewN ?_ _) | (with_reducible refine below_next ?_ (by with_reducible assumption)) | omega | (dsimp only; omega) | (simp only [World.size_alloc, World.size_setCell, World.size_drew, World.heap_drewN]; omega))))).mono ?_); rintro e w1 ⟨rfl, hb⟩; exact ⟨rfl, Ext.next hW hb⟩)
      | (go_at_call 28; have hWb := Ext.of hW; (with_reducible refine (HPY.out _ (by (repeat' (first | (with_reducible exact Below.refl _ _) | (with_reducible assumption) | (with_reducible refine Below.setCell ?_ ?_ _) | (with_reducible refine Below.alloc ?_ ?_ _) | (with_reducible refine Below.drew ?_) | (with_reducible refine below_drewN ?_ _) | (with_reducible refine below_next ?_ (by with_reducible assumption)) | omega | (dsimp only; omega) | (simp only [World.size_alloc, World.size_setCell, World.size_drew, World.heap_drewN]; omega))))).mono ?_); rintro e w1 ⟨rfl, hb⟩; exact ⟨rfl, Ext.next hW hb⟩)
      | (go_at_call 18; have hWb := Ext.of hW; (with_reducible refine (HSP.out _ (by (repeat' (first | (with_reducible exact Below.refl _ _) | (with_reducible assumption) | (with_reducible refine Below.setCell ?_ ?_ _) | (with_reducible refine Below.alloc ?_ ?_ _) | (with_reducible refine Below.drew ?_) | (with_reducible refine below_drewN ?_ _) | (with_reducible refine below_next ?_ (by with_reducible assumption)) | omega | (dsimp only; omega) | (simp only [World.size_alloc, World.size_setCell, World.size_drew, World.heap_drewN]; omega))))).mono ?_); rintro e w1 ⟨rfl, hb⟩; exact ⟨rfl, Ext.next hW hb⟩)
      | (go_at_call 29; have hWb := Ext.of hW; (with_reducible refine (HS1.out _ (by (repeat' (first | (with_reducible exact Below.refl _ _) | (with_reducible assumption) | (with_reducible refine Below.setCell ?_ ?_ _) | (with_reducible refine Below.alloc ?_ ?_ _) | (with_reducible refine Below.drew ?_) | (with_reducible refine below_drewN ?_ _) | (with_reducible refine below_next ?_ (by with_reducible assumption)) | omega | (dsimp only; omega) | (simp only [World.size_alloc, World.size_setCell, World.size_drew, World.heap_drewN]; omega))))).mono ?_); rintro e w1 ⟨rfl, hb⟩; exact ⟨rfl, Ext.next hW hb⟩)
      | (go_at_call 29; have hWb := Ext.of hW; (with_reducible refine (HS2.out _ (by (repeat' (first | (with_reducible exact Below.refl _ _) | (with_reducible assumption) | (with_reducible refine Below.setCell ?_ ?_ _) | (with_reducible refine Below.alloc ?_ ?_ _) | (with_reducible refine Below.drew ?_) | (with_reducible refine below_drewN ?_ _) | (with_reducible refine below_next ?_ (by with_reducible assumption)) | omega | (dsimp only; omega) | (simp only [World.size_alloc, World.size_setCell, World.size_drew, World.heap_drewN]; omega))))).mono ?_); rintro e w1 ⟨rfl, hb⟩; exact ⟨rfl, Ext.next hW hb⟩)
      | (go_at_call 29; have hWb := Ext.of hW; (with_reducible refine (HS3.out _ (by (repeat' (first | (with_reducible exact Below.refl _ _) | (with_reducible assumption) | (with_reducible refine Below.setCell ?_ ?_ _) | (with_reducible refine Below.alloc ?_ ?_ _) | (with_reducible refine Below.drew ?_) | (with_reducible refine below_drewN ?_ _) | (with_reducible refine below_next ?_ (by with_reducible assumption)) | omega | (dsimp only; omega) | (simp only [World.size_alloc, World.size_setCell, World.size_drew, World.heap_drewN]; omega))))).mono ?_); rintro e w1 ⟨rfl, hb⟩; exact ⟨rfl, Ext.next hW hb⟩)
    | exact rfl | (obtain ⟨hcW, hfW, hzW⟩ := cif (Ext.of hW); (try simp only [World.size_alloc, World.size_setCell, World.size_drew, World.heap_drewN] at hzW); simp [go_sem, *, ↓IntWalk.iteOmega]; (try exact rfl)))); go_big_quiet_on)))
  refine wpQuiet_nil ?_
  intro w' hw'
  have hbl := Ext.of hw'
  obtain ⟨hc, hf, hz⟩ := cif hbl
  (try simp only [World.size_alloc, World.size_setCell, World.size_drew, World.heap_drewN] at hz)
  clear hw'
  go_wp2
  go_returns
  exact ⟨rfl, by (repeat' (first | (with_reducible exact Below.refl _ _) | (with_reducible assumption) | (with_reducible refine Below.setCell ?_ ?_ _) | (with_reducible refine Below.alloc ?_ ?_ _) | (with_reducible refine Below.drew ?_) | (with_reducible refine below_drewN ?_ _) | (with_reducible refine below_next ?_ (by with_reducible assumption)) | omega | (dsimp only; omega) | (simp only [World.size_alloc, World.size_setCell, World.size_drew, World.heap_drewN]; omega)))⟩
end Go.Proofs.YteeojgepgjndgaaDoor
