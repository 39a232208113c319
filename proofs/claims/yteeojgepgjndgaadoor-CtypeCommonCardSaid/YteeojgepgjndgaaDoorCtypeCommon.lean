/-
  The law CtypeCommon, walked: the common type of two is the same either way round, is promoted, and is its own with each of the two.
-/
import Derived.Test.YteeojgepgjndgaaDoorCtypeW23
import Derived.Test.YteeojgepgjndgaaDoorCtypeW24
import Derived.Test.YteeojgepgjndgaaDoorCtypeW5
namespace Go.Proofs.YteeojgepgjndgaaDoor
open Go.RowKit
set_option linter.unusedVariables false
set_option linter.unusedSimpArgs false

set_option maxRecDepth 100000 in
set_option maxHeartbeats 8000000 in
theorem common_core (la lb : List Int) (Aa Ab : Option Addr) (ma ca mb cb : Nat) (w : World) (ht : TabW w) (hla : ∀ x ∈ la, I64 x) (hlb : ∀ x ∈ lb, I64 x)
    (ha : RdL intC 1 w (.slice Aa ma ca) la) (hb : RdL intC 1 w (.slice Ab mb cb) lb) :
    Calls Tryd.prog 7 #[.slice Aa ma ca, .slice Ab mb cb] w fun e w' => e = .returned (.bool true) ∧ Below w.heap.size w w' := by
  have HF : Hid (∀ W, Below w.heap.size w W → Calls Tryd.prog 9 #[] W fun e w' => e = .returned (.bool true) ∧ Below W.heap.size W w') := Lib.hid fun W hW => fixed_any W (ht.next hW)
  have HO1 : Hid (∀ W, Below w.heap.size w W → Calls Tryd.prog 11 #[.slice Aa ma ca] W (OneP (oneE la) W)) := Lib.hid fun W hW => one_free la Aa ma ca W hla (ha.next hW)
  have HO2 : Hid (∀ W, Below w.heap.size w W → Calls Tryd.prog 11 #[.slice Ab mb cb] W (OneP (oneE lb) W)) := Lib.hid fun W hW => one_free lb Ab mb cb W hlb (hb.next hW)
  clear ht hla hlb ha hb
  have hA1 := cell_alloc_if
  have hA2 := frozen_alloc_if
  have hA3 := cell_set_if
  go_enter Tryd.func7, Tryd.ntmps7
  go_upto_region 4 with (first
    | (go_at_call 9; (with_reducible refine (HF.out _ (by (repeat' (first | (with_reducible exact Below.refl _ _) | (with_reducible assumption) | (with_reducible refine Below.setCell ?_ ?_ _) | (with_reducible refine Below.alloc ?_ ?_ _) | (with_reducible refine Below.drew ?_) | (with_reducible refine below_drewN ?_ _) | (with_reducible refine below_next ?_ (by with_reducible assumption)) | omega | (dsimp only; omega) | (simp only [World.size_alloc, World.size_setCell, World.size_drew, World.heap_drewN]; omega))))).mono ?_); rintro e w1 ⟨rfl, hb1⟩; obtain ⟨hc1, hf1, hz1⟩ := cif hb1; clear hf1; (try simp only [World.size_alloc, World.size_setCell, World.size_drew, World.heap_drewN] at hz1))
    | (go_at_call 11; (with_reducible refine (HO1.out _ (by (repeat' (first | (with_reducible exact Below.refl _ _) | (with_reducible assumption) | (with_reducible refine Below.setCell ?_ ?_ _) | (with_reducible refine Below.alloc ?_ ?_ _) | (with_reducible refine Below.drew ?_) | (with_reducible refine below_drewN ?_ _) | (with_reducible refine below_next ?_ (by with_reducible assumption)) | omega | (dsimp only; omega) | (simp only [World.size_alloc, World.size_setCell, World.size_drew, World.heap_drewN]; omega))))).mono ?_); rintro e w2 ⟨t, rfl, het, hrt, hit, hb2⟩; obtain ⟨k1, s1, l1, f1, n1, A1, m1, c1, e1⟩ := tyC_form t hrt; rw [tyV_of e1]; have E1 := Lib.hid e1; have HT1 := Lib.hid hrt; have ET1 := Lib.hid het; clear e1 hrt hit het; obtain ⟨hc2, hf2, hz2⟩ := cif hb2; clear hf2; (try simp only [World.size_alloc, World.size_setCell, World.size_drew, World.heap_drewN] at hz2))
    | (go_at_call 11; (with_reducible refine (HO2.out _ (by (repeat' (first | (with_reducible exact Below.refl _ _) | (with_reducible assumption) | (with_reducible refine Below.setCell ?_ ?_ _) | (with_reducible refine Below.alloc ?_ ?_ _) | (with_reducible refine Below.drew ?_) | (with_reducible refine below_drewN ?_ _) | (with_reducible refine below_next ?_ (by with_reducible assumption)) | omega | (dsimp only; omega) | (simp only [World.size_alloc, World.size_setCell, World.size_drew, World.heap_drewN]; omega))))).mono ?_); rintro e w3 ⟨u, rfl, heu, hru, hiu, hb3⟩; obtain ⟨k2, s2, l2, f2, n2, A2, m2, c2, e2⟩ := tyC_form u hru; rw [tyV_of e2]; have E2 := Lib.hid e2; have HT2 := Lib.hid hru; have ET2 := Lib.hid heu; clear e2 hru hiu heu; obtain ⟨hc3, hf3, hz3⟩ := cif hb3; clear hf3; (try simp only [World.size_alloc, World.size_setCell, World.size_drew, World.heap_drewN] at hz3)))
  have r2 : RdT w3 u := HT2.out
  have r1 : RdT w3 t := HT1.out.next (by (repeat' (first | (with_reducible exact Below.refl _ _) | (with_reducible assumption) | (with_reducible refine Below.setCell ?_ ?_ _) | (with_reducible refine Below.alloc ?_ ?_ _) | (with_reducible refine Below.drew ?_) | (with_reducible refine below_drewN ?_ _) | (with_reducible refine below_next ?_ (by with_reducible assumption)) | omega | (dsimp only; omega) | (simp only [World.size_alloc, World.size_setCell, World.size_drew, World.heap_drewN]; omega))))
  obtain ⟨q1, q2, q3⟩ := common_law t u
  have cv : ∀ (W : World), Below w3.heap.size w3 W → Calls Tryd.prog 30 #[tyV t, tyV u] W _ := fun W hW => common_any t u W (r1.next hW) (r2.next hW)
  have cw : ∀ (W : World), Below w3.heap.size w3 W → Calls Tryd.prog 30 #[tyV u, tyV t] W _ := fun W hW => common_any u t W (r2.next hW) (r1.next hW)
  rw [tyV_of E1.out, tyV_of E2.out] at cv cw
  rw [← q1] at cw
  cases hok : (common t u).2 with
  | false =>
    rw [hok, q2 hok] at cv cw
    have HC1 := Lib.hid cv
    have HC2 := Lib.hid cw
    have HS3 : Hid (∀ W, Below w3.heap.size w3 W → Calls Tryd.prog 18 #[tyV .none, tyV .none] W fun e w' => e = .returned (.bool true) ∧ Below W.heap.size W w') := Lib.hid fun W hW => boolp_yes (rsame_any .none .none W (by simp [RdT]) (by simp [RdT])) rfl
    rw [show tyV .none = .agg #[.int .i64 0, .int .i64 0, .int .i64 0, .bool false, .string ⟨#[]⟩, .slice none 0 0] from rfl] at HC1 HC2 HS3
    clear q1 q2 q3 cv cw r1 r2 hok
    go_wp2_with (first
      | (go_at_call 30; (with_reducible refine (HC1.out _ (by (repeat' (first | (with_reducible exact Below.refl _ _) | (with_reducible assumption) | (with_reducible refine Below.setCell ?_ ?_ _) | (with_reducible refine Below.alloc ?_ ?_ _) | (with_reducible refine Below.drew ?_) | (with_reducible refine below_drewN ?_ _) | (with_reducible refine below_next ?_ (by with_reducible assumption)) | omega | (dsimp only; omega) | (simp only [World.size_alloc, World.size_setCell, World.size_drew, World.heap_drewN]; omega))))).mono ?_); rintro e w4 ⟨rfl, hb4⟩; obtain ⟨hc4, hf4, hz4⟩ := cif hb4; clear hf4; (try simp only [World.size_alloc, World.size_setCell, World.size_drew, World.heap_drewN] at hz4))
      | (go_at_call 30; (with_reducible refine (HC2.out _ (by (repeat' (first | (with_reducible exact Below.refl _ _) | (with_reducible assumption) | (with_reducible refine Below.setCell ?_ ?_ _) | (with_reducible refine Below.alloc ?_ ?_ _) | (with_reducible refine Below.drew ?_) | (with_reducible refine below_drewN ?_ _) | (with_reducible refine below_next ?_ (by with_reducible assumption)) | omega | (dsimp only; omega) | (simp only [World.size_alloc, World.size_setCell, World.size_drew, World.heap_drewN]; omega))))).mono ?_); rintro e w4 ⟨rfl, hb4⟩; obtain ⟨hc4, hf4, hz4⟩ := cif hb4; clear hf4; (try simp only [World.size_alloc, World.size_setCell, World.size_drew, World.heap_drewN] at hz4))
      | (go_at_call 36; (with_reducible refine (none_any _ _ _ _ _ _ _ _ _).mono ?_); rintro e w' ⟨rfl, hbl⟩; obtain ⟨hc, hf, hz⟩ := cif hbl; (try simp only [World.size_alloc, World.size_setCell, World.size_drew, World.heap_drewN] at hz))
      | (go_at_call 18; (with_reducible refine (HS3.out _ (by (repeat' (first | (with_reducible exact Below.refl _ _) | (with_reducible assumption) | (with_reducible refine Below.setCell ?_ ?_ _) | (with_reducible refine Below.alloc ?_ ?_ _) | (with_reducible refine Below.drew ?_) | (with_reducible refine below_drewN ?_ _) | (with_reducible refine below_next ?_ (by with_reducible assumption)) | omega | (dsimp only; omega) | (simp only [World.size_alloc, World.size_setCell, World.size_drew, World.heap_drewN]; omega))))).mono ?_); rintro e w' ⟨rfl, hbl⟩; obtain ⟨hc, hf, hz⟩ := cif hbl; (try simp only [World.size_alloc, World.size_setCell, World.size_drew, World.heap_drewN] at hz)))
    all_goals (go_returns; exact ⟨rfl, by (repeat' (first | (with_reducible exact Below.refl _ _) | (with_reducible assumption) | (with_reducible refine Below.setCell ?_ ?_ _) | (with_reducible refine Below.alloc ?_ ?_ _) | (with_reducible refine Below.drew ?_) | (with_reducible refine below_drewN ?_ _) | (with_reducible refine below_next ?_ (by with_reducible assumption)) | omega | (dsimp only; omega) | (simp only [World.size_alloc, World.size_setCell, World.size_drew, World.heap_drewN]; omega)))⟩)
  | true =>
    obtain ⟨g1, g2, g3, g4, g5⟩ := q3 hok
    rw [hok] at cv cw
    obtain ⟨a, hA⟩ : ∃ a, a = (common t u).1 := ⟨_, rfl⟩
    rw [← hA] at cv cw g1 g2 g4 g5
    have ra : ∀ W, RdT W a := fun W => by
      rw [hA, common_eq, commonA_eq]
      cases joinA (arOf t) (arOf u) <;> simp [tyOf, RdT]
    have cx : ∀ (W : World), Below w3.heap.size w3 W → Calls Tryd.prog 30 #[tyV a, tyV t] W _ := fun W hW => common_any a t W (ra W) (r1.next hW)
    have cy : ∀ (W : World), Below w3.heap.size w3 W → Calls Tryd.prog 30 #[tyV a, tyV u] W _ := fun W hW => common_any a u W (ra W) (r2.next hW)
    have cz : ∀ (W : World), Below w3.heap.size w3 W → Calls Tryd.prog 30 #[tyV t, tyV t] W _ := fun W hW => common_any t t W (r1.next hW) (r1.next hW)
    have pa : ∀ (W : World), Calls Tryd.prog 27 #[tyV a] W _ := fun W => promote_any a W (ra W)
    have pt : ∀ (W : World), Below w3.heap.size w3 W → Calls Tryd.prog 27 #[tyV t] W _ := fun W hW => promote_any t W (r1.next hW)
    have sa : ∀ W, Calls Tryd.prog 18 #[tyV a, tyV a] W fun e w' => e = .returned (.bool true) ∧ Below W.heap.size W w' := fun W => boolp_yes (rsame_any a a W (ra W) (ra W)) rfl
    have sp : ∀ W, Below w3.heap.size w3 W → Calls Tryd.prog 18 #[tyV (promote t), tyV (promote t)] W fun e w' => e = .returned (.bool true) ∧ Below W.heap.size W w' := fun W hW => boolp_yes (rsame_any _ _ W (r1.next hW).promote (r1.next hW).promote) rfl
    rw [g1] at cx
    rw [g2] at cy
    rw [g3] at cz
    rw [g4] at pa
    obtain ⟨k3, s3, l3, f3, n3, A3, m3, c3, e3⟩ := tyC_form a (ra w)
    obtain ⟨k4, s4, l4, f4, n4, A4, m4, c4, e4⟩ := tyC_form (promote t) r1.promote
    have hk3 : (k3 == 0) = false := by
      have h1 := none_iff a
      have h2 : k3 = kN a := by
        have h0 := congrArg (fun l => l[0]?) e3
        cases a <;> simp [tyC, tyMk] at h0 <;> simp [kN, ← h0]
      rw [h2]
      simpa using fun h => g5 (h1.2 h)
    simp only [tyV_of E1.out, tyV_of E2.out, tyV_of e3, tyV_of e4] at cv cw cx cy cz pa pt sa sp
    have HC1 := Lib.hid cv
    have HC2 := Lib.hid cw
    have HC3 := Lib.hid cx
    have HC4 := Lib.hid cy
    have HC5 := Lib.hid cz
    have HP3 : Hid (∀ W, Below w3.heap.size w3 W → Calls Tryd.prog 27 #[.agg #[.int .i64 k3, .int .i64 s3, .int .i64 l3, .bool f3, .string n3, .slice A3 m3 c3]] W fun e w' => e = .returned (.agg #[.int .i64 k3, .int .i64 s3, .int .i64 l3, .bool f3, .string n3, .slice A3 m3 c3]) ∧ Below W.heap.size W w') := Lib.hid fun W _ => pa W
    have HP1 := Lib.hid pt
    have HS3 : Hid (∀ W, Below w3.heap.size w3 W → Calls Tryd.prog 18 #[.agg #[.int .i64 k3, .int .i64 s3, .int .i64 l3, .bool f3, .string n3, .slice A3 m3 c3], .agg #[.int .i64 k3, .int .i64 s3, .int .i64 l3, .bool f3, .string n3, .slice A3 m3 c3]] W fun e w' => e = .returned (.bool true) ∧ Below W.heap.size W w') := Lib.hid fun W _ => sa W
    have HS4 := Lib.hid sp
    clear q1 q2 q3 cv cw cx cy cz pa pt sa sp e3 e4 g1 g2 g3 g4 g5 hA ra r1 r2 hok
    go_upto_region 11 with (first
      | (go_at_call 30; (with_reducible refine (HC1.out _ (by (repeat' (first | (with_reducible exact Below.refl _ _) | (with_reducible assumption) | (with_reducible refine Below.setCell ?_ ?_ _) | (with_reducible refine Below.alloc ?_ ?_ _) | (with_reducible refine Below.drew ?_) | (with_reducible refine below_drewN ?_ _) | (with_reducible refine below_next ?_ (by with_reducible assumption)) | omega | (dsimp only; omega) | (simp only [World.size_alloc, World.size_setCell, World.size_drew, World.heap_drewN]; omega))))).mono ?_); rintro e w4 ⟨rfl, hb4⟩; obtain ⟨hc4, hf4, hz4⟩ := cif hb4; clear hf4; (try simp only [World.size_alloc, World.size_setCell, World.size_drew, World.heap_drewN] at hz4))
      | (go_at_call 30; (with_reducible refine (HC2.out _ (by (repeat' (first | (with_reducible exact Below.refl _ _) | (with_reducible assumption) | (with_reducible refine Below.setCell ?_ ?_ _) | (with_reducible refine Below.alloc ?_ ?_ _) | (with_reducible refine Below.drew ?_) | (with_reducible refine below_drewN ?_ _) | (with_reducible refine below_next ?_ (by with_reducible assumption)) | omega | (dsimp only; omega) | (simp only [World.size_alloc, World.size_setCell, World.size_drew, World.heap_drewN]; omega))))).mono ?_); rintro e w4 ⟨rfl, hb4⟩; obtain ⟨hc4, hf4, hz4⟩ := cif hb4; clear hf4; (try simp only [World.size_alloc, World.size_setCell, World.size_drew, World.heap_drewN] at hz4))
      | (go_at_call 30; (with_reducible refine (HC3.out _ (by (repeat' (first | (with_reducible exact Below.refl _ _) | (with_reducible assumption) | (with_reducible refine Below.setCell ?_ ?_ _) | (with_reducible refine Below.alloc ?_ ?_ _) | (with_reducible refine Below.drew ?_) | (with_reducible refine below_drewN ?_ _) | (with_reducible refine below_next ?_ (by with_reducible assumption)) | omega | (dsimp only; omega) | (simp only [World.size_alloc, World.size_setCell, World.size_drew, World.heap_drewN]; omega))))).mono ?_); rintro e w4 ⟨rfl, hb4⟩; obtain ⟨hc4, hf4, hz4⟩ := cif hb4; clear hf4; (try simp only [World.size_alloc, World.size_setCell, World.size_drew, World.heap_drewN] at hz4))
      | (go_at_call 30; (with_reducible refine (HC4.out _ (by (repeat' (first | (with_reducible exact Below.refl _ _) | (with_reducible assumption) | (with_reducible refine Below.setCell ?_ ?_ _) | (with_reducible refine Below.alloc ?_ ?_ _) | (with_reducible refine Below.drew ?_) | (with_reducible refine below_drewN ?_ _) | (with_reducible refine below_next ?_ (by with_reducible assumption)) | omega | (dsimp only; omega) | (simp only [World.size_alloc, World.size_setCell, World.size_drew, World.heap_drewN]; omega))))).mono ?_); rintro e w4 ⟨rfl, hb4⟩; obtain ⟨hc4, hf4, hz4⟩ := cif hb4; clear hf4; (try simp only [World.size_alloc, World.size_setCell, World.size_drew, World.heap_drewN] at hz4))
      | (go_at_call 30; (with_reducible refine (HC5.out _ (by (repeat' (first | (with_reducible exact Below.refl _ _) | (with_reducible assumption) | (with_reducible refine Below.setCell ?_ ?_ _) | (with_reducible refine Below.alloc ?_ ?_ _) | (with_reducible refine Below.drew ?_) | (with_reducible refine below_drewN ?_ _) | (with_reducible refine below_next ?_ (by with_reducible assumption)) | omega | (dsimp only; omega) | (simp only [World.size_alloc, World.size_setCell, World.size_drew, World.heap_drewN]; omega))))).mono ?_); rintro e w4 ⟨rfl, hb4⟩; obtain ⟨hc4, hf4, hz4⟩ := cif hb4; clear hf4; (try simp only [World.size_alloc, World.size_setCell, World.size_drew, World.heap_drewN] at hz4))
      | (go_at_call 18; (with_reducible refine (HS3.out _ (by (repeat' (first | (with_reducible exact Below.refl _ _) | (with_reducible assumption) | (with_reducible refine Below.setCell ?_ ?_ _) | (with_reducible refine Below.alloc ?_ ?_ _) | (with_reducible refine Below.drew ?_) | (with_reducible refine below_drewN ?_ _) | (with_reducible refine below_next ?_ (by with_reducible assumption)) | omega | (dsimp only; omega) | (simp only [World.size_alloc, World.size_setCell, World.size_drew, World.heap_drewN]; omega))))).mono ?_); rintro e w' ⟨rfl, hbl⟩; obtain ⟨hc, hf, hz⟩ := cif hbl; (try simp only [World.size_alloc, World.size_setCell, World.size_drew, World.heap_drewN] at hz)))
    refine wp_region_ext (by kernel_rfl) (by kernel_rfl) ?_
    repeat (first | go_big_quiet_skip | (go_big_quiet_want; go_big_quiet_op; first | go_big_quiet_on | (apply Exists.intro; refine ⟨fun W hW => ?_, ?_⟩; (focus (first
      | (go_at_call 18; have hWb := Ext.of hW; (with_reducible refine (HS3.out _ (by (repeat' (first | (with_reducible exact Below.refl _ _) | (with_reducible assumption) | (with_reducible refine Below.setCell ?_ ?_ _) | (with_reducible refine Below.alloc ?_ ?_ _) | (with_reducible refine Below.drew ?_) | (with_reducible refine below_drewN ?_ _) | (with_reducible refine below_next ?_ (by with_reducible assumption)) | omega | (dsimp only; omega) | (simp only [World.size_alloc, World.size_setCell, World.size_drew, World.heap_drewN]; omega))))).mono ?_); rintro e w1 ⟨rfl, hb⟩; exact ⟨rfl, Ext.next hW hb⟩)
        | (go_at_call 18; have hWb := Ext.of hW; (with_reducible refine (HS4.out _ (by (repeat' (first | (with_reducible exact Below.refl _ _) | (with_reducible assumption) | (with_reducible refine Below.setCell ?_ ?_ _) | (with_reducible refine Below.alloc ?_ ?_ _) | (with_reducible refine Below.drew ?_) | (with_reducible refine below_drewN ?_ _) | (with_reducible refine below_next ?_ (by with_reducible assumption)) | omega | (dsimp only; omega) | (simp only [World.size_alloc, World.size_setCell, World.size_drew, World.heap_drewN]; omega))))).mono ?_); rintro e w1 ⟨rfl, hb⟩; exact ⟨rfl, Ext.next hW hb⟩)
        | (go_at_call 27; have hWb := Ext.of hW; (with_reducible refine (HP3.out _ (by (repeat' (first | (with_reducible exact Below.refl _ _) | (with_reducible assumption) | (with_reducible refine Below.setCell ?_ ?_ _) | (with_reducible refine Below.alloc ?_ ?_ _) | (with_reducible refine Below.drew ?_) | (with_reducible refine below_drewN ?_ _) | (with_reducible refine below_next ?_ (by with_reducible assumption)) | omega | (dsimp only; omega) | (simp only [World.size_alloc, World.size_setCell, World.size_drew, World.heap_drewN]; omega))))).mono ?_); rintro e w1 ⟨rfl, hb⟩; exact ⟨rfl, Ext.next hW hb⟩)
        | (go_at_call 27; have hWb := Ext.of hW; (with_reducible refine (HP1.out _ (by (repeat' (first | (with_reducible exact Below.refl _ _) | (with_reducible assumption) | (with_reducible refine Below.setCell ?_ ?_ _) | (with_reducible refine Below.alloc ?_ ?_ _) | (with_reducible refine Below.drew ?_) | (with_reducible refine below_drewN ?_ _) | (with_reducible refine below_next ?_ (by with_reducible assumption)) | omega | (dsimp only; omega) | (simp only [World.size_alloc, World.size_setCell, World.size_drew, World.heap_drewN]; omega))))).mono ?_); rintro e w1 ⟨rfl, hb⟩; exact ⟨rfl, Ext.next hW hb⟩)
        | (go_at_call 36; (with_reducible refine (none_any _ _ _ _ _ _ _ _ _).mono ?_); rintro e w1 ⟨rfl, hb⟩; exact ⟨rfl, Ext.next hW hb⟩)
      | exact rfl | (obtain ⟨hcW, hfW, hzW⟩ := cif (Ext.of hW); (try simp only [World.size_alloc, World.size_setCell, World.size_drew, World.heap_drewN] at hzW); simp [go_sem, *, ↓IntWalk.iteOmega]; (try exact rfl)))); go_big_quiet_on)))
    refine wpQuiet_nil ?_
    intro w' hw'
    have hbl := Ext.of hw'
    obtain ⟨hc, hf, hz⟩ := cif hbl
    (try simp only [World.size_alloc, World.size_setCell, World.size_drew, World.heap_drewN] at hz)
    clear hw'
    go_wp2
    go_returns
    exact ⟨rfl, by (repeat' (first | (with_reducible exact Below.refl _ _) | (with_reducible assumption) | (with_reducible refine Below.setCell ?_ ?_ _) | (with_reducible refine Below.alloc ?_ ?_ _) | (with_reducible refine Below.drew ?_) | (with_reducible refine below_drewN ?_ _) | (with_reducible refine below_next ?_ (by with_reducible assumption)) | omega | (dsimp only; omega) | (simp only [World.size_alloc, World.size_setCell, World.size_drew, World.heap_drewN]; omega)))⟩
end Go.Proofs.YteeojgepgjndgaaDoor
