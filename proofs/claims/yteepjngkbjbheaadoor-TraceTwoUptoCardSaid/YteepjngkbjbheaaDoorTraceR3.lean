/-
  Begins, Same, Refines: the reference's.
-/
import Derived.Test.YteepjngkbjbheaaDoorTraceR1
import Derived.Test.YteepjngkbjbheaaDoorTraceW3
namespace Go.Proofs.YteepjngkbjbheaaDoor
open Go.RowKit
set_option linter.unusedVariables false
set_option linter.unusedSimpArgs false

theorem BeginsE.step {l1 l2 : List Ev} {k : Nat} {x y : Ev} (h : ∀ (i : Nat) (x y : Ev), i < k → l1[i]? = some x → l2[i]? = some y → SameE x y) (h1 : l1[k]? = some x) (h2 : l2[k]? = some y) (hs : SameE x y) :
    ∀ (i : Nat) (x y : Ev), i < k + 1 → l1[i]? = some x → l2[i]? = some y → SameE x y := EqE.snoc h h1 h2 hs

/-- The answer of SameEvent in whatever world behind. -/
abbrev RSam (w : World) (a b : Ev) (r : Bool) : Prop :=
  ∀ W, Ext w W → Calls Tryd.prog 9 #[.agg #[.string a.name, a.sv, .int .i64 a.res.k, .int .u64 a.res.b, .int .i64 a.res.l], .agg #[.string b.name, b.sv, .int .i64 b.res.k, .int .u64 b.res.b, .int .i64 b.res.l]] W fun e w' => e = .returned (.bool r) ∧ Below W.heap.size W w'
theorem rsam_of {w : World} {a b : Ev} (h1 : RdL vCells 3 w a.sv a.args) (h2 : RdL vCells 3 w b.sv b.args) : ∃ r : Bool, RSam w a b r ∧ (r = true ↔ SameE a b) := by
  by_cases h : SameE a b
  · exact ⟨true, fun W hW => boolp_yes (ref_sameEvent_any _ _ W (h1.next hW) (h2.next hW)) h, by simp [h]⟩
  · exact ⟨false, fun W hW => boolp_no (ref_sameEvent_any _ _ W (h1.next hW) (h2.next hW)) h, by simp [h]⟩

set_option maxRecDepth 100000 in
set_option maxHeartbeats 4000000 in
theorem ref_begins_any (s1 s2 : Value) (l1 l2 : List Ev) (w : World) (h1 : RdEvs w s1 l1) (h2 : RdEvs w s2 l2) :
    Calls Tryd.prog 14 #[s1, s2] w (BoolP (BeginsE l1 l2) w) := by
  have m1 := h1.1.len
  have m2 := h2.1.len
  unfold maxLen at m1 m2
  by_cases hl : l1.length ≤ l2.length
  · have hle : decide ((l2.length : Int) < (l1.length : Int)) = false := by simp; omega
    have hle2 : decide (l2.length < l1.length) = false := by simp; omega
    by_cases h0 : l1.length = 0
    · obtain ⟨A1, c1, rfl, _⟩ := h1.1.empty h0
      obtain ⟨A2, c2, rfl⟩ := h2.1.form
      have e : BeginsE l1 l2 := by rw [List.eq_nil_of_length_eq_zero h0]; exact ⟨Nat.zero_le _, fun i x y h => by simp at h⟩
      have HE := Lib.hid e
      clear e h1 h2 hl h0
      go_enter Tryd.func14, Tryd.ntmps14
      go_wp2
      go_loop [5] (fun i => i = .int .i64 0) (fun _ => 0)
      case atStart => rfl
      case round =>
        subst hrel
        go_wp2
        go_returns
        exact ⟨true, rfl, by simp [HE.out], Below.refl _ _⟩
    · have k1 := h1.2
      have k2 := h2.2
      obtain ⟨b1, o1, c1, rfl, _, _, hb1, hc1⟩ := h1.1.some_ (by omega)
      obtain ⟨b2, o2, c2, rfl, _, _, hb2, hc2⟩ := h2.1.some_ (by omega)
      have H1 := Lib.hid hc1
      have H2 := Lib.hid hc2
      have K1 := Lib.hid k1
      have K2 := Lib.hid k2
      clear hc1 hc2 h1 h2 k1 k2
      have hA1 := cell_alloc_if
      have hA2 := frozen_alloc_if
      have hA3 := cell_set_if
      go_enter Tryd.func14, Tryd.ntmps14
      go_wp2
      go_loopw [5] (fun i wr => ∃ k : Nat, k ≤ l1.length ∧ i = .int .i64 k ∧ Ext w wr ∧ Hid (∀ (i : Nat) (x y : Ev), i < k → l1[i]? = some x → l2[i]? = some y → SameE x y)) (fun i _ => l1.length - (intOf i).toNat)
      case atStart => exact ⟨0, by omega, rfl, Below.refl _ _, fun i x y hi => absurd hi (by omega)⟩
      case round =>
        obtain ⟨k, hk, rfl, hX, HT⟩ := hrel
        by_cases hlt : k < l1.length
        · have hlt2 : k < l2.length := by omega
          obtain ⟨x, e1⟩ : ∃ x, l1[k]? = some x := ⟨_, List.getElem?_eq_getElem hlt⟩
          obtain ⟨y, e2⟩ : ∃ y, l2[k]? = some y := ⟨_, List.getElem?_eq_getElem hlt2⟩
          obtain ⟨p1, p2, p3, p4, p5⟩ := RdL.evAt H1.out e1
          obtain ⟨q1, q2, q3, q4, q5⟩ := RdL.evAt H2.out e2
          have hXb := Ext.of hX
          have g1 := (K1.out x (List.mem_of_getElem? e1)).next hXb
          have g2 := (K2.out y (List.mem_of_getElem? e2)).next hXb
          obtain ⟨r, hs, hr⟩ := rsam_of g1 g2
          unfold RSam at hs
          obtain ⟨Ax, cx, ex⟩ := g1.form
          obtain ⟨Ay, cy, ey⟩ := g2.form
          have p1' := (hXb.cell (p := ⟨b1, _, none⟩) hb1).trans p1
          have p2' := (hXb.cell (p := ⟨b1, _, none⟩) hb1).trans p2
          have p3' := (hXb.cell (p := ⟨b1, _, none⟩) hb1).trans p3
          have p4' := (hXb.cell (p := ⟨b1, _, none⟩) hb1).trans p4
          have p5' := (hXb.cell (p := ⟨b1, _, none⟩) hb1).trans p5
          have q1' := (hXb.cell (p := ⟨b2, _, none⟩) hb2).trans q1
          have q2' := (hXb.cell (p := ⟨b2, _, none⟩) hb2).trans q2
          have q3' := (hXb.cell (p := ⟨b2, _, none⟩) hb2).trans q3
          have q4' := (hXb.cell (p := ⟨b2, _, none⟩) hb2).trans q4
          have q5' := (hXb.cell (p := ⟨b2, _, none⟩) hb2).trans q5
          have hwz := hXb.size
          have E1 := Lib.hid e1
          have E2 := Lib.hid e2
          have HR := Lib.hid hr
          obtain ⟨xn, xs, xl, xr⟩ := x
          obtain ⟨yn, ys, yl, yr⟩ := y
          dsimp only at *
          subst ex ey
          have HS := Lib.hid hs
          clear p1 p2 p3 p4 p5 q1 q2 q3 q4 q5 e1 e2 g1 g2 hr hs
          go_wp2
          refine wp_region_ext (by kernel_rfl) (by kernel_rfl) ?_
          repeat (first | go_big_quiet_skip | (go_big_quiet_want; go_big_quiet_op; first | go_big_quiet_on | (apply Exists.intro; refine ⟨fun W hW => ?_, ?_⟩; (focus (first
            | (go_at_call 9; (with_reducible refine (HS.out _ (by with_reducible assumption)).mono ?_); rintro e w1 ⟨rfl, hb⟩; exact ⟨rfl, Ext.next hW hb⟩)
              | (go_at_call 14; (with_reducible refine (HB.out _ (by with_reducible assumption)).mono ?_); rintro e w1 ⟨rfl, hb⟩; exact ⟨rfl, Ext.next hW hb⟩)
              | (go_at_call 32; (with_reducible refine (HB.out _ (by with_reducible assumption)).mono ?_); rintro e w1 ⟨rfl, hb⟩; exact ⟨rfl, Ext.next hW hb⟩)
            | exact rfl | (obtain ⟨hcW, hfW, hzW⟩ := cif (Ext.of hW); (try simp only [World.size_alloc, World.size_setCell, World.size_drew, World.heap_drewN] at hzW); simp [go_sem, *, ↓IntWalk.iteOmega]; (try exact rfl)))); go_big_quiet_on)))
          refine wpQuiet_nil ?_
          intro w' hw'
          have hbl := Ext.of hw'
          obtain ⟨hc, hf, hz⟩ := cif hbl
          (try simp only [World.size_alloc, World.size_setCell, World.size_drew, World.heap_drewN] at hz)
          clear hw'
          cases r
          · go_wp2
            go_returns
            refine ⟨false, rfl, ?_, by unfold Ext at *; (repeat' (first | (with_reducible exact Below.refl _ _) | (with_reducible assumption) | (with_reducible refine Below.setCell ?_ ?_ _) | (with_reducible refine Below.alloc ?_ ?_ _) | (with_reducible refine Below.drew ?_) | (with_reducible refine below_drewN ?_ _) | (with_reducible refine below_next ?_ (by with_reducible assumption)) | omega | (dsimp only; omega) | (simp only [World.size_alloc, World.size_setCell, World.size_drew, World.heap_drewN]; omega)))⟩
            have hv := HR.out
            simp at hv
            simp
            intro h
            exact hv (h.2 k _ _ E1.out E2.out)
          · go_wp2
            go_roundw
            case rel => exact ⟨k + 1, by omega, by go_num, by unfold Ext at *; (repeat' (first | (with_reducible exact Below.refl _ _) | (with_reducible assumption) | (with_reducible refine Below.setCell ?_ ?_ _) | (with_reducible refine Below.alloc ?_ ?_ _) | (with_reducible refine Below.drew ?_) | (with_reducible refine below_drewN ?_ _) | (with_reducible refine below_next ?_ (by with_reducible assumption)) | omega | (dsimp only; omega) | (simp only [World.size_alloc, World.size_setCell, World.size_drew, World.heap_drewN]; omega))), EqE.snoc HT.out E1.out E2.out (by simpa using HR.out)⟩
            case measure => simp [intOf]; omega
        · have hkn : k = l1.length := by omega
          subst hkn
          go_wp2
          go_returns
          refine ⟨true, rfl, ?_, by unfold Ext at *; (repeat' (first | (with_reducible exact Below.refl _ _) | (with_reducible assumption) | (with_reducible refine Below.setCell ?_ ?_ _) | (with_reducible refine Below.alloc ?_ ?_ _) | (with_reducible refine Below.drew ?_) | (with_reducible refine below_drewN ?_ _) | (with_reducible refine below_next ?_ (by with_reducible assumption)) | omega | (dsimp only; omega) | (simp only [World.size_alloc, World.size_setCell, World.size_drew, World.heap_drewN]; omega)))⟩
          have ht := HT.out
          simp
          refine ⟨hl, fun i x y hx hy => ht i x y ?_ hx hy⟩
          rcases Nat.lt_or_ge i l1.length with h1 | h1
          · exact h1
          · rw [List.getElem?_eq_none h1] at hx; cases hx
  · obtain ⟨A1, c1, rfl⟩ := h1.1.form
    obtain ⟨A2, c2, rfl⟩ := h2.1.form
    have hle : decide ((l2.length : Int) < (l1.length : Int)) = true := by simp; omega
    have hle2 : decide (l2.length < l1.length) = true := by simp; omega
    have hne : ¬ BeginsE l1 l2 := fun h => hl h.1
    have HE := Lib.hid hne
    clear h1 h2 hne hl
    go_enter Tryd.func14, Tryd.ntmps14
    go_wp2
    go_returns
    exact ⟨false, rfl, by simp [HE.out], Below.refl _ _⟩

/-- The answer of Begins, each way round, in whatever world behind. -/
abbrev RBeg (w : World) (s1 s2 : Value) (b : Bool) : Prop :=
  ∀ W, Ext w W → Calls Tryd.prog 14 #[s1, s2] W fun e w' => e = .returned (.bool b) ∧ Below W.heap.size W w'
theorem rbeg_of {w : World} {s1 s2 : Value} {l1 l2 : List Ev} (h1 : RdEvs w s1 l1) (h2 : RdEvs w s2 l2) : ∃ b : Bool, RBeg w s1 s2 b ∧ (b = true ↔ BeginsE l1 l2) := by
  by_cases h : BeginsE l1 l2
  · exact ⟨true, fun W hW => boolp_yes (ref_begins_any _ _ _ _ W (h1.next hW) (h2.next hW)) h, by simp [h]⟩
  · exact ⟨false, fun W hW => boolp_no (ref_begins_any _ _ _ _ W (h1.next hW) (h2.next hW)) h, by simp [h]⟩

theorem eqE_iff {l1 l2 : List Ev} : EqE l1 l2 ↔ l1.length = l2.length ∧ BeginsE l1 l2 := ⟨fun h => ⟨h.1, h.begins⟩, fun h => ⟨h.1, h.2.2⟩⟩
/-- SameTrace. -/
abbrev RSamT (w : World) (s1 s2 : Value) (b : Bool) : Prop :=
  ∀ W, Ext w W → Calls Tryd.prog 32 #[s1, s2] W fun e w' => e = .returned (.bool b) ∧ Below W.heap.size W w'
set_option maxRecDepth 100000 in
set_option maxHeartbeats 4000000 in
theorem sameTrace_core (A1 A2 : Option Addr) (n1 n2 c1 c2 : Nat) (b : Bool) (w : World) (HB : Hid (RBeg w (.slice A1 n1 c1) (.slice A2 n2 c2) b)) :
    Calls Tryd.prog 32 #[.slice A1 n1 c1, .slice A2 n2 c2] w fun e w' => e = .returned (.bool (decide (n1 = n2) && b)) ∧ Below w.heap.size w w' := by
  by_cases h : n1 = n2
  · subst h
    have hA1 := cell_alloc_if
    have hA2 := frozen_alloc_if
    have hA3 := cell_set_if
    go_enter Tryd.func32, Tryd.ntmps32
    have HB1 : Hid (Calls Tryd.prog 14 #[.slice A1 n1 c1, .slice A2 n1 c2] w fun e w' => e = .returned (.bool b) ∧ Below w.heap.size w w') := Lib.hid (HB.out w (Below.refl _ _))
    go_wp2_with (go_at_call 14; (with_reducible refine HB1.out.mono ?_); rintro e w' ⟨rfl, hbl⟩; obtain ⟨hc, hf, hz⟩ := cif hbl; (try simp only [World.size_alloc, World.size_setCell, World.size_drew, World.heap_drewN] at hz))
    go_returns
    exact ⟨by simp, by (try unfold Ext at *); (repeat' (first | (with_reducible exact Below.refl _ _) | (with_reducible assumption) | (with_reducible refine Below.setCell ?_ ?_ _) | (with_reducible refine Below.alloc ?_ ?_ _) | (with_reducible refine Below.drew ?_) | (with_reducible refine below_drewN ?_ _) | (with_reducible refine below_next ?_ (by with_reducible assumption)) | omega | (dsimp only; omega) | (simp only [World.size_alloc, World.size_setCell, World.size_drew, World.heap_drewN]; omega)))⟩
  · have hd : ((n1 : Int) == (n2 : Int)) = false := by simp; omega
    go_enter Tryd.func32, Tryd.ntmps32
    go_wp2
    go_returns
    exact ⟨by simp [h], by (repeat' (first | (with_reducible exact Below.refl _ _) | (with_reducible assumption) | (with_reducible refine Below.setCell ?_ ?_ _) | (with_reducible refine Below.alloc ?_ ?_ _) | (with_reducible refine Below.drew ?_) | (with_reducible refine below_drewN ?_ _) | (with_reducible refine below_next ?_ (by with_reducible assumption)) | omega | (dsimp only; omega) | (simp only [World.size_alloc, World.size_setCell, World.size_drew, World.heap_drewN]; omega)))⟩
theorem rsamT_of {w : World} {s1 s2 : Value} {l1 l2 : List Ev} (h1 : RdEvs w s1 l1) (h2 : RdEvs w s2 l2) : ∃ b : Bool, RSamT w s1 s2 b ∧ (b = true ↔ EqE l1 l2) := by
  obtain ⟨b, hb, hi⟩ := rbeg_of h1 h2
  obtain ⟨A1, c1, rfl⟩ := h1.1.form
  obtain ⟨A2, c2, rfl⟩ := h2.1.form
  exact ⟨_, fun W hW => sameTrace_core A1 A2 _ _ c1 c2 b W (Lib.hid fun W' h' => hb W' (Ext.next hW h')), by rw [eqE_iff, ← hi]; simp⟩

set_option maxRecDepth 100000 in
set_option maxHeartbeats 4000000 in
theorem rsameO_core (A1 A2 : Option Addr) (n1 n2 c1 c2 : Nat) (x1 x2 y1 y2 z1 z2 : Int) (b : Bool) (w : World) (HB : Hid (∀ W, Ext w W → Calls Tryd.prog 32 #[.slice A1 n1 c1, .slice A2 n2 c2] W fun e w' => e = .returned (.bool b) ∧ Below W.heap.size W w')) :
    Calls Tryd.prog 16 #[.agg #[.slice A1 n1 c1, .int .i64 x1, .int .i32 y1, .int .i64 z1], .agg #[.slice A2 n2 c2, .int .i64 x2, .int .i32 y2, .int .i64 z2]] w fun e w' => e = .returned (.bool (decide (x1 = x2) && (decide (y1 = y2) && b))) ∧ Below w.heap.size w w' := by
  by_cases c1 : x1 = x2
  · by_cases c2 : y1 = y2
    · subst c1 c2
      have hA1 := cell_alloc_if
      have hA2 := frozen_alloc_if
      have hA3 := cell_set_if
      go_enter Tryd.func16, Tryd.ntmps16
      go_wp2_with (go_at_call 32; (with_reducible refine (HB.out _ (by (try unfold Ext at *); (repeat' (first | (with_reducible exact Below.refl _ _) | (with_reducible assumption) | (with_reducible refine Below.setCell ?_ ?_ _) | (with_reducible refine Below.alloc ?_ ?_ _) | (with_reducible refine Below.drew ?_) | (with_reducible refine below_drewN ?_ _) | (with_reducible refine below_next ?_ (by with_reducible assumption)) | omega | (dsimp only; omega) | (simp only [World.size_alloc, World.size_setCell, World.size_drew, World.heap_drewN]; omega))))).mono ?_); rintro e w' ⟨rfl, hbl⟩; obtain ⟨hc, hf, hz⟩ := cif hbl; (try simp only [World.size_alloc, World.size_setCell, World.size_drew, World.heap_drewN] at hz))
      go_returns
      exact ⟨by simp, by (try unfold Ext at *); (repeat' (first | (with_reducible exact Below.refl _ _) | (with_reducible assumption) | (with_reducible refine Below.setCell ?_ ?_ _) | (with_reducible refine Below.alloc ?_ ?_ _) | (with_reducible refine Below.drew ?_) | (with_reducible refine below_drewN ?_ _) | (with_reducible refine below_next ?_ (by with_reducible assumption)) | omega | (dsimp only; omega) | (simp only [World.size_alloc, World.size_setCell, World.size_drew, World.heap_drewN]; omega)))⟩
    · have d2 : (y1 == y2) = false := beq_eq_false_iff_ne.2 c2
      have hA1 := cell_alloc_if
      have hA2 := frozen_alloc_if
      have hA3 := cell_set_if
      go_enter Tryd.func16, Tryd.ntmps16
      go_wp2_with (go_at_call 32; (with_reducible refine (HB.out _ (by (try unfold Ext at *); (repeat' (first | (with_reducible exact Below.refl _ _) | (with_reducible assumption) | (with_reducible refine Below.setCell ?_ ?_ _) | (with_reducible refine Below.alloc ?_ ?_ _) | (with_reducible refine Below.drew ?_) | (with_reducible refine below_drewN ?_ _) | (with_reducible refine below_next ?_ (by with_reducible assumption)) | omega | (dsimp only; omega) | (simp only [World.size_alloc, World.size_setCell, World.size_drew, World.heap_drewN]; omega))))).mono ?_); rintro e w' ⟨rfl, hbl⟩; obtain ⟨hc, hf, hz⟩ := cif hbl; (try simp only [World.size_alloc, World.size_setCell, World.size_drew, World.heap_drewN] at hz))
      go_returns
      exact ⟨by simp [c2], by (try unfold Ext at *); (repeat' (first | (with_reducible exact Below.refl _ _) | (with_reducible assumption) | (with_reducible refine Below.setCell ?_ ?_ _) | (with_reducible refine Below.alloc ?_ ?_ _) | (with_reducible refine Below.drew ?_) | (with_reducible refine below_drewN ?_ _) | (with_reducible refine below_next ?_ (by with_reducible assumption)) | omega | (dsimp only; omega) | (simp only [World.size_alloc, World.size_setCell, World.size_drew, World.heap_drewN]; omega)))⟩
  · have d1 : (x1 == x2) = false := beq_eq_false_iff_ne.2 c1
    have hA1 := cell_alloc_if
    have hA2 := frozen_alloc_if
    have hA3 := cell_set_if
    go_enter Tryd.func16, Tryd.ntmps16
    go_wp2
    go_returns
    exact ⟨by simp [c1], by (try unfold Ext at *); (repeat' (first | (with_reducible exact Below.refl _ _) | (with_reducible assumption) | (with_reducible refine Below.setCell ?_ ?_ _) | (with_reducible refine Below.alloc ?_ ?_ _) | (with_reducible refine Below.drew ?_) | (with_reducible refine below_drewN ?_ _) | (with_reducible refine below_next ?_ (by with_reducible assumption)) | omega | (dsimp only; omega) | (simp only [World.size_alloc, World.size_setCell, World.size_drew, World.heap_drewN]; omega)))⟩
theorem rsameO_of {w : World} {s1 s2 : Value} {a b : Out} (h1 : RdEvs w s1 a.tr) (h2 : RdEvs w s2 b.tr) : ∃ r : Bool, (∀ W, Ext w W → Calls Tryd.prog 16 #[.agg #[s1, .int .i64 a.st, .int .i32 a.code, .int .i64 a.steps], .agg #[s2, .int .i64 b.st, .int .i32 b.code, .int .i64 b.steps]] W fun e w' => e = .returned (.bool r) ∧ Below W.heap.size W w') ∧ (r = true ↔ SameO a b) := by
  obtain ⟨b1, hb, hi⟩ := rsamT_of h1 h2
  obtain ⟨A1, c1, rfl⟩ := h1.1.form
  obtain ⟨A2, c2, rfl⟩ := h2.1.form
  exact ⟨_, fun W hW => rsameO_core A1 A2 _ _ c1 c2 _ _ _ _ _ _ b1 W (Lib.hid fun W' h' => hb W' (Ext.next hW h')), by unfold SameO; rw [← hi]; simp⟩

set_option maxRecDepth 100000 in
set_option maxHeartbeats 8000000 in
theorem rrefines_core (A1 A2 : Option Addr) (n1 n2 c1 c2 : Nat) (x1 x2 y1 y2 z1 z2 : Int) (b1 b2 b3 r : Bool) (w : World) (B1 : Hid (RBeg w (.slice A1 n1 c1) (.slice A2 n2 c2) b1)) (B2 : Hid (RBeg w (.slice A2 n2 c2) (.slice A1 n1 c1) b2))
    (SM : Hid (RSamT w (.slice A1 n1 c1) (.slice A2 n2 c2) b3))
    (hr : r = if x2 < 0 ∨ 3 < x2 then false else if x1 = 1 then (if x2 = 1 then (decide (y2 = y1) && b3) else (decide (x2 ≠ 2) && b2)) else if x1 = 0 ∨ x1 = 2 then b1 || b2 else false) :
    Calls Tryd.prog 18 #[.agg #[.slice A1 n1 c1, .int .i64 x1, .int .i32 y1, .int .i64 z1], .agg #[.slice A2 n2 c2, .int .i64 x2, .int .i32 y2, .int .i64 z2]] w fun e w' => e = .returned (.bool r) ∧ Below w.heap.size w w' := by
  have HR := Lib.hid hr
  clear hr
  have hA1 := cell_alloc_if
  have hA2 := frozen_alloc_if
  have hA3 := cell_set_if
  go_enter Tryd.func18, Tryd.ntmps18
  go_wp2_with (first
    | (go_at_call 32; (with_reducible refine (SM.out _ (by (try unfold Ext at *); (repeat' (first | (with_reducible exact Below.refl _ _) | (with_reducible assumption) | (with_reducible refine Below.setCell ?_ ?_ _) | (with_reducible refine Below.alloc ?_ ?_ _) | (with_reducible refine Below.drew ?_) | (with_reducible refine below_drewN ?_ _) | (with_reducible refine below_next ?_ (by with_reducible assumption)) | omega | (dsimp only; omega) | (simp only [World.size_alloc, World.size_setCell, World.size_drew, World.heap_drewN]; omega))))).mono ?_); rintro e w' ⟨rfl, hbl⟩; obtain ⟨hc, hf, hz⟩ := cif hbl; (try simp only [World.size_alloc, World.size_setCell, World.size_drew, World.heap_drewN] at hz))
    | (go_at_call 14; (with_reducible refine (B1.out _ (by (try unfold Ext at *); (repeat' (first | (with_reducible exact Below.refl _ _) | (with_reducible assumption) | (with_reducible refine Below.setCell ?_ ?_ _) | (with_reducible refine Below.alloc ?_ ?_ _) | (with_reducible refine Below.drew ?_) | (with_reducible refine below_drewN ?_ _) | (with_reducible refine below_next ?_ (by with_reducible assumption)) | omega | (dsimp only; omega) | (simp only [World.size_alloc, World.size_setCell, World.size_drew, World.heap_drewN]; omega))))).mono ?_); rintro e w' ⟨rfl, hbl⟩; obtain ⟨hc, hf, hz⟩ := cif hbl; (try simp only [World.size_alloc, World.size_setCell, World.size_drew, World.heap_drewN] at hz))
    | (go_at_call 14; (with_reducible refine (B2.out _ (by (try unfold Ext at *); (repeat' (first | (with_reducible exact Below.refl _ _) | (with_reducible assumption) | (with_reducible refine Below.setCell ?_ ?_ _) | (with_reducible refine Below.alloc ?_ ?_ _) | (with_reducible refine Below.drew ?_) | (with_reducible refine below_drewN ?_ _) | (with_reducible refine below_next ?_ (by with_reducible assumption)) | omega | (dsimp only; omega) | (simp only [World.size_alloc, World.size_setCell, World.size_drew, World.heap_drewN]; omega))))).mono ?_); rintro e w' ⟨rfl, hbl⟩; obtain ⟨hc, hf, hz⟩ := cif hbl; (try simp only [World.size_alloc, World.size_setCell, World.size_drew, World.heap_drewN] at hz)))
  all_goals (go_returns; refine ⟨congrArg (fun b => Ending.returned (Value.bool b)) ?_, by (try unfold Ext at *); (repeat' (first | (with_reducible exact Below.refl _ _) | (with_reducible assumption) | (with_reducible refine Below.setCell ?_ ?_ _) | (with_reducible refine Below.alloc ?_ ?_ _) | (with_reducible refine Below.drew ?_) | (with_reducible refine below_drewN ?_ _) | (with_reducible refine below_next ?_ (by with_reducible assumption)) | omega | (dsimp only; omega) | (simp only [World.size_alloc, World.size_setCell, World.size_drew, World.heap_drewN]; omega)))⟩; rw [HR.out]; clear B1 B2 SM; go_light; (try simp at *) <;> grind)

end Go.Proofs.YteepjngkbjbheaaDoor
