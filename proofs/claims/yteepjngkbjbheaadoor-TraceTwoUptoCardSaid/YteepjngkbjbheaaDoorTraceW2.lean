/-
  Events compared: the program's.
-/
import Derived.Test.YteepjngkbjbheaaDoorTraceW1
namespace Go.Proofs.YteepjngkbjbheaaDoor
open Go.RowKit
set_option linter.unusedVariables false
set_option linter.unusedSimpArgs false

set_option maxRecDepth 100000 in
set_option maxHeartbeats 4000000 in
theorem sameEvent_any (a b : Ev) (w : World) (h1 : RdL vCells 3 w a.sv a.args) (h2 : RdL vCells 3 w b.sv b.args) :
    Calls Tryd.prog 10 #[.agg #[.string a.name, a.sv, .int .i64 a.res.k, .int .u64 a.res.b, .int .i64 a.res.l], .agg #[.string b.name, b.sv, .int .i64 b.res.k, .int .u64 b.res.b, .int .i64 b.res.l]] w (BoolP (SameE a b) w) := by
  obtain ⟨A1, c1, e1⟩ := h1.form
  obtain ⟨A2, c2, e2⟩ := h2.form
  obtain ⟨n1, s1, l1, r1⟩ := a
  obtain ⟨n2, s2, l2, r2⟩ := b
  dsimp only at *
  subst e1 e2
  have H1 := Lib.hid h1
  have H2 := Lib.hid h2
  clear h1 h2
  by_cases c1 : n1.toList = n2.toList
  · have hs : (n1.toList == n2.toList) = true := beq_iff_eq.2 c1
    have C1 := Lib.hid c1
    clear c1
    by_cases c2 : r1 = r2
    · subst c2
      have hr := eqlV_yes r1
      have hA1 := cell_alloc_if
      have hA2 := frozen_alloc_if
      have hA3 := cell_set_if
      go_enter Tryd.func10, Tryd.ntmps10
      go_wp2_with (go_at_call 24; (with_reducible refine (equalV_any _ _ _ _ _ (H1.out.next (by (repeat' (first | (with_reducible exact Below.refl _ _) | (with_reducible assumption) | (with_reducible refine Below.setCell ?_ ?_ _) | (with_reducible refine Below.alloc ?_ ?_ _) | (with_reducible refine Below.drew ?_) | (with_reducible refine below_drewN ?_ _) | (with_reducible refine below_next ?_ (by with_reducible assumption)) | omega | (dsimp only; omega) | (simp only [World.size_alloc, World.size_setCell, World.size_drew, World.heap_drewN]; omega))))) (H2.out.next (by (repeat' (first | (with_reducible exact Below.refl _ _) | (with_reducible assumption) | (with_reducible refine Below.setCell ?_ ?_ _) | (with_reducible refine Below.alloc ?_ ?_ _) | (with_reducible refine Below.drew ?_) | (with_reducible refine below_drewN ?_ _) | (with_reducible refine below_next ?_ (by with_reducible assumption)) | omega | (dsimp only; omega) | (simp only [World.size_alloc, World.size_setCell, World.size_drew, World.heap_drewN]; omega)))))).mono ?_); rintro e w1 ⟨v, rfl, hv, hbl⟩)
      go_returns
      exact ⟨v, rfl, by rw [hv]; simp [SameE, C1.out], by (repeat' (first | (with_reducible exact Below.refl _ _) | (with_reducible assumption) | (with_reducible refine Below.setCell ?_ ?_ _) | (with_reducible refine Below.alloc ?_ ?_ _) | (with_reducible refine Below.drew ?_) | (with_reducible refine below_drewN ?_ _) | (with_reducible refine below_next ?_ (by with_reducible assumption)) | omega | (dsimp only; omega) | (simp only [World.size_alloc, World.size_setCell, World.size_drew, World.heap_drewN]; omega)))⟩
    · have hr := eqlV_no r1 r2 c2
      go_enter Tryd.func10, Tryd.ntmps10
      go_wp2
      go_returns
      exact ⟨false, rfl, by simp [SameE, c2], by (repeat' (first | (with_reducible exact Below.refl _ _) | (with_reducible assumption) | (with_reducible refine Below.setCell ?_ ?_ _) | (with_reducible refine Below.alloc ?_ ?_ _) | (with_reducible refine Below.drew ?_) | (with_reducible refine below_drewN ?_ _) | (with_reducible refine below_next ?_ (by with_reducible assumption)) | omega | (dsimp only; omega) | (simp only [World.size_alloc, World.size_setCell, World.size_drew, World.heap_drewN]; omega)))⟩
  · have hs : (n1.toList == n2.toList) = false := beq_eq_false_iff_ne.2 c1
    go_enter Tryd.func10, Tryd.ntmps10
    go_wp2
    go_returns
    exact ⟨false, rfl, by simp [SameE, c1], by (repeat' (first | (with_reducible exact Below.refl _ _) | (with_reducible assumption) | (with_reducible refine Below.setCell ?_ ?_ _) | (with_reducible refine Below.alloc ?_ ?_ _) | (with_reducible refine Below.drew ?_) | (with_reducible refine below_drewN ?_ _) | (with_reducible refine below_next ?_ (by with_reducible assumption)) | omega | (dsimp only; omega) | (simp only [World.size_alloc, World.size_setCell, World.size_drew, World.heap_drewN]; omega)))⟩

set_option maxRecDepth 100000 in
set_option maxHeartbeats 4000000 in
theorem equalEvs_any (s1 s2 : Value) (l1 l2 : List Ev) (w : World) (h1 : RdEvs w s1 l1) (h2 : RdEvs w s2 l2) :
    Calls Tryd.prog 31 #[s1, s2, .func (.func 10) #[] #[]] w (BoolP (EqE l1 l2) w) := by
  have m1 := h1.1.len
  have m2 := h2.1.len
  unfold maxLen at m1 m2
  by_cases hn : l1.length = l2.length
  · by_cases h0 : l1.length = 0
    · obtain ⟨A1, c1, rfl, _⟩ := h1.1.empty h0
      obtain ⟨A2, c2, rfl, _⟩ := h2.1.empty (by omega)
      have e : EqE l1 l2 := by rw [List.eq_nil_of_length_eq_zero h0, List.eq_nil_of_length_eq_zero (show l2.length = 0 by omega)]; exact ⟨rfl, fun i x y h => by simp at h⟩
      have HE := Lib.hid e
      clear e h1 h2 hn h0
      go_enter Tryd.func31, Tryd.ntmps31
      go_wp2
      go_loop [17] (fun i => i = .int .i64 0) (fun _ => 0)
      case atStart => rfl
      case round =>
        subst hrel
        go_wp2
        go_returns
        exact ⟨true, rfl, by simp [HE.out], Below.refl _ _⟩
    · have k1 := h1.2
      have k2 := h2.2
      obtain ⟨b1, o1, c1, rfl, _, _, hb1, hc1⟩ := h1.1.some_ (by omega)
      obtain ⟨b2, o2, c2, rfl, _, _, hb2, hc2⟩ := h2.1.some_ (by omega)
      rw [← hn]
      have HN := Lib.hid hn
      have H1 := Lib.hid hc1
      have H2 := Lib.hid hc2
      have K1 := Lib.hid k1
      have K2 := Lib.hid k2
      clear hn hc1 hc2 h1 h2 m2 k1 k2
      have hA1 := cell_alloc_if
      have hA2 := frozen_alloc_if
      have hA3 := cell_set_if
      go_enter Tryd.func31, Tryd.ntmps31
      go_wp2
      go_loopw [17] (fun i wr => ∃ k : Nat, k ≤ l1.length ∧ i = .int .i64 k ∧ Ext w wr ∧ Hid (∀ (i : Nat) (x y : Ev), i < k → l1[i]? = some x → l2[i]? = some y → SameE x y)) (fun i _ => l1.length - (intOf i).toNat)
      case atStart => exact ⟨0, by omega, rfl, Below.refl _ _, fun i x y hi => absurd hi (by omega)⟩
      case round =>
        obtain ⟨k, hk, rfl, hX, HT⟩ := hrel
        by_cases hlt : k < l1.length
        · have hlt2 : k < l2.length := by rw [← HN.out]; exact hlt
          obtain ⟨x, e1⟩ : ∃ x, l1[k]? = some x := ⟨_, List.getElem?_eq_getElem hlt⟩
          obtain ⟨y, e2⟩ : ∃ y, l2[k]? = some y := ⟨_, List.getElem?_eq_getElem hlt2⟩
          obtain ⟨p1, p2, p3, p4, p5⟩ := RdL.evAt H1.out e1
          obtain ⟨q1, q2, q3, q4, q5⟩ := RdL.evAt H2.out e2
          have hXb := Ext.of hX
          have g1 := (K1.out x (List.mem_of_getElem? e1)).next hXb
          have g2 := (K2.out y (List.mem_of_getElem? e2)).next hXb
          obtain ⟨Ax, cx, ex⟩ := g1.form
          obtain ⟨Ay, cy, ey⟩ := g2.form
          have p1' := (hXb.cell (p := ⟨b1, _, none⟩) hb1).trans p1
          have p2' := (hXb.cell (p := ⟨b1, _, none⟩) hb1).trans p2
          have p3' := (hXb.cell (p := ⟨b1, _, none⟩) hb1).trans p3
          have p4' := (hXb.cell (p := ⟨b1, _, none⟩) hb1).trans p4
          have p5' := (hXb.cell (p := ⟨b1, _, none⟩) hb1).trans p5
          have q1' := (hXb.cell (p := ⟨b2, _, none⟩) hb2).trans q1
          have q2' := (hXb.cell (p := ⟨b2, _, none⟩) hb2).trans q2
          have q3' := (hXb.cell (p := ⟨b2, _, none⟩) hb2).trans q3
          have q4' := (hXb.cell (p := ⟨b2, _, none⟩) hb2).trans q4
          have q5' := (hXb.cell (p := ⟨b2, _, none⟩) hb2).trans q5
          have hwz := hXb.size
          have E1 := Lib.hid e1
          have E2 := Lib.hid e2
          have G1 := Lib.hid g1
          have G2 := Lib.hid g2
          obtain ⟨xn, xs, xl, xr⟩ := x
          obtain ⟨yn, ys, yl, yr⟩ := y
          dsimp only at *
          subst ex ey
          clear p1 p2 p3 p4 p5 q1 q2 q3 q4 q5 e1 e2 g1 g2
          go_wp2_with (go_at_call 10; (with_reducible refine (sameEvent_any ⟨xn, .slice Ax xl.length cx, xl, xr⟩ ⟨yn, .slice Ay yl.length cy, yl, yr⟩ _ (G1.out.next (by (repeat' (first | (with_reducible exact Below.refl _ _) | (with_reducible assumption) | (with_reducible refine Below.setCell ?_ ?_ _) | (with_reducible refine Below.alloc ?_ ?_ _) | (with_reducible refine Below.drew ?_) | (with_reducible refine below_drewN ?_ _) | (with_reducible refine below_next ?_ (by with_reducible assumption)) | omega | (dsimp only; omega) | (simp only [World.size_alloc, World.size_setCell, World.size_drew, World.heap_drewN]; omega))))) (G2.out.next (by (repeat' (first | (with_reducible exact Below.refl _ _) | (with_reducible assumption) | (with_reducible refine Below.setCell ?_ ?_ _) | (with_reducible refine Below.alloc ?_ ?_ _) | (with_reducible refine Below.drew ?_) | (with_reducible refine below_drewN ?_ _) | (with_reducible refine below_next ?_ (by with_reducible assumption)) | omega | (dsimp only; omega) | (simp only [World.size_alloc, World.size_setCell, World.size_drew, World.heap_drewN]; omega)))))).mono ?_); rintro e w1 ⟨v, rfl, hv, hbl⟩; have HV := Lib.hid hv; clear hv; cases v)
          · go_returns
            refine ⟨false, rfl, ?_, by unfold Ext at *; (repeat' (first | (with_reducible exact Below.refl _ _) | (with_reducible assumption) | (with_reducible refine Below.setCell ?_ ?_ _) | (with_reducible refine Below.alloc ?_ ?_ _) | (with_reducible refine Below.drew ?_) | (with_reducible refine below_drewN ?_ _) | (with_reducible refine below_next ?_ (by with_reducible assumption)) | omega | (dsimp only; omega) | (simp only [World.size_alloc, World.size_setCell, World.size_drew, World.heap_drewN]; omega)))⟩
            have hv := HV.out
            simp at hv
            simp
            intro h
            exact hv (h.2 k _ _ E1.out E2.out)
          · go_roundw
            case rel => exact ⟨k + 1, by omega, by go_num, by unfold Ext at *; (repeat' (first | (with_reducible exact Below.refl _ _) | (with_reducible assumption) | (with_reducible refine Below.setCell ?_ ?_ _) | (with_reducible refine Below.alloc ?_ ?_ _) | (with_reducible refine Below.drew ?_) | (with_reducible refine below_drewN ?_ _) | (with_reducible refine below_next ?_ (by with_reducible assumption)) | omega | (dsimp only; omega) | (simp only [World.size_alloc, World.size_setCell, World.size_drew, World.heap_drewN]; omega))), EqE.snoc HT.out E1.out E2.out (by simpa using HV.out)⟩
            case measure => simp [intOf]; omega
        · have hkn : k = l1.length := by omega
          subst hkn
          go_wp2
          go_returns
          refine ⟨true, rfl, ?_, by unfold Ext at *; (repeat' (first | (with_reducible exact Below.refl _ _) | (with_reducible assumption) | (with_reducible refine Below.setCell ?_ ?_ _) | (with_reducible refine Below.alloc ?_ ?_ _) | (with_reducible refine Below.drew ?_) | (with_reducible refine below_drewN ?_ _) | (with_reducible refine below_next ?_ (by with_reducible assumption)) | omega | (dsimp only; omega) | (simp only [World.size_alloc, World.size_setCell, World.size_drew, World.heap_drewN]; omega)))⟩
          have ht := HT.out
          have hn := HN.out
          simp
          refine ⟨hn, fun i x y hx hy => ht i x y ?_ hx hy⟩
          rcases Nat.lt_or_ge i l1.length with h1 | h1
          · exact h1
          · rw [List.getElem?_eq_none h1] at hx; cases hx
  · obtain ⟨A1, c1, rfl⟩ := h1.1.form
    obtain ⟨A2, c2, rfl⟩ := h2.1.form
    clear h1 h2
    have hne : ¬ EqE l1 l2 := fun h => hn h.1
    have HE := Lib.hid hne
    have hd : (((l1.length : Nat) : Int) != ((l2.length : Nat) : Int)) = true := by rw [bne_iff_ne]; omega
    clear hne hn
    go_enter Tryd.func31, Tryd.ntmps31
    go_wp2
    go_returns
    exact ⟨false, rfl, by simp [HE.out], Below.refl _ _⟩

end Go.Proofs.YteepjngkbjbheaaDoor
