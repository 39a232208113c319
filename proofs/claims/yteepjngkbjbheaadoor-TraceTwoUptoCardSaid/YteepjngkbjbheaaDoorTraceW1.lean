/-
  Rows of values compared.
-/
import Derived.Test.YteepjngkbjbheaaDoorProg
import Derived.Test.YteepjngkbjbheaaDoorTraceDefs
import Derived.Test.YteepjngkbjbheaaDoorRegion
import Derived.LoopTactic
import Derived.Deep.LoopGhost
import Derived.Deep.QuietTactic
import Derived.BigQuiet
import Derived.Outline
namespace Go.Proofs.YteepjngkbjbheaaDoor
open Go.RowKit
set_option linter.unusedVariables false
set_option linter.unusedSimpArgs false

theorem eqV_yes (x : V) (w : World) : (binOp .neq 30 (.agg #[.int .i64 x.k, .int .u64 x.b, .int .i64 x.l]) (.agg #[.int .i64 x.k, .int .u64 x.b, .int .i64 x.l])).run Tryd.prog w = .ok (.bool false) w := by
  simp [go_sem]
theorem eqV_no (x y : V) (h : x ≠ y) (w : World) : (binOp .neq 30 (.agg #[.int .i64 x.k, .int .u64 x.b, .int .i64 x.l]) (.agg #[.int .i64 y.k, .int .u64 y.b, .int .i64 y.l])).run Tryd.prog w = .ok (.bool true) w := by
  obtain ⟨k1, b1, l1⟩ := x
  obtain ⟨k2, b2, l2⟩ := y
  by_cases h1 : k1 = k2
  · by_cases h2 : b1 = b2
    · by_cases h3 : l1 = l2
      · subst h1 h2 h3; exact absurd rfl h
      · simp [go_sem, *]
    · simp [go_sem, *]
  · simp [go_sem, *]

theorem eqlV_yes (x : V) (w : World) : (binOp .eql 30 (.agg #[.int .i64 x.k, .int .u64 x.b, .int .i64 x.l]) (.agg #[.int .i64 x.k, .int .u64 x.b, .int .i64 x.l])).run Tryd.prog w = .ok (.bool true) w := by
  simp [go_sem]
theorem eqlV_no (x y : V) (h : x ≠ y) (w : World) : (binOp .eql 30 (.agg #[.int .i64 x.k, .int .u64 x.b, .int .i64 x.l]) (.agg #[.int .i64 y.k, .int .u64 y.b, .int .i64 y.l])).run Tryd.prog w = .ok (.bool false) w := by
  obtain ⟨k1, b1, l1⟩ := x
  obtain ⟨k2, b2, l2⟩ := y
  by_cases h1 : k1 = k2
  · by_cases h2 : b1 = b2
    · by_cases h3 : l1 = l2
      · subst h1 h2 h3; exact absurd rfl h
      · simp [go_sem, *]
    · simp [go_sem, *]
  · simp [go_sem, *]

/-- The cells of the k-th value. -/
theorem RdL.vAt {w : World} {b off : Nat} {l : List V} (hc : ∀ (k : Nat) (a : V), l[k]? = some a → ∀ (j : Nat) (v : Value), (vCells a)[j]? = some v → w.cell? ⟨b, off + k * 3 + j, none⟩ = some v) {k : Nat} {x : V} (h : l[k]? = some x) :
    w.cell? ⟨b, off + k * 3, none⟩ = some (.int .i64 x.k) ∧ w.cell? ⟨b, off + k * 3 + 1, none⟩ = some (.int .u64 x.b) ∧ w.cell? ⟨b, off + k * 3 + 2, none⟩ = some (.int .i64 x.l) :=
  ⟨hc k x h 0 _ rfl, hc k x h 1 _ rfl, hc k x h 2 _ rfl⟩

set_option maxRecDepth 100000 in
set_option maxHeartbeats 4000000 in
theorem equalV_any (s1 s2 : Value) (l1 l2 : List V) (w : World) (h1 : RdL vCells 3 w s1 l1) (h2 : RdL vCells 3 w s2 l2) :
    Calls Tryd.prog 24 #[s1, s2] w (BoolP (l1 = l2) w) := by
  have m1 := h1.len
  have m2 := h2.len
  unfold maxLen at m1 m2
  by_cases hn : l1.length = l2.length
  · by_cases h0 : l1.length = 0
    · obtain ⟨A1, c1, rfl, _⟩ := h1.empty h0
      obtain ⟨A2, c2, rfl, _⟩ := h2.empty (by omega)
      have e : l1 = l2 := by rw [List.eq_nil_of_length_eq_zero h0, List.eq_nil_of_length_eq_zero (show l2.length = 0 by omega)]
      have HE := Lib.hid e
      clear e h1 h2 hn h0
      go_enter Tryd.func24, Tryd.ntmps24
      go_wp2
      go_loop [13] (fun i => i = .int .i64 0) (fun _ => 0)
      case atStart => rfl
      case round =>
        subst hrel
        go_wp2
        go_returns
        exact ⟨true, rfl, by simp [HE.out], Below.refl _ _⟩
    · obtain ⟨b1, o1, c1, rfl, _, _, hb1, hc1⟩ := h1.some_ (by omega)
      obtain ⟨b2, o2, c2, rfl, _, _, hb2, hc2⟩ := h2.some_ (by omega)
      rw [← hn]
      have HN := Lib.hid hn
      have H1 := Lib.hid hc1
      have H2 := Lib.hid hc2
      clear hn hc1 hc2 h1 h2 m2
      go_enter Tryd.func24, Tryd.ntmps24
      go_wp2
      go_loopw [13] (fun i wr => ∃ k : Nat, k ≤ l1.length ∧ i = .int .i64 k ∧ Ext w wr ∧ l1.take k = l2.take k) (fun i _ => l1.length - (intOf i).toNat)
      case atStart => exact ⟨0, by omega, rfl, Below.refl _ _, by simp⟩
      case round =>
        obtain ⟨k, hk, rfl, hX, ht⟩ := hrel
        have HT := Lib.hid ht
        clear ht
        by_cases hlt : k < l1.length
        · have e1 : l1[k]? = some l1[k] := List.getElem?_eq_getElem hlt
          have hlt2 : k < l2.length := by rw [← HN.out]; exact hlt
          have e2 : l2[k]? = some l2[k] := List.getElem?_eq_getElem hlt2
          obtain ⟨x, hx⟩ : ∃ x, x = l1[k] := ⟨_, rfl⟩
          obtain ⟨y, hy⟩ : ∃ y, y = l2[k] := ⟨_, rfl⟩
          rw [← hx] at e1
          rw [← hy] at e2
          obtain ⟨p1, p2, p3⟩ := RdL.vAt H1.out e1
          obtain ⟨q1, q2, q3⟩ := RdL.vAt H2.out e2
          have hXb := Ext.of hX
          have p1' := (hXb.cell (p := ⟨b1, _, none⟩) hb1).trans p1
          have p2' := (hXb.cell (p := ⟨b1, _, none⟩) hb1).trans p2
          have p3' := (hXb.cell (p := ⟨b1, _, none⟩) hb1).trans p3
          have q1' := (hXb.cell (p := ⟨b2, _, none⟩) hb2).trans q1
          have q2' := (hXb.cell (p := ⟨b2, _, none⟩) hb2).trans q2
          have q3' := (hXb.cell (p := ⟨b2, _, none⟩) hb2).trans q3
          have E1 := Lib.hid e1
          have E2 := Lib.hid e2
          clear hx hy p1 p2 p3 q1 q2 q3 e1 e2
          by_cases hxy : x = y
          · subst hxy
            have hrun := eqV_yes x
            go_wp2
            go_quiet (fail)
            go_wp2
            go_roundw
            case rel => exact ⟨k + 1, by omega, by go_num, by unfold Ext at *; (repeat' (first | (with_reducible exact Below.refl _ _) | (with_reducible assumption) | (with_reducible refine Below.setCell ?_ ?_ _) | (with_reducible refine Below.alloc ?_ ?_ _) | (with_reducible refine Below.drew ?_) | (with_reducible refine below_drewN ?_ _) | (with_reducible refine below_next ?_ (by with_reducible assumption)) | omega | (dsimp only; omega) | (simp only [World.size_alloc, World.size_setCell, World.size_drew, World.heap_drewN]; omega))), by rw [List.take_add_one, List.take_add_one, HT.out, E1.out, E2.out]⟩
            case measure => simp [intOf]; omega
          · have hrun := eqV_no x y hxy
            go_wp2
            go_quiet (fail)
            go_wp2
            go_returns
            exact ⟨false, rfl, by simp; intro h; have e1 := E1.out; have e2 := E2.out; rw [h, e2] at e1; injection e1 with e1; exact hxy e1.symm, by unfold Ext at *; (repeat' (first | (with_reducible exact Below.refl _ _) | (with_reducible assumption) | (with_reducible refine Below.setCell ?_ ?_ _) | (with_reducible refine Below.alloc ?_ ?_ _) | (with_reducible refine Below.drew ?_) | (with_reducible refine below_drewN ?_ _) | (with_reducible refine below_next ?_ (by with_reducible assumption)) | omega | (dsimp only; omega) | (simp only [World.size_alloc, World.size_setCell, World.size_drew, World.heap_drewN]; omega)))⟩
        · have hkn : k = l1.length := by omega
          subst hkn
          go_wp2
          go_returns
          refine ⟨true, rfl, ?_, by unfold Ext at *; (repeat' (first | (with_reducible exact Below.refl _ _) | (with_reducible assumption) | (with_reducible refine Below.setCell ?_ ?_ _) | (with_reducible refine Below.alloc ?_ ?_ _) | (with_reducible refine Below.drew ?_) | (with_reducible refine below_drewN ?_ _) | (with_reducible refine below_next ?_ (by with_reducible assumption)) | omega | (dsimp only; omega) | (simp only [World.size_alloc, World.size_setCell, World.size_drew, World.heap_drewN]; omega)))⟩
          have ht := HT.out
          have hn := HN.out
          rw [List.take_of_length_le (Nat.le_refl _), List.take_of_length_le (by omega)] at ht
          simp [ht]
  · obtain ⟨A1, c1, rfl⟩ := h1.form
    obtain ⟨A2, c2, rfl⟩ := h2.form
    clear h1 h2
    have hne : ¬ l1 = l2 := fun h => hn (by rw [h])
    have HE := Lib.hid hne
    have hd : (((l1.length : Nat) : Int) != ((l2.length : Nat) : Int)) = true := by rw [bne_iff_ne]; omega
    clear hne hn
    go_enter Tryd.func24, Tryd.ntmps24
    go_wp2
    go_returns
    exact ⟨false, rfl, by simp [HE.out], Below.refl _ _⟩

end Go.Proofs.YteepjngkbjbheaaDoor
