/-
  The statement's same: the same tokens but for their places.
-/
import Derived.Test.YteplbbjmbhgllaaGreatDoorLexM32
import Derived.Test.YteplbbjmbhgllaaGreatDoorLexLaw18
namespace Go.Proofs.YteplbbjmbhgllaaGreatDoor
open Go.RowKit
set_option linter.unusedVariables false
set_option linter.unusedSimpArgs false

theorem strip_at {l m : List Lx.Tok} (h : l.map Lx.strip = m.map Lx.strip) {k : Nat} {x : Lx.Tok} (hx : l[k]? = some x) : ∃ y, m[k]? = some y ∧ y.kind = x.kind ∧ y.text = x.text ∧ y.bits = x.bits ∧ y.data = x.data := by
  have := congrArg (·[k]?) h
  simp only [List.getElem?_map, hx, Option.map_some] at this
  cases hm : m[k]? with
  | none => rw [hm] at this; cases this
  | some y =>
    rw [hm] at this
    injection this with this
    have e1 := congrArg Lx.Tok.kind this
    have e2 := congrArg Lx.Tok.text this
    have e3 := congrArg Lx.Tok.bits this
    have e4 := congrArg Lx.Tok.data this
    exact ⟨y, rfl, e1.symm, e2.symm, e3.symm, e4.symm⟩
set_option maxRecDepth 100000 in
set_option maxHeartbeats 8000000 in
/-- same, without the places. -/
theorem same_free (l m : List Lx.Tok) (hst : l.map Lx.strip = m.map Lx.strip) (v1 v2 : Value) (w : World) (h1 : RdL tokC 6 w v1 l) (h2 : RdL tokC 6 w v2 m) :
    Calls Tryz.prog 10 #[v1, v2, .bool false] w fun e w' => e = .returned (.bool true) ∧ Below w.heap.size w w' := by
  have m1 := h1.len
  unfold maxLen at m1
  have hlm : m.length = l.length := by have := congrArg List.length hst; simpa using this.symm
  have HST := Lib.hid hst
  clear hst
  by_cases h0 : l.length = 0
  · obtain ⟨A1, c1, rfl, _⟩ := h1.empty h0
    obtain ⟨A2, c2, rfl, _⟩ := h2.empty (by omega)
    clear h1 h2
    go_enter Tryz.func10, Tryz.ntmps10
    go_wp2
    go_loop [17] (fun i => i = .int .i64 0) (fun _ => 0)
    case atStart => rfl
    case round =>
      subst hrel
      go_wp2
      go_returns
      exact ⟨rfl, by (repeat' (first | (with_reducible exact Below.refl _ _) | (with_reducible assumption) | (with_reducible refine Below.setCell ?_ ?_ _) | (with_reducible refine Below.alloc ?_ ?_ _) | (with_reducible refine Below.drew ?_) | (with_reducible refine _root_.Go.below_drewN ?_ _) | (with_reducible refine below_next ?_ (by with_reducible assumption)) | omega | (dsimp only; omega) | (simp only [World.size_alloc, World.size_setCell, World.size_drew, World.heap_drewN]; omega)))⟩
  · obtain ⟨b1, o1, c1, rfl, _, _, hb1, hc1⟩ := h1.some_ (by omega)
    obtain ⟨b2, o2, c2, hv2, _, _, hb2, hc2⟩ := h2.some_ (by omega)
    rw [hlm] at hv2
    subst hv2
    clear hlm
    have H1 := Lib.hid hc1
    have H2 := Lib.hid hc2
    clear hc1 hc2 h1 h2
    have hA1 := cell_alloc_if
    have hA2 := frozen_alloc_if
    have hA3 := cell_set_if
    go_enter Tryz.func10, Tryz.ntmps10
    go_wp2
    go_loopw [17] (fun i wr => ∃ k : Nat, k ≤ l.length ∧ i = .int .i64 k ∧ Hid (Below w.heap.size w wr)) (fun i _ => l.length - (intOf i).toNat)
    case atStart => exact ⟨0, by omega, rfl, Lib.hid (by (repeat' (first | (with_reducible exact Below.refl _ _) | (with_reducible assumption) | (with_reducible refine Below.setCell ?_ ?_ _) | (with_reducible refine Below.alloc ?_ ?_ _) | (with_reducible refine Below.drew ?_) | (with_reducible refine _root_.Go.below_drewN ?_ _) | (with_reducible refine below_next ?_ (by with_reducible assumption)) | omega | (dsimp only; omega) | (simp only [World.size_alloc, World.size_setCell, World.size_drew, World.heap_drewN]; omega))))⟩
    case round =>
      obtain ⟨k, hk, rfl, HB⟩ := hrel
      by_cases hlt : k < l.length
      · have e1 : l[k]? = some l[k] := List.getElem?_eq_getElem hlt
        obtain ⟨x, hx⟩ : ∃ x, x = l[k] := ⟨_, rfl⟩
        rw [← hx] at e1
        obtain ⟨p0, p1, p2, p3, p4, p5⟩ := RdL.tAt H1.out e1
        obtain ⟨y, ey, y1, y2, y3, y4⟩ := strip_at HST.out e1
        obtain ⟨q0, q1, q2, q3, q4, q5⟩ := RdL.tAt H2.out ey
        rw [y1] at q0
        rw [y2] at q3
        rw [y3] at q4
        rw [y4] at q5
        clear y1 y2 y3 y4 ey
        have p0 := (HB.out.cell (p := ⟨b1, _, none⟩) hb1).trans p0
        have p1 := (HB.out.cell (p := ⟨b1, _, none⟩) hb1).trans p1
        have p2 := (HB.out.cell (p := ⟨b1, _, none⟩) hb1).trans p2
        have p3 := (HB.out.cell (p := ⟨b1, _, none⟩) hb1).trans p3
        have p4 := (HB.out.cell (p := ⟨b1, _, none⟩) hb1).trans p4
        have p5 := (HB.out.cell (p := ⟨b1, _, none⟩) hb1).trans p5
        have q0 := (HB.out.cell (p := ⟨b2, _, none⟩) hb2).trans q0
        have q1 := (HB.out.cell (p := ⟨b2, _, none⟩) hb2).trans q1
        have q2 := (HB.out.cell (p := ⟨b2, _, none⟩) hb2).trans q2
        have q3 := (HB.out.cell (p := ⟨b2, _, none⟩) hb2).trans q3
        have q4 := (HB.out.cell (p := ⟨b2, _, none⟩) hb2).trans q4
        have q5 := (HB.out.cell (p := ⟨b2, _, none⟩) hb2).trans q5
        generalize ((x.kind : Nat) : Int) = kd at p0 q0
        generalize x.at_.1 = a1 at p1
        generalize x.at_.2 = a2 at p2
        generalize y.at_.1 = b1' at q1
        generalize y.at_.2 = b2' at q2
        generalize baB x.text = tx at p3 q3
        generalize ((x.bits : Nat) : Int) = bi at p4 q4
        generalize baB x.data = da at p5 q5
        have hz9 := HB.out.size
        clear hx e1
        go_upto_region 6 with (fail)
        have hrun := eqT_yes kd 0 0 tx bi da
        go_region
        all_goals (
          go_wp2
          go_roundw
          case rel => exact ⟨k + 1, by omega, by go_num, Lib.hid (by have := HB.out; (repeat' (first | (with_reducible exact Below.refl _ _) | (with_reducible assumption) | (with_reducible refine Below.setCell ?_ ?_ _) | (with_reducible refine Below.alloc ?_ ?_ _) | (with_reducible refine Below.drew ?_) | (with_reducible refine _root_.Go.below_drewN ?_ _) | (with_reducible refine below_next ?_ (by with_reducible assumption)) | omega | (dsimp only; omega) | (simp only [World.size_alloc, World.size_setCell, World.size_drew, World.heap_drewN]; omega))))⟩
          case measure => simp [intOf]; omega)
      · have hkn : k = l.length := by omega
        subst hkn
        go_wp2
        go_returns
        exact ⟨rfl, HB.out⟩
end Go.Proofs.YteplbbjmbhgllaaGreatDoor
