/-
  Two layouts told to be the same (the statement's own sameLayout).
-/
import Derived.Test.YteeojgepgjndgaaDoorCtypeW25
import Derived.Test.YteeojgepgjndgaaDoorCtypeW26
namespace Go.Proofs.YteeojgepgjndgaaDoor
open Go.RowKit
set_option linter.unusedVariables false
set_option linter.unusedSimpArgs false

theorem ba_ext {a b : ByteArray} (h : a.toList = b.toList) : a = b := by
  rw [ByteArray.toList_eq, ByteArray.toList_eq] at h
  exact ByteArray.ext (Array.toList_inj.1 h)
set_option maxRecDepth 100000 in
set_option maxHeartbeats 8000000 in
theorem same_layout (n : ByteArray) (u : Bool) (A1 A2 : Option Addr) (m c1 c2 : Nat) (S L : Int) (l1 l2 : List Fd) (w : World) (h1 : RdFs w (.slice A1 m c1) l1) (h2 : RdFs w (.slice A2 m c2) l2) (he : l1.map erF = l2.map erF) :
    Calls Tryd.prog 17 #[.agg #[.string n, .bool u, .slice A1 m c1, .int .i64 S, .int .i64 L], .agg #[.string n, .bool u, .slice A2 m c2, .int .i64 S, .int .i64 L]] w fun e w' => e = .returned (.bool true) ∧ Below w.heap.size w w' := by
  have ml1 : l1.length = m := by obtain ⟨_, _, e, _⟩ := h1.1; injection e with _ e _; exact e.symm
  have ml2 : l2.length = l1.length := by have := congrArg List.length he; simpa using this.symm
  subst ml1
  have bl := h1.1.len
  unfold maxLen at bl
  have H1 := Lib.hid h1
  have H2 := Lib.hid h2
  have HE := Lib.hid he
  have ML2 := Lib.hid ml2
  clear h1 h2 he ml2
  have hA1 := cell_alloc_if
  have hA2 := frozen_alloc_if
  have hA3 := cell_set_if
  go_enter Tryd.func17, Tryd.ntmps17
  go_wp2
  go_loopw [44] (fun i wr => ∃ k : Nat, k ≤ l1.length ∧ i = .int .i64 k ∧ Ext ((w.alloc (.cells #[.string n, .bool u, .slice A1 l1.length c1, .int .i64 S, .int .i64 L] 36)).alloc (.cells #[.string n, .bool u, .slice A2 l1.length c2, .int .i64 S, .int .i64 L] 36)) wr) (fun i _ => l1.length - (intOf i).toNat)
  case atStart => exact ⟨0, by omega, rfl, Below.refl _ _⟩
  case round =>
    obtain ⟨k, hk, rfl, hX⟩ := hrel
    have hXb := Ext.of hX
    have hXz := hXb.size
    simp only [World.size_alloc] at hXz
    have hwr : Below w.heap.size w wr := Below.trans (by (repeat' (first | (with_reducible exact Below.refl _ _) | (with_reducible assumption) | (with_reducible refine Below.setCell ?_ ?_ _) | (with_reducible refine Below.alloc ?_ ?_ _) | (with_reducible refine Below.drew ?_) | (with_reducible refine below_drewN ?_ _) | (with_reducible refine below_next ?_ (by with_reducible assumption)) | omega | (dsimp only; omega) | (simp only [World.size_alloc, World.size_setCell, World.size_drew, World.heap_drewN]; omega)))) (hXb.mono (by simp; omega))
    have g2 := hXb.cell (p := ⟨w.heap.size, 2, none⟩) (by show w.heap.size < _; simp; omega)
    have g3 := hXb.cell (p := ⟨w.heap.size + 1, 2, none⟩) (by show w.heap.size + 1 < _; simp)
    simp [cell_alloc_if] at g2 g3
    by_cases hlt : k < l1.length
    · obtain ⟨f1, e1⟩ : ∃ f, l1[k]? = some f := ⟨_, List.getElem?_eq_getElem hlt⟩
      obtain ⟨f2, e2⟩ : ∃ f, l2[k]? = some f := ⟨_, List.getElem?_eq_getElem (by rw [ML2.out]; exact hlt)⟩
      have hee : erF f1 = erF f2 := by
        have h := congrArg (fun l => l[k]?) HE.out
        simpa [e1, e2] using h
      unfold erF at hee
      injection hee with hn hee
      injection hee with het hof
      obtain ⟨b1, o1, d1, v1, _, _, hl1, hc1⟩ := (H1.out.1.next hwr).some_ (by omega)
      obtain ⟨b2, o2, d2, v2, _, _, hl2, hc2⟩ := (H2.out.1.next hwr).some_ (by rw [ML2.out]; omega)
      injection v1 with v10 v11 v12
      injection v2 with v20 v21 v22
      subst v10 v20
      have r1 : RdT wr f1.ty := (H1.out.2 f1 (List.mem_of_getElem? e1)).next hwr
      have r2 : RdT wr f2.ty := (H2.out.2 f2 (List.mem_of_getElem? e2)).next hwr
      obtain ⟨ka, sa, la, fa, na, Aa, ma, ca, ea⟩ := tyC_form f1.ty r1
      obtain ⟨kb, sb, lb, fb, nb, Ab, mb, cb, eb⟩ := tyC_form f2.ty r2
      obtain ⟨p0, p1, p2, p3, p4, p5, p6, p7⟩ := fd_cells hc1 e1 ea
      obtain ⟨q0, q1, q2, q3, q4, q5, q6, q7⟩ := fd_cells hc2 e2 eb
      have HSM : Hid (∀ W, Below wr.heap.size wr W → Calls Tryd.prog 18 #[.agg #[.int .i64 ka, .int .i64 sa, .int .i64 la, .bool fa, .string na, .slice Aa ma ca], .agg #[.int .i64 kb, .int .i64 sb, .int .i64 lb, .bool fb, .string nb, .slice Ab mb cb]] W fun e w' => e = .returned (.bool true) ∧ Below W.heap.size W w') := Lib.hid fun W hW => by
        have h := boolp_yes (rsame_any f1.ty f2.ty W (r1.next hW) (r2.next hW)) het
        rw [tyV_of ea, tyV_of eb] at h
        exact h
      have hn2 := ba_ext hn
      rw [← hn2] at q0
      rw [← hof] at q7
      generalize f1.name = fnm at *
      generalize f1.off = off at *
      clear v11 v12 v21 v22 hc1 hc2 e1 e2 het hof hn hn2 r1 r2 ea eb
      go_wp2
      refine wp_region_ext (by kernel_rfl) (by kernel_rfl) ?_
      repeat (first | go_big_quiet_skip | (go_big_quiet_want; go_big_quiet_op; first | go_big_quiet_on | (apply Exists.intro; refine ⟨fun W hW => ?_, ?_⟩; (focus (first
        | (go_at_call 18; have hWb := Ext.of hW; (with_reducible refine (HSM.out _ (by (repeat' (first | (with_reducible exact Below.refl _ _) | (with_reducible assumption) | (with_reducible refine Below.setCell ?_ ?_ _) | (with_reducible refine Below.alloc ?_ ?_ _) | (with_reducible refine Below.drew ?_) | (with_reducible refine below_drewN ?_ _) | (with_reducible refine below_next ?_ (by with_reducible assumption)) | omega | (dsimp only; omega) | (simp only [World.size_alloc, World.size_setCell, World.size_drew, World.heap_drewN]; omega))))).mono ?_); rintro e w1 ⟨rfl, hb⟩; exact ⟨rfl, Ext.next hW hb⟩)
        | exact rfl | (obtain ⟨hcW, hfW, hzW⟩ := cif (Ext.of hW); (try simp only [World.size_alloc, World.size_setCell, World.size_drew, World.heap_drewN] at hzW); simp [go_sem, *, ↓IntWalk.iteOmega]; (try exact rfl)))); go_big_quiet_on)))
      refine wpQuiet_nil ?_
      intro w' hw'
      have hbl := Ext.of hw'
      obtain ⟨hc, hf, hz⟩ := cif hbl
      (try simp only [World.size_alloc, World.size_setCell, World.size_drew, World.heap_drewN] at hz)
      clear hw'
      go_wp2
      go_roundw
      case rel => exact ⟨k + 1, by omega, by go_num, by unfold Ext at *; (repeat' (first | (with_reducible exact Below.refl _ _) | (with_reducible assumption) | (with_reducible refine Below.setCell ?_ ?_ _) | (with_reducible refine Below.alloc ?_ ?_ _) | (with_reducible refine Below.drew ?_) | (with_reducible refine below_drewN ?_ _) | (with_reducible refine below_next ?_ (by with_reducible assumption)) | omega | (dsimp only; omega) | (simp only [World.size_alloc, World.size_setCell, World.size_drew, World.heap_drewN]; omega)))⟩
      case measure => simp [intOf]; omega
    · go_wp2
      go_returns
      exact ⟨rfl, by (repeat' (first | (with_reducible exact Below.refl _ _) | (with_reducible assumption) | (with_reducible refine Below.setCell ?_ ?_ _) | (with_reducible refine Below.alloc ?_ ?_ _) | (with_reducible refine Below.drew ?_) | (with_reducible refine below_drewN ?_ _) | (with_reducible refine below_next ?_ (by with_reducible assumption)) | omega | (dsimp only; omega) | (simp only [World.size_alloc, World.size_setCell, World.size_drew, World.heap_drewN]; omega)))⟩
end Go.Proofs.YteeojgepgjndgaaDoor
