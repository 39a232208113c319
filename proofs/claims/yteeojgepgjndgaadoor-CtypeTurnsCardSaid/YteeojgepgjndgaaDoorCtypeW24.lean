/-
  A type out of numbers, wherever these lie.
-/
import Derived.Test.YteeojgepgjndgaaDoorCtypeW13
namespace Go.Proofs.YteeojgepgjndgaaDoor
open Go.RowKit
set_option linter.unusedVariables false
set_option linter.unusedSimpArgs false

set_option maxRecDepth 100000 in
set_option maxHeartbeats 1000000 in
theorem one_nil (A : Option Addr) (m c : Nat) (w : World) (h : RdL intC 1 w (.slice A m c) []) :
    Calls Tryd.prog 11 #[.slice A m c] w (OneP (oneE []) w) := by
  have HN : Hid (∀ W, Below w.heap.size w W → Calls Tryd.prog 47 #[.slice A m c, .int .i64 0] W (MakeP A (.none, []) W)) := Lib.hid fun W hW => type_nil 61 A m c W (h.next hW)
  clear h
  have hA1 := cell_alloc_if
  have hA2 := frozen_alloc_if
  have hA3 := cell_set_if
  go_enter Tryd.func11, Tryd.ntmps11
  go_wp2_with (go_at_call 47; (with_reducible refine (HN.out _ (by (repeat' (first | (with_reducible exact Below.refl _ _) | (with_reducible assumption) | (with_reducible refine Below.setCell ?_ ?_ _) | (with_reducible refine Below.alloc ?_ ?_ _) | (with_reducible refine Below.drew ?_) | (with_reducible refine below_drewN ?_ _) | (with_reducible refine below_next ?_ (by with_reducible assumption)) | omega | (dsimp only; omega) | (simp only [World.size_alloc, World.size_setCell, World.size_drew, World.heap_drewN]; omega))))).mono ?_); rintro e w3 ⟨t, A3, c3, rfl, ht, hr3, hi3, hs3, hrd3, hb3⟩; obtain ⟨k1, s1, l1, f1, n1, A1, m1, c1, e1⟩ := tyC_form t hr3; rw [tyV_of e1]; obtain ⟨hc3, hf3, hz3⟩ := cif hb3; (try simp only [World.size_alloc, World.size_setCell, World.size_drew, World.heap_drewN] at hz3); have E1 := Lib.hid e1; have T3 := Lib.hid ht; clear hr3 hi3 hrd3 e1 ht hs3)
  ((try simp only [Exit.inBlock, Exit.then]); go_light; refine bodyPost_ret (by simp [results, Tryd.results11, go_sem, *, ↓IntWalk.iteOmega]; try rfl) rfl ?_)
  rw [← tyV_of E1.out]
  obtain rfl : t = .none := by
    have := T3.out
    cases t <;> simp [er] at this ⊢
  exact ⟨.none, rfl, by simp [er, oneE, mkE], by simp [RdT], by simp [InT], by (repeat' (first | (with_reducible exact Below.refl _ _) | (with_reducible assumption) | (with_reducible refine Below.setCell ?_ ?_ _) | (with_reducible refine Below.alloc ?_ ?_ _) | (with_reducible refine Below.drew ?_) | (with_reducible refine below_drewN ?_ _) | (with_reducible refine below_next ?_ (by with_reducible assumption)) | omega | (dsimp only; omega) | (simp only [World.size_alloc, World.size_setCell, World.size_drew, World.heap_drewN]; omega)))⟩
theorem one_free (l : List Int) (A : Option Addr) (m c : Nat) (w : World) (hl : ∀ x ∈ l, I64 x) (h : RdL intC 1 w (.slice A m c) l) :
    Calls Tryd.prog 11 #[.slice A m c] w (OneP (oneE l) w) := by
  by_cases h0 : l = []
  · subst h0; exact one_nil A m c w h
  · obtain ⟨b, off, c', e, _, _, hlt, _⟩ := h.some_ (by cases l with | nil => exact absurd rfl h0 | cons a l => simp)
    have e' := e
    injection e with e1 e2 e3
    subst e1
    exact one_any l _ m c w hl (fun a ha => by injection ha with ha; rw [← ha]; exact hlt) h
end Go.Proofs.YteeojgepgjndgaaDoor
