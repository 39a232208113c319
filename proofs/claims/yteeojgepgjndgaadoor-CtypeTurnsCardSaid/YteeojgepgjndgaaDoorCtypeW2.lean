/-
  A type seen by its form; types laid.
-/
import Derived.Test.YteeojgepgjndgaaDoorCtypeW1
import Derived.Test.YteeojgepgjndgaaDoorOwn
namespace Go.Proofs.YteeojgepgjndgaaDoor
open Go.RowKit
set_option linter.unusedVariables false
set_option linter.unusedSimpArgs false

section
variable (s l : Int) (f : Bool) (n : ByteArray) (A : Option Addr) (m c : Nat)
set_option maxHeartbeats 400000 in
theorem view_0 (w : World) : Calls Tryd.prog 48 #[.agg #[.int .i64 0, .int .i64 s, .int .i64 l, .bool f, .string n, .slice A m c]] w fun e w' => e = .returned .nilIface ∧ Below w.heap.size w w' := by
  have hA1 := cell_alloc_if
  have hA2 := frozen_alloc_if
  have hA3 := cell_set_if
  go_enter Tryd.func48, Tryd.ntmps48
  go_wp2
  go_returns
  exact ⟨rfl, by (repeat' (first | (with_reducible exact Below.refl _ _) | (with_reducible assumption) | (with_reducible refine Below.setCell ?_ ?_ _) | (with_reducible refine Below.alloc ?_ ?_ _) | (with_reducible refine Below.drew ?_) | (with_reducible refine below_drewN ?_ _) | (with_reducible refine below_next ?_ (by with_reducible assumption)) | omega | (dsimp only; omega) | (simp only [World.size_alloc, World.size_setCell, World.size_drew, World.heap_drewN]; omega)))⟩
set_option maxHeartbeats 400000 in
theorem view_1 (w : World) : Calls Tryd.prog 48 #[.agg #[.int .i64 1, .int .i64 s, .int .i64 l, .bool f, .string n, .slice A m c]] w fun e w' => e = .returned (.iface 99 (.agg #[])) ∧ Below w.heap.size w w' := by
  have hA1 := cell_alloc_if
  have hA2 := frozen_alloc_if
  have hA3 := cell_set_if
  go_enter Tryd.func48, Tryd.ntmps48
  go_wp2_with (go_at_call 78; (with_reducible refine (voidOf_any _ _ _ _ _ _ _ _ _).mono ?_); rintro e w' ⟨rfl, hbl⟩; obtain ⟨hc, hf, hz⟩ := cif hbl; (try simp only [World.size_alloc, World.size_setCell, World.size_drew, World.heap_drewN] at hz))
  go_returns
  exact ⟨rfl, by (repeat' (first | (with_reducible exact Below.refl _ _) | (with_reducible assumption) | (with_reducible refine Below.setCell ?_ ?_ _) | (with_reducible refine Below.alloc ?_ ?_ _) | (with_reducible refine Below.drew ?_) | (with_reducible refine below_drewN ?_ _) | (with_reducible refine below_next ?_ (by with_reducible assumption)) | omega | (dsimp only; omega) | (simp only [World.size_alloc, World.size_setCell, World.size_drew, World.heap_drewN]; omega)))⟩
set_option maxHeartbeats 400000 in
theorem view_2 (w : World) : Calls Tryd.prog 48 #[.agg #[.int .i64 2, .int .i64 s, .int .i64 l, .bool f, .string n, .slice A m c]] w fun e w' => e = .returned (.iface 69 (.agg #[.int .i64 s, .bool f])) ∧ Below w.heap.size w w' := by
  have hA1 := cell_alloc_if
  have hA2 := frozen_alloc_if
  have hA3 := cell_set_if
  go_enter Tryd.func48, Tryd.ntmps48
  go_wp2_with (go_at_call 57; (with_reducible refine (numberOf_any _ _ _ _ _ _ _ _ _).mono ?_); rintro e w' ⟨rfl, hbl⟩; obtain ⟨hc, hf, hz⟩ := cif hbl; (try simp only [World.size_alloc, World.size_setCell, World.size_drew, World.heap_drewN] at hz))
  go_returns
  exact ⟨rfl, by (repeat' (first | (with_reducible exact Below.refl _ _) | (with_reducible assumption) | (with_reducible refine Below.setCell ?_ ?_ _) | (with_reducible refine Below.alloc ?_ ?_ _) | (with_reducible refine Below.drew ?_) | (with_reducible refine below_drewN ?_ _) | (with_reducible refine below_next ?_ (by with_reducible assumption)) | omega | (dsimp only; omega) | (simp only [World.size_alloc, World.size_setCell, World.size_drew, World.heap_drewN]; omega)))⟩
set_option maxHeartbeats 400000 in
theorem view_3 (w : World) : Calls Tryd.prog 48 #[.agg #[.int .i64 3, .int .i64 s, .int .i64 l, .bool f, .string n, .slice A m c]] w fun e w' => e = .returned (.iface 75 (.agg #[])) ∧ Below w.heap.size w w' := by
  have hA1 := cell_alloc_if
  have hA2 := frozen_alloc_if
  have hA3 := cell_set_if
  go_enter Tryd.func48, Tryd.ntmps48
  go_wp2_with (go_at_call 79; (with_reducible refine (floatOf_any _ _ _ _ _ _ _ _ _).mono ?_); rintro e w' ⟨rfl, hbl⟩; obtain ⟨hc, hf, hz⟩ := cif hbl; (try simp only [World.size_alloc, World.size_setCell, World.size_drew, World.heap_drewN] at hz))
  go_returns
  exact ⟨rfl, by (repeat' (first | (with_reducible exact Below.refl _ _) | (with_reducible assumption) | (with_reducible refine Below.setCell ?_ ?_ _) | (with_reducible refine Below.alloc ?_ ?_ _) | (with_reducible refine Below.drew ?_) | (with_reducible refine below_drewN ?_ _) | (with_reducible refine below_next ?_ (by with_reducible assumption)) | omega | (dsimp only; omega) | (simp only [World.size_alloc, World.size_setCell, World.size_drew, World.heap_drewN]; omega)))⟩
set_option maxHeartbeats 400000 in
theorem view_6 (w : World) : Calls Tryd.prog 48 #[.agg #[.int .i64 6, .int .i64 s, .int .i64 l, .bool f, .string n, .slice A m c]] w fun e w' => e = .returned (.iface 77 (.agg #[.string n, .bool f])) ∧ Below w.heap.size w w' := by
  have hA1 := cell_alloc_if
  have hA2 := frozen_alloc_if
  have hA3 := cell_set_if
  go_enter Tryd.func48, Tryd.ntmps48
  go_wp2_with (go_at_call 58; (with_reducible refine (recordOf_any _ _ _ _ _ _ _ _ _).mono ?_); rintro e w' ⟨rfl, hbl⟩; obtain ⟨hc, hf, hz⟩ := cif hbl; (try simp only [World.size_alloc, World.size_setCell, World.size_drew, World.heap_drewN] at hz))
  go_returns
  exact ⟨rfl, by (repeat' (first | (with_reducible exact Below.refl _ _) | (with_reducible assumption) | (with_reducible refine Below.setCell ?_ ?_ _) | (with_reducible refine Below.alloc ?_ ?_ _) | (with_reducible refine Below.drew ?_) | (with_reducible refine below_drewN ?_ _) | (with_reducible refine below_next ?_ (by with_reducible assumption)) | omega | (dsimp only; omega) | (simp only [World.size_alloc, World.size_setCell, World.size_drew, World.heap_drewN]; omega)))⟩
variable {k1 s1 l1 : Int} {f1 : Bool} {n1 : ByteArray} {A1 : Option Addr} {m1 c1 : Nat} {ts : List Ty}
set_option maxHeartbeats 1000000 in
theorem view_4 (w : World) (h : RdL tyC 6 w (.slice A m c) ts) (hr : RdTs w ts) (e1 : tyC (head6 ts) = [.int .i64 k1, .int .i64 s1, .int .i64 l1, .bool f1, .string n1, .slice A1 m1 c1]) :
    Calls Tryd.prog 48 #[.agg #[.int .i64 4, .int .i64 s, .int .i64 l, .bool f, .string n, .slice A m c]] w fun e w' => e = .returned (.iface 81 (.agg #[.int .i64 k1, .int .i64 s1, .int .i64 l1, .bool f1, .string n1, .slice A1 m1 c1])) ∧ Below w.heap.size w w' := by
  have H := Lib.hid h
  have HR := Lib.hid hr
  have E1 := Lib.hid e1
  clear h hr e1
  have hA1 := cell_alloc_if
  have hA2 := frozen_alloc_if
  have hA3 := cell_set_if
  go_enter Tryd.func48, Tryd.ntmps48
  go_wp2_with (go_at_call 54; (with_reducible refine (pointerOf_any _ _ _ _ _ _ _ _ _ (H.out.next (by (repeat' (first | (with_reducible exact Below.refl _ _) | (with_reducible assumption) | (with_reducible refine Below.setCell ?_ ?_ _) | (with_reducible refine Below.alloc ?_ ?_ _) | (with_reducible refine Below.drew ?_) | (with_reducible refine below_drewN ?_ _) | (with_reducible refine below_next ?_ (by with_reducible assumption)) | omega | (dsimp only; omega) | (simp only [World.size_alloc, World.size_setCell, World.size_drew, World.heap_drewN]; omega))))) (HR.out.next (by (repeat' (first | (with_reducible exact Below.refl _ _) | (with_reducible assumption) | (with_reducible refine Below.setCell ?_ ?_ _) | (with_reducible refine Below.alloc ?_ ?_ _) | (with_reducible refine Below.drew ?_) | (with_reducible refine below_drewN ?_ _) | (with_reducible refine below_next ?_ (by with_reducible assumption)) | omega | (dsimp only; omega) | (simp only [World.size_alloc, World.size_setCell, World.size_drew, World.heap_drewN]; omega))))) E1.out).mono ?_); rintro e w' ⟨rfl, hbl⟩; obtain ⟨hc, hf, hz⟩ := cif hbl; (try simp only [World.size_alloc, World.size_setCell, World.size_drew, World.heap_drewN] at hz))
  go_returns
  exact ⟨rfl, by (repeat' (first | (with_reducible exact Below.refl _ _) | (with_reducible assumption) | (with_reducible refine Below.setCell ?_ ?_ _) | (with_reducible refine Below.alloc ?_ ?_ _) | (with_reducible refine Below.drew ?_) | (with_reducible refine below_drewN ?_ _) | (with_reducible refine below_next ?_ (by with_reducible assumption)) | omega | (dsimp only; omega) | (simp only [World.size_alloc, World.size_setCell, World.size_drew, World.heap_drewN]; omega)))⟩
set_option maxHeartbeats 1000000 in
theorem view_5 (w : World) (h : RdL tyC 6 w (.slice A m c) ts) (hr : RdTs w ts) (e1 : tyC (head6 ts) = [.int .i64 k1, .int .i64 s1, .int .i64 l1, .bool f1, .string n1, .slice A1 m1 c1]) :
    Calls Tryd.prog 48 #[.agg #[.int .i64 5, .int .i64 s, .int .i64 l, .bool f, .string n, .slice A m c]] w fun e w' => e = .returned (.iface 79 (.agg #[.int .i64 k1, .int .i64 s1, .int .i64 l1, .bool f1, .string n1, .slice A1 m1 c1, .int .i64 l])) ∧ Below w.heap.size w w' := by
  have H := Lib.hid h
  have HR := Lib.hid hr
  have E1 := Lib.hid e1
  clear h hr e1
  have hA1 := cell_alloc_if
  have hA2 := frozen_alloc_if
  have hA3 := cell_set_if
  go_enter Tryd.func48, Tryd.ntmps48
  go_wp2_with (go_at_call 55; (with_reducible refine (arrayOf_any _ _ _ _ _ _ _ _ _ (H.out.next (by (repeat' (first | (with_reducible exact Below.refl _ _) | (with_reducible assumption) | (with_reducible refine Below.setCell ?_ ?_ _) | (with_reducible refine Below.alloc ?_ ?_ _) | (with_reducible refine Below.drew ?_) | (with_reducible refine below_drewN ?_ _) | (with_reducible refine below_next ?_ (by with_reducible assumption)) | omega | (dsimp only; omega) | (simp only [World.size_alloc, World.size_setCell, World.size_drew, World.heap_drewN]; omega))))) (HR.out.next (by (repeat' (first | (with_reducible exact Below.refl _ _) | (with_reducible assumption) | (with_reducible refine Below.setCell ?_ ?_ _) | (with_reducible refine Below.alloc ?_ ?_ _) | (with_reducible refine Below.drew ?_) | (with_reducible refine below_drewN ?_ _) | (with_reducible refine below_next ?_ (by with_reducible assumption)) | omega | (dsimp only; omega) | (simp only [World.size_alloc, World.size_setCell, World.size_drew, World.heap_drewN]; omega))))) E1.out).mono ?_); rintro e w' ⟨rfl, hbl⟩; obtain ⟨hc, hf, hz⟩ := cif hbl; (try simp only [World.size_alloc, World.size_setCell, World.size_drew, World.heap_drewN] at hz))
  go_returns
  exact ⟨rfl, by (repeat' (first | (with_reducible exact Below.refl _ _) | (with_reducible assumption) | (with_reducible refine Below.setCell ?_ ?_ _) | (with_reducible refine Below.alloc ?_ ?_ _) | (with_reducible refine Below.drew ?_) | (with_reducible refine below_drewN ?_ _) | (with_reducible refine below_next ?_ (by with_reducible assumption)) | omega | (dsimp only; omega) | (simp only [World.size_alloc, World.size_setCell, World.size_drew, World.heap_drewN]; omega)))⟩
set_option maxHeartbeats 1000000 in
theorem view_7 (w : World) (h : RdL tyC 6 w (.slice A m c) ts) (hr : RdTs w ts) (e1 : tyC (head6 ts) = [.int .i64 k1, .int .i64 s1, .int .i64 l1, .bool f1, .string n1, .slice A1 m1 c1]) :
    Calls Tryd.prog 48 #[.agg #[.int .i64 7, .int .i64 s, .int .i64 l, .bool f, .string n, .slice A m c]] w fun e w' => e = .returned (.iface 95 (.agg #[.int .i64 k1, .int .i64 s1, .int .i64 l1, .bool f1, .string n1, .slice A1 m1 c1, .slice (restA A m) (m - 1) (restC m c)])) ∧ Below w.heap.size w w' := by
  have H := Lib.hid h
  have HR := Lib.hid hr
  have E1 := Lib.hid e1
  clear h hr e1
  have hA1 := cell_alloc_if
  have hA2 := frozen_alloc_if
  have hA3 := cell_set_if
  go_enter Tryd.func48, Tryd.ntmps48
  go_wp2_with (go_at_call 56; (with_reducible refine (functionOf_any _ _ _ _ _ _ _ _ _ (H.out.next (by (repeat' (first | (with_reducible exact Below.refl _ _) | (with_reducible assumption) | (with_reducible refine Below.setCell ?_ ?_ _) | (with_reducible refine Below.alloc ?_ ?_ _) | (with_reducible refine Below.drew ?_) | (with_reducible refine below_drewN ?_ _) | (with_reducible refine below_next ?_ (by with_reducible assumption)) | omega | (dsimp only; omega) | (simp only [World.size_alloc, World.size_setCell, World.size_drew, World.heap_drewN]; omega))))) (HR.out.next (by (repeat' (first | (with_reducible exact Below.refl _ _) | (with_reducible assumption) | (with_reducible refine Below.setCell ?_ ?_ _) | (with_reducible refine Below.alloc ?_ ?_ _) | (with_reducible refine Below.drew ?_) | (with_reducible refine below_drewN ?_ _) | (with_reducible refine below_next ?_ (by with_reducible assumption)) | omega | (dsimp only; omega) | (simp only [World.size_alloc, World.size_setCell, World.size_drew, World.heap_drewN]; omega))))) E1.out).mono ?_); rintro e w' ⟨rfl, hbl⟩; obtain ⟨hc, hf, hz⟩ := cif hbl; (try simp only [World.size_alloc, World.size_setCell, World.size_drew, World.heap_drewN] at hz))
  go_returns
  exact ⟨rfl, by (repeat' (first | (with_reducible exact Below.refl _ _) | (with_reducible assumption) | (with_reducible refine Below.setCell ?_ ?_ _) | (with_reducible refine Below.alloc ?_ ?_ _) | (with_reducible refine Below.drew ?_) | (with_reducible refine below_drewN ?_ _) | (with_reducible refine below_next ?_ (by with_reducible assumption)) | omega | (dsimp only; omega) | (simp only [World.size_alloc, World.size_setCell, World.size_drew, World.heap_drewN]; omega)))⟩
end

set_option maxHeartbeats 400000 in
theorem voidTy_any (w : World) : Calls Tryd.prog 76 #[.agg #[]] w fun e w' => e = .returned (.agg #[.int .i64 1, .int .i64 0, .int .i64 0, .bool false, .string ⟨#[]⟩, .slice none 0 0]) ∧ Below w.heap.size w w' := by
  have hA1 := cell_alloc_if
  have hA2 := frozen_alloc_if
  have hA3 := cell_set_if
  go_enter Tryd.func76, Tryd.ntmps76
  go_wp2
  go_returns
  exact ⟨rfl, by (repeat' (first | (with_reducible exact Below.refl _ _) | (with_reducible assumption) | (with_reducible refine Below.setCell ?_ ?_ _) | (with_reducible refine Below.alloc ?_ ?_ _) | (with_reducible refine Below.drew ?_) | (with_reducible refine below_drewN ?_ _) | (with_reducible refine below_next ?_ (by with_reducible assumption)) | omega | (dsimp only; omega) | (simp only [World.size_alloc, World.size_setCell, World.size_drew, World.heap_drewN]; omega)))⟩
set_option maxHeartbeats 400000 in
theorem floatTy_any (w : World) : Calls Tryd.prog 42 #[.agg #[]] w fun e w' => e = .returned (.agg #[.int .i64 3, .int .i64 0, .int .i64 0, .bool false, .string ⟨#[]⟩, .slice none 0 0]) ∧ Below w.heap.size w w' := by
  have hA1 := cell_alloc_if
  have hA2 := frozen_alloc_if
  have hA3 := cell_set_if
  go_enter Tryd.func42, Tryd.ntmps42
  go_wp2
  go_returns
  exact ⟨rfl, by (repeat' (first | (with_reducible exact Below.refl _ _) | (with_reducible assumption) | (with_reducible refine Below.setCell ?_ ?_ _) | (with_reducible refine Below.alloc ?_ ?_ _) | (with_reducible refine Below.drew ?_) | (with_reducible refine below_drewN ?_ _) | (with_reducible refine below_next ?_ (by with_reducible assumption)) | omega | (dsimp only; omega) | (simp only [World.size_alloc, World.size_setCell, World.size_drew, World.heap_drewN]; omega)))⟩
set_option maxHeartbeats 400000 in
theorem numberTy_any (s : Int) (u : Bool) (w : World) : Calls Tryd.prog 39 #[.agg #[.int .i64 s, .bool u]] w fun e w' => e = .returned (.agg #[.int .i64 2, .int .i64 s, .int .i64 0, .bool u, .string ⟨#[]⟩, .slice none 0 0]) ∧ Below w.heap.size w w' := by
  have hA1 := cell_alloc_if
  have hA2 := frozen_alloc_if
  have hA3 := cell_set_if
  go_enter Tryd.func39, Tryd.ntmps39
  go_wp2
  go_returns
  exact ⟨rfl, by (repeat' (first | (with_reducible exact Below.refl _ _) | (with_reducible assumption) | (with_reducible refine Below.setCell ?_ ?_ _) | (with_reducible refine Below.alloc ?_ ?_ _) | (with_reducible refine Below.drew ?_) | (with_reducible refine below_drewN ?_ _) | (with_reducible refine below_next ?_ (by with_reducible assumption)) | omega | (dsimp only; omega) | (simp only [World.size_alloc, World.size_setCell, World.size_drew, World.heap_drewN]; omega)))⟩
set_option maxHeartbeats 400000 in
theorem recordTy_any (n : ByteArray) (u : Bool) (w : World) : Calls Tryd.prog 43 #[.agg #[.string n, .bool u]] w fun e w' => e = .returned (.agg #[.int .i64 6, .int .i64 0, .int .i64 0, .bool u, .string n, .slice none 0 0]) ∧ Below w.heap.size w w' := by
  have hA1 := cell_alloc_if
  have hA2 := frozen_alloc_if
  have hA3 := cell_set_if
  go_enter Tryd.func43, Tryd.ntmps43
  go_wp2
  go_returns
  exact ⟨rfl, by (repeat' (first | (with_reducible exact Below.refl _ _) | (with_reducible assumption) | (with_reducible refine Below.setCell ?_ ?_ _) | (with_reducible refine Below.alloc ?_ ?_ _) | (with_reducible refine Below.drew ?_) | (with_reducible refine below_drewN ?_ _) | (with_reducible refine below_next ?_ (by with_reducible assumption)) | omega | (dsimp only; omega) | (simp only [World.size_alloc, World.size_setCell, World.size_drew, World.heap_drewN]; omega)))⟩

/-- A type of this make is answered. -/
def TypeP (P : Ty → Prop) (w : World) (e : Ending) (w' : World) : Prop := ∃ t, P t ∧ e = .returned (tyV t) ∧ RdT w' t ∧ Below w.heap.size w w'
theorem RdL.one {w : World} {b : Nat} {t : Ty} {k s l : Int} {f : Bool} {n : ByteArray} {A : Option Addr} {m c : Nat} (e : tyC t = [.int .i64 k, .int .i64 s, .int .i64 l, .bool f, .string n, .slice A m c]) (hb : b < w.heap.size)
    (h : w.cell? ⟨b, 0, none⟩ = some (.int .i64 k) ∧ w.cell? ⟨b, 1, none⟩ = some (.int .i64 s) ∧ w.cell? ⟨b, 2, none⟩ = some (.int .i64 l) ∧ w.cell? ⟨b, 3, none⟩ = some (.bool f) ∧ w.cell? ⟨b, 4, none⟩ = some (.string n) ∧ w.cell? ⟨b, 5, none⟩ = some (.slice A m c)) :
    RdL tyC 6 w (.slice (some ⟨b, 0, none⟩) 1 1) [t] := by
  obtain ⟨h0, h1, h2, h3, h4, h5⟩ := h
  refine ⟨_, _, rfl, Nat.le_refl _, by decide, fun _ => ⟨b, 0, rfl, hb, fun i a ha j v hv => ?_⟩⟩
  cases i with
  | succ i => simp at ha
  | zero =>
    simp at ha; subst ha
    rw [e] at hv
    match j, hv with
    | 0, hv => simp at hv; subst hv; exact h0
    | 1, hv => simp at hv; subst hv; exact h1
    | 2, hv => simp at hv; subst hv; exact h2
    | 3, hv => simp at hv; subst hv; exact h3
    | 4, hv => simp at hv; subst hv; exact h4
    | 5, hv => simp at hv; subst hv; exact h5
section
variable (k s l : Int) (f : Bool) (n : ByteArray) (A : Option Addr) (m c : Nat)
set_option maxHeartbeats 1000000 in
theorem pointerTy_any (t : Ty) (w : World) (h : RdT w t) (e : tyC t = [.int .i64 k, .int .i64 s, .int .i64 l, .bool f, .string n, .slice A m c]) :
    Calls Tryd.prog 45 #[.agg #[.int .i64 k, .int .i64 s, .int .i64 l, .bool f, .string n, .slice A m c]] w (TypeP (fun x => ∃ sv, x = .ptr sv t ∧ ∀ b, sv.ownBlock = some b → w.heap.size ≤ b) w) := by
  have H := Lib.hid h
  have E1 := Lib.hid e
  clear h e
  have hA1 := cell_alloc_if
  have hA2 := frozen_alloc_if
  have hA3 := cell_set_if
  go_enter Tryd.func45, Tryd.ntmps45
  go_wp2
  go_returns
  refine ⟨.ptr _ t, ⟨_, rfl, fun b hb => by simp [Value.ownBlock] at hb; omega⟩, rfl, ⟨RdL.one E1.out ?_ ?_, H.out.next (by (repeat' (first | (with_reducible exact Below.refl _ _) | (with_reducible assumption) | (with_reducible refine Below.setCell ?_ ?_ _) | (with_reducible refine Below.alloc ?_ ?_ _) | (with_reducible refine Below.drew ?_) | (with_reducible refine below_drewN ?_ _) | (with_reducible refine below_next ?_ (by with_reducible assumption)) | omega | (dsimp only; omega) | (simp only [World.size_alloc, World.size_setCell, World.size_drew, World.heap_drewN]; omega))))⟩, by (repeat' (first | (with_reducible exact Below.refl _ _) | (with_reducible assumption) | (with_reducible refine Below.setCell ?_ ?_ _) | (with_reducible refine Below.alloc ?_ ?_ _) | (with_reducible refine Below.drew ?_) | (with_reducible refine below_drewN ?_ _) | (with_reducible refine below_next ?_ (by with_reducible assumption)) | omega | (dsimp only; omega) | (simp only [World.size_alloc, World.size_setCell, World.size_drew, World.heap_drewN]; omega)))⟩
  · simp
  · simp [go_sem, cell_alloc_if, *]
set_option maxHeartbeats 1000000 in
theorem arrayTy_any (d : Int) (t : Ty) (w : World) (h : RdT w t) (e : tyC t = [.int .i64 k, .int .i64 s, .int .i64 l, .bool f, .string n, .slice A m c]) :
    Calls Tryd.prog 44 #[.agg #[.int .i64 k, .int .i64 s, .int .i64 l, .bool f, .string n, .slice A m c, .int .i64 d]] w (TypeP (fun x => ∃ sv, x = .arr sv d t ∧ ∀ b, sv.ownBlock = some b → w.heap.size ≤ b) w) := by
  have H := Lib.hid h
  have E1 := Lib.hid e
  clear h e
  have hA1 := cell_alloc_if
  have hA2 := frozen_alloc_if
  have hA3 := cell_set_if
  go_enter Tryd.func44, Tryd.ntmps44
  go_wp2
  go_returns
  refine ⟨.arr _ d t, ⟨_, rfl, fun b hb => by simp [Value.ownBlock] at hb; omega⟩, rfl, ⟨RdL.one E1.out ?_ ?_, H.out.next (by (repeat' (first | (with_reducible exact Below.refl _ _) | (with_reducible assumption) | (with_reducible refine Below.setCell ?_ ?_ _) | (with_reducible refine Below.alloc ?_ ?_ _) | (with_reducible refine Below.drew ?_) | (with_reducible refine below_drewN ?_ _) | (with_reducible refine below_next ?_ (by with_reducible assumption)) | omega | (dsimp only; omega) | (simp only [World.size_alloc, World.size_setCell, World.size_drew, World.heap_drewN]; omega))))⟩, by (repeat' (first | (with_reducible exact Below.refl _ _) | (with_reducible assumption) | (with_reducible refine Below.setCell ?_ ?_ _) | (with_reducible refine Below.alloc ?_ ?_ _) | (with_reducible refine Below.drew ?_) | (with_reducible refine below_drewN ?_ _) | (with_reducible refine below_next ?_ (by with_reducible assumption)) | omega | (dsimp only; omega) | (simp only [World.size_alloc, World.size_setCell, World.size_drew, World.heap_drewN]; omega)))⟩
  · simp
  · simp [go_sem, cell_alloc_if, *]
theorem tyC_len (t : Ty) : (tyC t).length = 6 := by cases t <;> rfl
theorem tyC_one {w : World} {t : Ty} (h : RdT w t) : ∀ u ∈ tyC t, u.oneCell' = true := by
  obtain ⟨k, s, l, f, n, A, m, c, e⟩ := tyC_form t h
  rw [e]
  intro u hu
  simp only [List.mem_cons, List.not_mem_nil, or_false] at hu
  rcases hu with rfl | rfl | rfl | rfl | rfl | rfl <;> rfl
theorem ty_info : (Tryd.prog.info? 30).map (fun i => (i.zero, i.size, i.bytes)) = some (some (.agg #[.int .i64 0, .int .i64 0, .int .i64 0, .bool false, .string ⟨#[]⟩, .slice none 0 0]), 6, 72) := by kernel_rfl
set_option maxRecDepth 100000 in
set_option maxHeartbeats 1000000 in
theorem functionTy_any (r : Ty) (ps : List Ty) (A2 : Option Addr) (m2 c2 : Nat) (w : World) (h : RdT w r) (e : tyC r = [.int .i64 k, .int .i64 s, .int .i64 l, .bool f, .string n, .slice A m c]) (hp : RdL tyC 6 w (.slice A2 m2 c2) ps) (hps : RdTs w ps) (hlen : ps.length ≤ 1000000) :
    Calls Tryd.prog 96 #[.agg #[.int .i64 k, .int .i64 s, .int .i64 l, .bool f, .string n, .slice A m c, .slice A2 m2 c2]] w (TypeP (fun x => ∃ sv, x = .fn sv r ps ∧ ∀ b, sv.ownBlock = some b → w.heap.size ≤ b) w) := by
  obtain ⟨i0, hi0, hz0, hz1, hz2⟩ := info_parts ty_info
  have H := Lib.hid h
  have E1 := Lib.hid e
  have HP := Lib.hid hp
  have HPS := Lib.hid hps
  have HO : Hid (∀ a ∈ ps, ∀ u ∈ tyC a, u.oneCell' = true) := Lib.hid (fun a ha u hu => tyC_one (hps.mem a ha) u hu)
  have hl : Hid (tyC r = [Value.int IntKind.i64 k, .int .i64 s, .int .i64 l, .bool f, .string n, .slice A m c]) := Lib.hid e
  clear h e hp hps
  have hA1 := cell_alloc_if
  have hA2 := frozen_alloc_if
  have hA3 := cell_set_if
  go_enter Tryd.func96, Tryd.ntmps96
  go_wp2_with (at_builtin
               refine wpList_app (e := 30) (f := tyC) rfl _ _ 28 rfl (w.heap.size + 1 + 1) i0 _ 72 Tryd.underlying28 hi0 hz0 hz1 hz2 rfl (by decide) tyC_len _ [r] rfl (OwnL.lit _ _ [r] _ ?c0 ?c1 ?c2 rfl ?c3) A2 m2 c2 ps rfl ?c4 HO.out (by decide) ?c5 ?c6 ?_)
  case c0 => simp
  case c1 => simp
  case c2 => simp [maxLen]
  case c3 => simp [hl.out]
  case c4 => exact HP.out.next (by (repeat' (first | (with_reducible exact Below.refl _ _) | (with_reducible assumption) | (with_reducible refine Below.setCell ?_ ?_ _) | (with_reducible refine Below.alloc ?_ ?_ _) | (with_reducible refine Below.drew ?_) | (with_reducible refine below_drewN ?_ _) | (with_reducible refine below_next ?_ (by with_reducible assumption)) | omega | (dsimp only; omega) | (simp only [World.size_alloc, World.size_setCell, World.size_drew, World.heap_drewN]; omega))))
  case c5 => simp; omega
  case c6 => simp
  intro A' c' w1 hown hg hb hor
  obtain ⟨hc1, hf1, hz1'⟩ := lowif hb
  (try simp only [World.size_alloc, World.size_setCell, World.size_drew, World.heap_drewN] at hz1')
  have hw1 : Below w.heap.size w w1 := Below.trans (by (repeat' (first | (with_reducible exact Below.refl _ _) | (with_reducible assumption) | (with_reducible refine Below.setCell ?_ ?_ _) | (with_reducible refine Below.alloc ?_ ?_ _) | (with_reducible refine Below.drew ?_) | (with_reducible refine below_drewN ?_ _) | (with_reducible refine below_next ?_ (by with_reducible assumption)) | omega | (dsimp only; omega) | (simp only [World.size_alloc, World.size_setCell, World.size_drew, World.heap_drewN]; omega)))) (hb.mono (by omega))
  have HR := Lib.hid hown
  have HB := Lib.hid hw1
  clear hown hg hor hb hw1
  go_wp2
  ((try simp only [Exit.inBlock, Exit.then]); go_light; refine bodyPost_ret (by simp [results, Tryd.results96, go_sem, *, ↓IntWalk.iteOmega]; try rfl) rfl ?_)
  have hk : ∀ b, w.heap.size + 1 + 1 ≤ b → ((((((w1.setCell ⟨w.heap.size + 1, 0, none⟩ (.int .i64 7)).setCell ⟨w.heap.size + 1, 1, none⟩ (.int .i64 0)).setCell ⟨w.heap.size + 1, 2, none⟩ (.int .i64 0)).setCell ⟨w.heap.size + 1, 3, none⟩ (.bool false)).setCell ⟨w.heap.size + 1, 4, none⟩ (.string ⟨#[]⟩)).setCell ⟨w.heap.size + 1, 5, none⟩ (.slice A' (1 + ps.length) c')).heap[b]? = w1.heap[b]? := by
    intro b hb
    simp only [World.setCell, Array.getElem?_modify]
    repeat rw [if_neg (by omega)]
  refine ⟨.fn _ r ps, ⟨_, rfl, fun b hb => by have := (HR.out.lt hb).1; omega⟩, rfl, ?_, ?_⟩
  · refine ⟨(HR.out.keep fun b hb => hk b (HR.out.lt hb).1).rdl tyC_len, H.out.next ?_, HPS.out.next ?_⟩
    all_goals (have hb0 := HB.out; (repeat' (first | (with_reducible exact Below.refl _ _) | (with_reducible assumption) | (with_reducible refine Below.setCell ?_ ?_ _) | (with_reducible refine Below.alloc ?_ ?_ _) | (with_reducible refine Below.drew ?_) | (with_reducible refine below_drewN ?_ _) | (with_reducible refine below_next ?_ (by with_reducible assumption)) | omega | (dsimp only; omega) | (simp only [World.size_alloc, World.size_setCell, World.size_drew, World.heap_drewN]; omega))))
  · have hb0 := HB.out; (repeat' (first | (with_reducible exact Below.refl _ _) | (with_reducible assumption) | (with_reducible refine Below.setCell ?_ ?_ _) | (with_reducible refine Below.alloc ?_ ?_ _) | (with_reducible refine Below.drew ?_) | (with_reducible refine below_drewN ?_ _) | (with_reducible refine below_next ?_ (by with_reducible assumption)) | omega | (dsimp only; omega) | (simp only [World.size_alloc, World.size_setCell, World.size_drew, World.heap_drewN]; omega)))
end

/-- A type's cells, what it is seen as, and what it is made of. -/
theorem ty_view {w : World} (t : Ty) (h : RdT w t) : ∃ (k s l : Int) (f : Bool) (n : ByteArray) (A : Option Addr) (m c : Nat) (vw : Value), tyC t = [.int .i64 k, .int .i64 s, .int .i64 l, .bool f, .string n, .slice A m c] ∧
    (∀ W, Below w.heap.size w W → Calls Tryd.prog 48 #[.agg #[.int .i64 k, .int .i64 s, .int .i64 l, .bool f, .string n, .slice A m c]] W fun e w' => e = .returned vw ∧ Below W.heap.size W w') ∧
    ((t = .none ∧ k = 0 ∧ vw = .nilIface) ∨ (t = .void ∧ k = 1 ∧ vw = .iface 99 (.agg #[])) ∨ (t = .num s f ∧ k = 2 ∧ vw = .iface 69 (.agg #[.int .i64 s, .bool f])) ∨
     (t = .flt ∧ k = 3 ∧ vw = .iface 75 (.agg #[])) ∨ (t = .rcd f n ∧ k = 6 ∧ vw = .iface 77 (.agg #[.string n, .bool f])) ∨
     (∃ (t1 : Ty) (k1 s1 l1 : Int) (f1 : Bool) (n1 : ByteArray) (A1 : Option Addr) (m1 c1 : Nat), tyC t1 = [.int .i64 k1, .int .i64 s1, .int .i64 l1, .bool f1, .string n1, .slice A1 m1 c1] ∧ RdT w t1 ∧ RdL tyC 6 w (.slice A m c) [t1] ∧ t = .ptr (.slice A m c) t1 ∧ k = 4 ∧ vw = .iface 81 (.agg #[.int .i64 k1, .int .i64 s1, .int .i64 l1, .bool f1, .string n1, .slice A1 m1 c1])) ∨
     (∃ (t1 : Ty) (k1 s1 l1 : Int) (f1 : Bool) (n1 : ByteArray) (A1 : Option Addr) (m1 c1 : Nat), tyC t1 = [.int .i64 k1, .int .i64 s1, .int .i64 l1, .bool f1, .string n1, .slice A1 m1 c1] ∧ RdT w t1 ∧ RdL tyC 6 w (.slice A m c) [t1] ∧ t = .arr (.slice A m c) l t1 ∧ k = 5 ∧ vw = .iface 79 (.agg #[.int .i64 k1, .int .i64 s1, .int .i64 l1, .bool f1, .string n1, .slice A1 m1 c1, .int .i64 l])) ∨
     (∃ (t1 : Ty) (ps : List Ty) (k1 s1 l1 : Int) (f1 : Bool) (n1 : ByteArray) (A1 : Option Addr) (m1 c1 : Nat) (A2 : Option Addr) (m2 c2 : Nat), tyC t1 = [.int .i64 k1, .int .i64 s1, .int .i64 l1, .bool f1, .string n1, .slice A1 m1 c1] ∧ RdT w t1 ∧ RdL tyC 6 w (.slice A m c) (t1 :: ps) ∧ RdTs w ps ∧ RdL tyC 6 w (.slice A2 m2 c2) ps ∧ t = .fn (.slice A m c) t1 ps ∧ k = 7 ∧
       vw = .iface 95 (.agg #[.int .i64 k1, .int .i64 s1, .int .i64 l1, .bool f1, .string n1, .slice A1 m1 c1, .slice A2 m2 c2]))) := by
  cases t with
  | none => exact ⟨_, _, _, _, _, _, _, _, _, rfl, fun W _ => view_0 _ _ _ _ _ _ _ W, .inl ⟨rfl, rfl, rfl⟩⟩
  | void => exact ⟨_, _, _, _, _, _, _, _, _, rfl, fun W _ => view_1 _ _ _ _ _ _ _ W, .inr (.inl ⟨rfl, rfl, rfl⟩)⟩
  | num s u => exact ⟨_, _, _, _, _, _, _, _, _, rfl, fun W _ => view_2 _ _ _ _ _ _ _ W, .inr (.inr (.inl ⟨rfl, rfl, rfl⟩))⟩
  | flt => exact ⟨_, _, _, _, _, _, _, _, _, rfl, fun W _ => view_3 _ _ _ _ _ _ _ W, .inr (.inr (.inr (.inl ⟨rfl, rfl, rfl⟩)))⟩
  | rcd u n => exact ⟨_, _, _, _, _, _, _, _, _, rfl, fun W _ => view_6 _ _ _ _ _ _ _ W, .inr (.inr (.inr (.inr (.inl ⟨rfl, rfl, rfl⟩))))⟩
  | ptr sv t1 =>
    simp only [RdT] at h
    obtain ⟨A, c, rfl⟩ := h.1.form
    obtain ⟨k1, s1, l1, f1, n1, A1, m1, c1, e1⟩ := tyC_form t1 h.2
    exact ⟨_, _, _, _, _, _, _, _, _, rfl, fun W hb => view_4 (ts := [t1]) _ _ _ _ _ _ _ W (h.1.next hb) ⟨h.2.next hb, trivial⟩ e1, .inr (.inr (.inr (.inr (.inr (.inl ⟨t1, _, _, _, _, _, _, _, _, e1, h.2, h.1, rfl, rfl, rfl⟩)))))⟩
  | arr sv d t1 =>
    simp only [RdT] at h
    obtain ⟨A, c, rfl⟩ := h.1.form
    obtain ⟨k1, s1, l1, f1, n1, A1, m1, c1, e1⟩ := tyC_form t1 h.2
    exact ⟨_, _, _, _, _, _, _, _, _, rfl, fun W hb => view_5 (ts := [t1]) _ _ _ _ _ _ _ W (h.1.next hb) ⟨h.2.next hb, trivial⟩ e1, .inr (.inr (.inr (.inr (.inr (.inr (.inl ⟨t1, _, _, _, _, _, _, _, _, e1, h.2, h.1, rfl, rfl, rfl⟩))))))⟩
  | fn sv r ps =>
    simp only [RdT] at h
    obtain ⟨A, c, rfl⟩ := h.1.form
    obtain ⟨k1, s1, l1, f1, n1, A1, m1, c1, e1⟩ := tyC_form r h.2.1
    exact ⟨_, _, _, _, _, _, _, _, _, rfl, fun W hb => view_7 (ts := r :: ps) _ _ _ _ _ _ _ W (h.1.next hb) ⟨h.2.1.next hb, h.2.2.next hb⟩ e1, .inr (.inr (.inr (.inr (.inr (.inr (.inr ⟨r, ps, _, _, _, _, _, _, _, _, _, _, _, e1, h.2.1, h.1, h.2.2, h.1.rest, rfl, rfl, rfl⟩))))))⟩

end Go.Proofs.YteeojgepgjndgaaDoor
