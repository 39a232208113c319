/-
  A type's forms by their names: what stands in a type's cells, taken and laid.
-/
import Derived.Test.YteeojgepgjndgaaDoorProg
import Derived.Test.YteeojgepgjndgaaDoorCtypeDefs
import Derived.Test.YteeojgepgjndgaaDoorRegion
import Derived.Deep.QuietTactic
import Derived.BigQuiet
import Derived.Outline
import Derived.Deep.RegionHeld3
namespace Go.Proofs.YteeojgepgjndgaaDoor
open Go.RowKit
set_option linter.unusedVariables false
set_option linter.unusedSimpArgs false

theorem tyC_form {w : World} (t : Ty) (h : RdT w t) : ∃ (k s l : Int) (f : Bool) (n : ByteArray) (A : Option Addr) (m c : Nat), tyC t = [.int .i64 k, .int .i64 s, .int .i64 l, .bool f, .string n, .slice A m c] := by
  cases t <;> simp only [RdT] at h
  case ptr => obtain ⟨A, c, e⟩ := h.1.form; exact ⟨_, _, _, _, _, _, _, _, by rw [e]; rfl⟩
  case arr => obtain ⟨A, c, e⟩ := h.1.form; exact ⟨_, _, _, _, _, _, _, _, by rw [e]; rfl⟩
  case fn => obtain ⟨A, c, e⟩ := h.1.form; exact ⟨_, _, _, _, _, _, _, _, by rw [e]; rfl⟩
  all_goals exact ⟨_, _, _, _, _, _, _, _, rfl⟩
theorem tyV_of {t : Ty} {k s l : Int} {f : Bool} {n : ByteArray} {A : Option Addr} {m c : Nat} (h : tyC t = [.int .i64 k, .int .i64 s, .int .i64 l, .bool f, .string n, .slice A m c]) : tyV t = .agg #[.int .i64 k, .int .i64 s, .int .i64 l, .bool f, .string n, .slice A m c] := by
  unfold tyV; rw [h]
/-- The cells of the k-th type. -/
theorem RdL.tyAt {w : World} {b off : Nat} {ts : List Ty} (hc : ∀ (k : Nat) (a : Ty), ts[k]? = some a → ∀ (j : Nat) (v : Value), (tyC a)[j]? = some v → w.cell? ⟨b, off + k * 6 + j, none⟩ = some v) {i : Nat} {x : Ty} (h : ts[i]? = some x)
    {k s l : Int} {f : Bool} {n : ByteArray} {A : Option Addr} {m c : Nat} (e : tyC x = [.int .i64 k, .int .i64 s, .int .i64 l, .bool f, .string n, .slice A m c]) :
    w.cell? ⟨b, off + i * 6, none⟩ = some (.int .i64 k) ∧ w.cell? ⟨b, off + i * 6 + 1, none⟩ = some (.int .i64 s) ∧ w.cell? ⟨b, off + i * 6 + 2, none⟩ = some (.int .i64 l) ∧ w.cell? ⟨b, off + i * 6 + 3, none⟩ = some (.bool f) ∧ w.cell? ⟨b, off + i * 6 + 4, none⟩ = some (.string n) ∧ w.cell? ⟨b, off + i * 6 + 5, none⟩ = some (.slice A m c) :=
  ⟨hc i x h 0 _ (by rw [e]; rfl), hc i x h 1 _ (by rw [e]; rfl), hc i x h 2 _ (by rw [e]; rfl), hc i x h 3 _ (by rw [e]; rfl), hc i x h 4 _ (by rw [e]; rfl), hc i x h 5 _ (by rw [e]; rfl)⟩
theorem RdL.tyHead {w : World} {b off : Nat} {ts : List Ty} {x : Ty} (hc : ∀ (k : Nat) (a : Ty), (x :: ts)[k]? = some a → ∀ (j : Nat) (v : Value), (tyC a)[j]? = some v → w.cell? ⟨b, off + k * 6 + j, none⟩ = some v)
    {k s l : Int} {f : Bool} {n : ByteArray} {A : Option Addr} {m c : Nat} (e : tyC x = [.int .i64 k, .int .i64 s, .int .i64 l, .bool f, .string n, .slice A m c]) :
    w.cell? ⟨b, off, none⟩ = some (.int .i64 k) ∧ w.cell? ⟨b, off + 1, none⟩ = some (.int .i64 s) ∧ w.cell? ⟨b, off + 2, none⟩ = some (.int .i64 l) ∧ w.cell? ⟨b, off + 3, none⟩ = some (.bool f) ∧ w.cell? ⟨b, off + 4, none⟩ = some (.string n) ∧ w.cell? ⟨b, off + 5, none⟩ = some (.slice A m c) := by
  have h := RdL.tyAt hc (i := 0) (x := x) rfl e
  simpa using h
/-- The first of the types, else none. -/
def head6 : List Ty → Ty
  | [] => .none
  | t :: _ => t

set_option maxHeartbeats 400000 in
theorem none_any (k s l : Int) (f : Bool) (n : ByteArray) (A : Option Addr) (m c : Nat) (w : World) :
    Calls Tryd.prog 36 #[.agg #[.int .i64 k, .int .i64 s, .int .i64 l, .bool f, .string n, .slice A m c]] w fun e w' => e = .returned (.bool (k == 0)) ∧ Below w.heap.size w w' := by
  have hA1 := cell_alloc_if
  have hA2 := frozen_alloc_if
  have hA3 := cell_set_if
  go_enter Tryd.func36, Tryd.ntmps36
  go_wp2
  go_returns
  exact ⟨rfl, by (repeat' (first | (with_reducible exact Below.refl _ _) | (with_reducible assumption) | (with_reducible refine Below.setCell ?_ ?_ _) | (with_reducible refine Below.alloc ?_ ?_ _) | (with_reducible refine Below.drew ?_) | (with_reducible refine below_drewN ?_ _) | (with_reducible refine below_next ?_ (by with_reducible assumption)) | omega | (dsimp only; omega) | (simp only [World.size_alloc, World.size_setCell, World.size_drew, World.heap_drewN]; omega)))⟩

set_option maxHeartbeats 1000000 in
theorem kid_any (k s l : Int) (f : Bool) (n : ByteArray) (A : Option Addr) (m c : Nat) (ts : List Ty) (w : World) (h : RdL tyC 6 w (.slice A m c) ts) (hr : RdTs w ts) :
    Calls Tryd.prog 81 #[.agg #[.int .i64 k, .int .i64 s, .int .i64 l, .bool f, .string n, .slice A m c], .int .i64 0] w fun e w' => e = .returned (tyV (head6 ts)) ∧ Below w.heap.size w w' := by
  have m1 := h.len
  unfold maxLen at m1
  cases ts with
  | nil =>
    obtain ⟨A, c, e, _⟩ := h.empty rfl
    injection e with e1 e2 e3
    subst e1 e2 e3
    clear h
    have hA1 := cell_alloc_if
    have hA2 := frozen_alloc_if
    have hA3 := cell_set_if
    go_enter Tryd.func81, Tryd.ntmps81
    go_wp2
    all_goals (go_returns; exact ⟨rfl, by (repeat' (first | (with_reducible exact Below.refl _ _) | (with_reducible assumption) | (with_reducible refine Below.setCell ?_ ?_ _) | (with_reducible refine Below.alloc ?_ ?_ _) | (with_reducible refine Below.drew ?_) | (with_reducible refine below_drewN ?_ _) | (with_reducible refine below_next ?_ (by with_reducible assumption)) | omega | (dsimp only; omega) | (simp only [World.size_alloc, World.size_setCell, World.size_drew, World.heap_drewN]; omega)))⟩)
  | cons t ts =>
    obtain ⟨b, off, c, e, h1, h2, hb, hc⟩ := h.some_ (by simp)
    obtain ⟨k1, s1, l1, f1, n1, A1, m1, c1, e1⟩ := tyC_form t hr.1
    obtain ⟨p1, p2, p3, p4, p5, p6⟩ := RdL.tyHead hc e1
    rw [head6, tyV_of e1]
    clear hc h e1 hr
    injection e with e1 e2 e3
    subst e1 e2 e3
    have hm : 0 < (t :: ts).length := by simp
    generalize (t :: ts).length = m at *
    have hA1 := cell_alloc_if
    have hA2 := frozen_alloc_if
    have hA3 := cell_set_if
    go_enter Tryd.func81, Tryd.ntmps81
    go_wp2
    all_goals (go_returns; exact ⟨rfl, by (repeat' (first | (with_reducible exact Below.refl _ _) | (with_reducible assumption) | (with_reducible refine Below.setCell ?_ ?_ _) | (with_reducible refine Below.alloc ?_ ?_ _) | (with_reducible refine Below.drew ?_) | (with_reducible refine below_drewN ?_ _) | (with_reducible refine below_next ?_ (by with_reducible assumption)) | omega | (dsimp only; omega) | (simp only [World.size_alloc, World.size_setCell, World.size_drew, World.heap_drewN]; omega)))⟩)

/-- What is left of the slice behind its first. -/
def restA (A : Option Addr) (m : Nat) : Option Addr := if 1 < m then A.map (fun a => ⟨a.block, a.off + 6, none⟩) else none
def restC (m c : Nat) : Nat := if 1 < m then c - 1 else 0
theorem RdL.rest {w : World} {A : Option Addr} {m c : Nat} {ts : List Ty} (h : RdL tyC 6 w (.slice A m c) ts) : RdL tyC 6 w (.slice (restA A m) (m - 1) (restC m c)) ts.tail := by
  obtain ⟨A', c', e, h1, h2, h3⟩ := h
  injection e with e1 e2 e3
  subst e1 e2 e3
  unfold restA restC
  split
  · rename_i hm
    obtain ⟨b, off, rfl, hlt, hc⟩ := h3 (by omega)
    refine ⟨some ⟨b, off + 6, none⟩, c - 1, by simp, by simp; omega, by omega, fun hn => ⟨b, off + 6, rfl, hlt, fun k a ha j v hv => ?_⟩⟩
    have := hc (k + 1) a (by simpa using ha) j v hv
    rw [← this, show off + 6 + k * 6 + j = off + (k + 1) * 6 + j by omega]
  · rename_i hm
    have e : ts.tail = [] := List.eq_nil_of_length_eq_zero (by simp; omega)
    have e2 : ts.length - 1 = 0 := by omega
    rw [e, e2]
    exact RdL.nil _ _ _
theorem RdTs.tail {w : World} {ts : List Ty} (h : RdTs w ts) : RdTs w ts.tail := by
  cases ts with
  | nil => exact h
  | cons t ts => exact h.2
theorem RdTs.head {w : World} {ts : List Ty} (h : RdTs w ts) : RdT w (head6 ts) := by
  cases ts with
  | nil => simp [head6, RdT]
  | cons t ts => exact h.1

set_option maxHeartbeats 1000000 in
theorem rest_any (k s l : Int) (f : Bool) (n : ByteArray) (A : Option Addr) (m c : Nat) (ts : List Ty) (w : World) (h : RdL tyC 6 w (.slice A m c) ts) :
    Calls Tryd.prog 82 #[.agg #[.int .i64 k, .int .i64 s, .int .i64 l, .bool f, .string n, .slice A m c], .int .i64 1] w fun e w' => e = .returned (.slice (restA A m) (m - 1) (restC m c)) ∧ Below w.heap.size w w' := by
  have m1 := h.len
  unfold maxLen at m1
  obtain ⟨A', c', e, h1, h2, h3⟩ := h
  injection e with e1 e2 e3
  subst e1 e2 e3
  unfold restA restC
  by_cases hm : 1 < ts.length
  · obtain ⟨b, off, rfl, _, _⟩ := h3 (by omega)
    clear h3
    generalize ts.length = m at *
    rw [if_pos hm, if_pos hm]
    have hm0 : 0 < m := by omega
    have hm2 : (1 : Int) < m := by omega
    unfold maxLen at h2
    have hA1 := cell_alloc_if
    have hA2 := frozen_alloc_if
    have hA3 := cell_set_if
    go_enter Tryd.func82, Tryd.ntmps82
    go_wp2
    all_goals (go_returns; refine ⟨congrArg Ending.returned ?_, by (repeat' (first | (with_reducible exact Below.refl _ _) | (with_reducible assumption) | (with_reducible refine Below.setCell ?_ ?_ _) | (with_reducible refine Below.alloc ?_ ?_ _) | (with_reducible refine Below.drew ?_) | (with_reducible refine below_drewN ?_ _) | (with_reducible refine below_next ?_ (by with_reducible assumption)) | omega | (dsimp only; omega) | (simp only [World.size_alloc, World.size_setCell, World.size_drew, World.heap_drewN]; omega)))⟩; simp <;> omega)
  · clear h3
    generalize ts.length = m at *
    rw [if_neg hm, if_neg hm, show m - 1 = 0 by omega]
    have hm2 : ¬ (1 : Int) < m := by omega
    have hA1 := cell_alloc_if
    have hA2 := frozen_alloc_if
    have hA3 := cell_set_if
    go_enter Tryd.func82, Tryd.ntmps82
    go_wp2
    all_goals (go_returns; exact ⟨rfl, by (repeat' (first | (with_reducible exact Below.refl _ _) | (with_reducible assumption) | (with_reducible refine Below.setCell ?_ ?_ _) | (with_reducible refine Below.alloc ?_ ?_ _) | (with_reducible refine Below.drew ?_) | (with_reducible refine below_drewN ?_ _) | (with_reducible refine below_next ?_ (by with_reducible assumption)) | omega | (dsimp only; omega) | (simp only [World.size_alloc, World.size_setCell, World.size_drew, World.heap_drewN]; omega)))⟩)

section
variable (k s l : Int) (f : Bool) (n : ByteArray) (A : Option Addr) (m c : Nat)
set_option maxHeartbeats 400000 in
theorem numberOf_any (w : World) : Calls Tryd.prog 57 #[.agg #[.int .i64 k, .int .i64 s, .int .i64 l, .bool f, .string n, .slice A m c]] w fun e w' => e = .returned (.agg #[.int .i64 s, .bool f]) ∧ Below w.heap.size w w' := by
  have hA1 := cell_alloc_if
  have hA2 := frozen_alloc_if
  have hA3 := cell_set_if
  go_enter Tryd.func57, Tryd.ntmps57
  go_wp2
  go_returns
  exact ⟨rfl, by (repeat' (first | (with_reducible exact Below.refl _ _) | (with_reducible assumption) | (with_reducible refine Below.setCell ?_ ?_ _) | (with_reducible refine Below.alloc ?_ ?_ _) | (with_reducible refine Below.drew ?_) | (with_reducible refine below_drewN ?_ _) | (with_reducible refine below_next ?_ (by with_reducible assumption)) | omega | (dsimp only; omega) | (simp only [World.size_alloc, World.size_setCell, World.size_drew, World.heap_drewN]; omega)))⟩
set_option maxHeartbeats 400000 in
theorem recordOf_any (w : World) : Calls Tryd.prog 58 #[.agg #[.int .i64 k, .int .i64 s, .int .i64 l, .bool f, .string n, .slice A m c]] w fun e w' => e = .returned (.agg #[.string n, .bool f]) ∧ Below w.heap.size w w' := by
  have hA1 := cell_alloc_if
  have hA2 := frozen_alloc_if
  have hA3 := cell_set_if
  go_enter Tryd.func58, Tryd.ntmps58
  go_wp2
  go_returns
  exact ⟨rfl, by (repeat' (first | (with_reducible exact Below.refl _ _) | (with_reducible assumption) | (with_reducible refine Below.setCell ?_ ?_ _) | (with_reducible refine Below.alloc ?_ ?_ _) | (with_reducible refine Below.drew ?_) | (with_reducible refine below_drewN ?_ _) | (with_reducible refine below_next ?_ (by with_reducible assumption)) | omega | (dsimp only; omega) | (simp only [World.size_alloc, World.size_setCell, World.size_drew, World.heap_drewN]; omega)))⟩
set_option maxHeartbeats 400000 in
theorem voidOf_any (w : World) : Calls Tryd.prog 78 #[.agg #[.int .i64 k, .int .i64 s, .int .i64 l, .bool f, .string n, .slice A m c]] w fun e w' => e = .returned (.agg #[]) ∧ Below w.heap.size w w' := by
  have hA1 := cell_alloc_if
  have hA2 := frozen_alloc_if
  have hA3 := cell_set_if
  go_enter Tryd.func78, Tryd.ntmps78
  go_wp2
  go_returns
  exact ⟨rfl, by (repeat' (first | (with_reducible exact Below.refl _ _) | (with_reducible assumption) | (with_reducible refine Below.setCell ?_ ?_ _) | (with_reducible refine Below.alloc ?_ ?_ _) | (with_reducible refine Below.drew ?_) | (with_reducible refine below_drewN ?_ _) | (with_reducible refine below_next ?_ (by with_reducible assumption)) | omega | (dsimp only; omega) | (simp only [World.size_alloc, World.size_setCell, World.size_drew, World.heap_drewN]; omega)))⟩
set_option maxHeartbeats 400000 in
theorem floatOf_any (w : World) : Calls Tryd.prog 79 #[.agg #[.int .i64 k, .int .i64 s, .int .i64 l, .bool f, .string n, .slice A m c]] w fun e w' => e = .returned (.agg #[]) ∧ Below w.heap.size w w' := by
  have hA1 := cell_alloc_if
  have hA2 := frozen_alloc_if
  have hA3 := cell_set_if
  go_enter Tryd.func79, Tryd.ntmps79
  go_wp2
  go_returns
  exact ⟨rfl, by (repeat' (first | (with_reducible exact Below.refl _ _) | (with_reducible assumption) | (with_reducible refine Below.setCell ?_ ?_ _) | (with_reducible refine Below.alloc ?_ ?_ _) | (with_reducible refine Below.drew ?_) | (with_reducible refine below_drewN ?_ _) | (with_reducible refine below_next ?_ (by with_reducible assumption)) | omega | (dsimp only; omega) | (simp only [World.size_alloc, World.size_setCell, World.size_drew, World.heap_drewN]; omega)))⟩
variable {k1 s1 l1 : Int} {f1 : Bool} {n1 : ByteArray} {A1 : Option Addr} {m1 c1 : Nat} {ts : List Ty}
set_option maxHeartbeats 1000000 in
theorem pointerOf_any (w : World) (h : RdL tyC 6 w (.slice A m c) ts) (hr : RdTs w ts) (e1 : tyC (head6 ts) = [.int .i64 k1, .int .i64 s1, .int .i64 l1, .bool f1, .string n1, .slice A1 m1 c1]) :
    Calls Tryd.prog 54 #[.agg #[.int .i64 k, .int .i64 s, .int .i64 l, .bool f, .string n, .slice A m c]] w fun e w' => e = .returned (.agg #[.int .i64 k1, .int .i64 s1, .int .i64 l1, .bool f1, .string n1, .slice A1 m1 c1]) ∧ Below w.heap.size w w' := by
  have H := Lib.hid h
  have HR := Lib.hid hr
  have E1 := Lib.hid (tyV_of e1)
  clear h hr e1
  have hA1 := cell_alloc_if
  have hA2 := frozen_alloc_if
  have hA3 := cell_set_if
  go_enter Tryd.func54, Tryd.ntmps54
  go_wp2_with (go_at_call 81; (with_reducible refine (kid_any _ _ _ _ _ _ _ _ ts _ (H.out.next (by (repeat' (first | (with_reducible exact Below.refl _ _) | (with_reducible assumption) | (with_reducible refine Below.setCell ?_ ?_ _) | (with_reducible refine Below.alloc ?_ ?_ _) | (with_reducible refine Below.drew ?_) | (with_reducible refine below_drewN ?_ _) | (with_reducible refine below_next ?_ (by with_reducible assumption)) | omega | (dsimp only; omega) | (simp only [World.size_alloc, World.size_setCell, World.size_drew, World.heap_drewN]; omega))))) (HR.out.next (by (repeat' (first | (with_reducible exact Below.refl _ _) | (with_reducible assumption) | (with_reducible refine Below.setCell ?_ ?_ _) | (with_reducible refine Below.alloc ?_ ?_ _) | (with_reducible refine Below.drew ?_) | (with_reducible refine below_drewN ?_ _) | (with_reducible refine below_next ?_ (by with_reducible assumption)) | omega | (dsimp only; omega) | (simp only [World.size_alloc, World.size_setCell, World.size_drew, World.heap_drewN]; omega)))))).mono ?_); rw [E1.out]; rintro e w' ⟨rfl, hbl⟩; obtain ⟨hc, hf, hz⟩ := cif hbl; (try simp only [World.size_alloc, World.size_setCell, World.size_drew, World.heap_drewN] at hz))
  all_goals (((try simp only [Exit.inBlock, Exit.then]); go_light; refine bodyPost_ret (by simp [results, Tryd.results54, go_sem, *, ↓IntWalk.iteOmega]; try rfl) rfl ?_); exact ⟨rfl, by (repeat' (first | (with_reducible exact Below.refl _ _) | (with_reducible assumption) | (with_reducible refine Below.setCell ?_ ?_ _) | (with_reducible refine Below.alloc ?_ ?_ _) | (with_reducible refine Below.drew ?_) | (with_reducible refine below_drewN ?_ _) | (with_reducible refine below_next ?_ (by with_reducible assumption)) | omega | (dsimp only; omega) | (simp only [World.size_alloc, World.size_setCell, World.size_drew, World.heap_drewN]; omega)))⟩)
set_option maxHeartbeats 1000000 in
theorem arrayOf_any (w : World) (h : RdL tyC 6 w (.slice A m c) ts) (hr : RdTs w ts) (e1 : tyC (head6 ts) = [.int .i64 k1, .int .i64 s1, .int .i64 l1, .bool f1, .string n1, .slice A1 m1 c1]) :
    Calls Tryd.prog 55 #[.agg #[.int .i64 k, .int .i64 s, .int .i64 l, .bool f, .string n, .slice A m c]] w fun e w' => e = .returned (.agg #[.int .i64 k1, .int .i64 s1, .int .i64 l1, .bool f1, .string n1, .slice A1 m1 c1, .int .i64 l]) ∧ Below w.heap.size w w' := by
  have H := Lib.hid h
  have HR := Lib.hid hr
  have E1 := Lib.hid (tyV_of e1)
  clear h hr e1
  have hA1 := cell_alloc_if
  have hA2 := frozen_alloc_if
  have hA3 := cell_set_if
  go_enter Tryd.func55, Tryd.ntmps55
  go_wp2
  go_region_with (go_at_call 81; (with_reducible refine (kid_any _ _ _ _ _ _ _ _ ts _ (H.out.next (by (repeat' (first | (with_reducible exact Below.refl _ _) | (with_reducible assumption) | (with_reducible refine Below.setCell ?_ ?_ _) | (with_reducible refine Below.alloc ?_ ?_ _) | (with_reducible refine Below.drew ?_) | (with_reducible refine below_drewN ?_ _) | (with_reducible refine below_next ?_ (by with_reducible assumption)) | omega | (dsimp only; omega) | (simp only [World.size_alloc, World.size_setCell, World.size_drew, World.heap_drewN]; omega))))) (HR.out.next (by (repeat' (first | (with_reducible exact Below.refl _ _) | (with_reducible assumption) | (with_reducible refine Below.setCell ?_ ?_ _) | (with_reducible refine Below.alloc ?_ ?_ _) | (with_reducible refine Below.drew ?_) | (with_reducible refine below_drewN ?_ _) | (with_reducible refine below_next ?_ (by with_reducible assumption)) | omega | (dsimp only; omega) | (simp only [World.size_alloc, World.size_setCell, World.size_drew, World.heap_drewN]; omega)))))).mono ?_); rw [E1.out]; rintro e w' ⟨rfl, hbl⟩; obtain ⟨hc, hf, hz⟩ := cif hbl; (try simp only [World.size_alloc, World.size_setCell, World.size_drew, World.heap_drewN] at hz))
  all_goals (go_wp2; ((try simp only [Exit.inBlock, Exit.then]); go_light; refine bodyPost_ret (by simp [results, Tryd.results55, go_sem, *, ↓IntWalk.iteOmega]; try rfl) rfl ?_); exact ⟨rfl, by (repeat' (first | (with_reducible exact Below.refl _ _) | (with_reducible assumption) | (with_reducible refine Below.setCell ?_ ?_ _) | (with_reducible refine Below.alloc ?_ ?_ _) | (with_reducible refine Below.drew ?_) | (with_reducible refine below_drewN ?_ _) | (with_reducible refine below_next ?_ (by with_reducible assumption)) | omega | (dsimp only; omega) | (simp only [World.size_alloc, World.size_setCell, World.size_drew, World.heap_drewN]; omega)))⟩)
set_option maxHeartbeats 1000000 in
theorem functionOf_any (w : World) (h : RdL tyC 6 w (.slice A m c) ts) (hr : RdTs w ts) (e1 : tyC (head6 ts) = [.int .i64 k1, .int .i64 s1, .int .i64 l1, .bool f1, .string n1, .slice A1 m1 c1]) :
    Calls Tryd.prog 56 #[.agg #[.int .i64 k, .int .i64 s, .int .i64 l, .bool f, .string n, .slice A m c]] w fun e w' => e = .returned (.agg #[.int .i64 k1, .int .i64 s1, .int .i64 l1, .bool f1, .string n1, .slice A1 m1 c1, .slice (restA A m) (m - 1) (restC m c)]) ∧ Below w.heap.size w w' := by
  have H := Lib.hid h
  have HR := Lib.hid hr
  have E1 := Lib.hid (tyV_of e1)
  clear h hr e1
  have hA1 := cell_alloc_if
  have hA2 := frozen_alloc_if
  have hA3 := cell_set_if
  go_enter Tryd.func56, Tryd.ntmps56
  go_wp2
  go_region_with (first
    | (go_at_call 81; (with_reducible refine (kid_any _ _ _ _ _ _ _ _ ts _ (H.out.next (by (repeat' (first | (with_reducible exact Below.refl _ _) | (with_reducible assumption) | (with_reducible refine Below.setCell ?_ ?_ _) | (with_reducible refine Below.alloc ?_ ?_ _) | (with_reducible refine Below.drew ?_) | (with_reducible refine below_drewN ?_ _) | (with_reducible refine below_next ?_ (by with_reducible assumption)) | omega | (dsimp only; omega) | (simp only [World.size_alloc, World.size_setCell, World.size_drew, World.heap_drewN]; omega))))) (HR.out.next (by (repeat' (first | (with_reducible exact Below.refl _ _) | (with_reducible assumption) | (with_reducible refine Below.setCell ?_ ?_ _) | (with_reducible refine Below.alloc ?_ ?_ _) | (with_reducible refine Below.drew ?_) | (with_reducible refine below_drewN ?_ _) | (with_reducible refine below_next ?_ (by with_reducible assumption)) | omega | (dsimp only; omega) | (simp only [World.size_alloc, World.size_setCell, World.size_drew, World.heap_drewN]; omega)))))).mono ?_); rw [E1.out]; rintro e w' ⟨rfl, hbl⟩; obtain ⟨hc, hf, hz⟩ := cif hbl; (try simp only [World.size_alloc, World.size_setCell, World.size_drew, World.heap_drewN] at hz))
    | (go_at_call 82; (with_reducible refine (rest_any _ _ _ _ _ _ _ _ ts _ (H.out.next (by (repeat' (first | (with_reducible exact Below.refl _ _) | (with_reducible assumption) | (with_reducible refine Below.setCell ?_ ?_ _) | (with_reducible refine Below.alloc ?_ ?_ _) | (with_reducible refine Below.drew ?_) | (with_reducible refine below_drewN ?_ _) | (with_reducible refine below_next ?_ (by with_reducible assumption)) | omega | (dsimp only; omega) | (simp only [World.size_alloc, World.size_setCell, World.size_drew, World.heap_drewN]; omega)))))).mono ?_); rintro e w' ⟨rfl, hbl⟩; obtain ⟨hc, hf, hz⟩ := cif hbl; (try simp only [World.size_alloc, World.size_setCell, World.size_drew, World.heap_drewN] at hz)))
  all_goals (go_wp2; ((try simp only [Exit.inBlock, Exit.then]); go_light; refine bodyPost_ret (by simp [results, Tryd.results56, go_sem, *, ↓IntWalk.iteOmega]; try rfl) rfl ?_); exact ⟨rfl, by (repeat' (first | (with_reducible exact Below.refl _ _) | (with_reducible assumption) | (with_reducible refine Below.setCell ?_ ?_ _) | (with_reducible refine Below.alloc ?_ ?_ _) | (with_reducible refine Below.drew ?_) | (with_reducible refine below_drewN ?_ _) | (with_reducible refine below_next ?_ (by with_reducible assumption)) | omega | (dsimp only; omega) | (simp only [World.size_alloc, World.size_setCell, World.size_drew, World.heap_drewN]; omega)))⟩)
end

end Go.Proofs.YteeojgepgjndgaaDoor
