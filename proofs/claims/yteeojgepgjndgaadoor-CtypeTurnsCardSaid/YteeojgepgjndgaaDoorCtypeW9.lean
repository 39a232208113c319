/-
  Types told apart: the reference's.
-/
import Derived.Test.YteeojgepgjndgaaDoorCtypeW8
namespace Go.Proofs.YteeojgepgjndgaaDoor
open Go.RowKit
set_option linter.unusedVariables false
set_option linter.unusedSimpArgs false

def kids : Ty → List Ty
  | .ptr _ t => [t]
  | .arr _ _ t => [t]
  | .fn _ r ps => r :: ps
  | _ => []
def kN : Ty → Int
  | .none => 0
  | .void => 1
  | .num _ _ => 2
  | .flt => 3
  | .ptr _ _ => 4
  | .arr _ _ _ => 5
  | .rcd _ _ => 6
  | .fn _ _ _ => 7
theorem ty_kids {w : World} (t : Ty) (h : RdT w t) : ∃ (s l : Int) (f : Bool) (n : ByteArray) (A : Option Addr) (m c : Nat) (k1 s1 l1 : Int) (f1 : Bool) (n1 : ByteArray) (A1 : Option Addr) (m1 c1 : Nat), tyC t = [.int .i64 (kN t), .int .i64 s, .int .i64 l, .bool f, .string n, .slice A m c] ∧ RdL tyC 6 w (.slice A m c) (kids t) ∧ RdTs w (kids t) ∧ tyC (head6 (kids t)) = [.int .i64 k1, .int .i64 s1, .int .i64 l1, .bool f1, .string n1, .slice A1 m1 c1] := by
  cases t <;> simp only [RdT] at h
  case ptr sv t =>
    obtain ⟨A, c, rfl⟩ := h.1.form
    obtain ⟨k1, s1, l1, f1, n1, A1, m1, c1, e1⟩ := tyC_form t h.2
    exact ⟨_, _, _, _, _, _, _, k1, s1, l1, f1, n1, A1, m1, c1, rfl, h.1, ⟨h.2, trivial⟩, e1⟩
  case arr sv d t =>
    obtain ⟨A, c, rfl⟩ := h.1.form
    obtain ⟨k1, s1, l1, f1, n1, A1, m1, c1, e1⟩ := tyC_form t h.2
    exact ⟨_, _, _, _, _, _, _, k1, s1, l1, f1, n1, A1, m1, c1, rfl, h.1, ⟨h.2, trivial⟩, e1⟩
  case fn sv r ps =>
    obtain ⟨A, c, rfl⟩ := h.1.form
    obtain ⟨k1, s1, l1, f1, n1, A1, m1, c1, e1⟩ := tyC_form r h.2.1
    exact ⟨_, _, _, _, _, _, _, k1, s1, l1, f1, n1, A1, m1, c1, rfl, h.1, h.2, e1⟩
  all_goals exact ⟨_, _, _, _, _, _, _, _, _, _, _, _, _, _, _, rfl, RdL.nil _ _ _, trivial, rfl⟩
theorem none_iff (t : Ty) : t = .none ↔ kN t = 0 := by cases t <;> simp [kN]

set_option maxRecDepth 100000 in
set_option maxHeartbeats 1000000 in
theorem rsame_none_right (a : Ty) (w : World) (ha : RdT w a) : Calls Tryd.prog 18 #[tyV a, tyV .none] w (BoolP (er a = er .none) w) := by
  obtain ⟨s, l, f, n, A, m, c, k1, s1, l1, f1, n1, A1, m1, c1, e0, _⟩ := ty_kids a ha
  have hE := Lib.hid (show (er a = er .none) ↔ kN a = 0 by cases a <;> simp [er, kN])
  rw [tyV_of e0, show tyV .none = .agg #[.int .i64 0, .int .i64 0, .int .i64 0, .bool false, .string ⟨#[]⟩, .slice none 0 0] from rfl]
  clear e0 ha
  generalize kN a = k at *
  by_cases hk : k = 0
  · subst hk
    have hA1 := cell_alloc_if
    have hA2 := frozen_alloc_if
    have hA3 := cell_set_if
    go_enter Tryd.func18, Tryd.ntmps18
    go_wp2_with (go_at_call 36; (with_reducible refine (none_any _ _ _ _ _ _ _ _ _).mono ?_); rintro e w' ⟨rfl, hbl⟩; obtain ⟨hc, hf, hz⟩ := cif hbl; (try simp only [World.size_alloc, World.size_setCell, World.size_drew, World.heap_drewN] at hz))
    all_goals (go_returns; exact ⟨true, rfl, by simp [hE.out], by (repeat' (first | (with_reducible exact Below.refl _ _) | (with_reducible assumption) | (with_reducible refine Below.setCell ?_ ?_ _) | (with_reducible refine Below.alloc ?_ ?_ _) | (with_reducible refine Below.drew ?_) | (with_reducible refine below_drewN ?_ _) | (with_reducible refine below_next ?_ (by with_reducible assumption)) | omega | (dsimp only; omega) | (simp only [World.size_alloc, World.size_setCell, World.size_drew, World.heap_drewN]; omega)))⟩)
  · have hk2 : (k == 0) = false := by simpa using hk
    have hA1 := cell_alloc_if
    have hA2 := frozen_alloc_if
    have hA3 := cell_set_if
    go_enter Tryd.func18, Tryd.ntmps18
    go_wp2_with (go_at_call 36; (with_reducible refine (none_any _ _ _ _ _ _ _ _ _).mono ?_); rintro e w' ⟨rfl, hbl⟩; obtain ⟨hc, hf, hz⟩ := cif hbl; (try simp only [World.size_alloc, World.size_setCell, World.size_drew, World.heap_drewN] at hz))
    all_goals (go_returns; exact ⟨false, rfl, by simp [hE.out, hk], by (repeat' (first | (with_reducible exact Below.refl _ _) | (with_reducible assumption) | (with_reducible refine Below.setCell ?_ ?_ _) | (with_reducible refine Below.alloc ?_ ?_ _) | (with_reducible refine Below.drew ?_) | (with_reducible refine below_drewN ?_ _) | (with_reducible refine below_next ?_ (by with_reducible assumption)) | omega | (dsimp only; omega) | (simp only [World.size_alloc, World.size_setCell, World.size_drew, World.heap_drewN]; omega)))⟩)
set_option maxRecDepth 100000 in
set_option maxHeartbeats 1000000 in
theorem rsame_none_left (b : Ty) (w : World) (hb : RdT w b) (hn : ¬ b = .none) : Calls Tryd.prog 18 #[tyV .none, tyV b] w (BoolP (er .none = er b) w) := by
  obtain ⟨s, l, f, n, A, m, c, k1, s1, l1, f1, n1, A1, m1, c1, e0, _⟩ := ty_kids b hb
  have hE := Lib.hid (show ¬ (er .none = er b) by cases b <;> simp [er] at hn ⊢)
  rw [tyV_of e0, show tyV .none = .agg #[.int .i64 0, .int .i64 0, .int .i64 0, .bool false, .string ⟨#[]⟩, .slice none 0 0] from rfl]
  have hk : ¬ kN b = 0 := fun h => hn ((none_iff b).2 h)
  clear e0 hb hn
  generalize kN b = k at *
  have hk2 : (k == 0) = false := by simpa using hk
  have hA1 := cell_alloc_if
  have hA2 := frozen_alloc_if
  have hA3 := cell_set_if
  go_enter Tryd.func18, Tryd.ntmps18
  go_wp2_with (go_at_call 36; (with_reducible refine (none_any _ _ _ _ _ _ _ _ _).mono ?_); rintro e w' ⟨rfl, hbl⟩; obtain ⟨hc, hf, hz⟩ := cif hbl; (try simp only [World.size_alloc, World.size_setCell, World.size_drew, World.heap_drewN] at hz))
  all_goals (go_returns; exact ⟨false, rfl, by simp [hE.out], by (repeat' (first | (with_reducible exact Below.refl _ _) | (with_reducible assumption) | (with_reducible refine Below.setCell ?_ ?_ _) | (with_reducible refine Below.alloc ?_ ?_ _) | (with_reducible refine Below.drew ?_) | (with_reducible refine below_drewN ?_ _) | (with_reducible refine below_next ?_ (by with_reducible assumption)) | omega | (dsimp only; omega) | (simp only [World.size_alloc, World.size_setCell, World.size_drew, World.heap_drewN]; omega)))⟩)
set_option maxRecDepth 100000 in
set_option maxHeartbeats 1000000 in
theorem rsame_void (b : Ty) (w : World) (hb : RdT w b) (hn : ¬ b = .none) : Calls Tryd.prog 18 #[tyV .void, tyV b] w (BoolP (er .void = er b) w) := by
  obtain ⟨s, l, f, n, A, m, c, k1, s1, l1, f1, n1, A1, m1, c1, e0, _⟩ := ty_kids b hb
  have hE := Lib.hid (show (er .void = er b) ↔ kN b = 1 by cases b <;> simp [er, kN])
  rw [tyV_of e0, show tyV .void = .agg #[.int .i64 1, .int .i64 0, .int .i64 0, .bool false, .string ⟨#[]⟩, .slice none 0 0] from rfl]
  have hk : ¬ kN b = 0 := fun h => hn ((none_iff b).2 h)
  clear e0 hb hn
  generalize kN b = k at *
  have hk2 : (k == 0) = false := by simpa using hk
  have hA1 := cell_alloc_if
  have hA2 := frozen_alloc_if
  have hA3 := cell_set_if
  go_enter Tryd.func18, Tryd.ntmps18
  go_wp2_with (go_at_call 36; (with_reducible refine (none_any _ _ _ _ _ _ _ _ _).mono ?_); rintro e w' ⟨rfl, hbl⟩; obtain ⟨hc, hf, hz⟩ := cif hbl; (try simp only [World.size_alloc, World.size_setCell, World.size_drew, World.heap_drewN] at hz))
  all_goals (go_returns; exact ⟨_, rfl, by simp [hE.out], by (repeat' (first | (with_reducible exact Below.refl _ _) | (with_reducible assumption) | (with_reducible refine Below.setCell ?_ ?_ _) | (with_reducible refine Below.alloc ?_ ?_ _) | (with_reducible refine Below.drew ?_) | (with_reducible refine below_drewN ?_ _) | (with_reducible refine below_next ?_ (by with_reducible assumption)) | omega | (dsimp only; omega) | (simp only [World.size_alloc, World.size_setCell, World.size_drew, World.heap_drewN]; omega)))⟩)
set_option maxRecDepth 100000 in
set_option maxHeartbeats 1000000 in
theorem rsame_flt (b : Ty) (w : World) (hb : RdT w b) (hn : ¬ b = .none) : Calls Tryd.prog 18 #[tyV .flt, tyV b] w (BoolP (er .flt = er b) w) := by
  obtain ⟨s, l, f, n, A, m, c, k1, s1, l1, f1, n1, A1, m1, c1, e0, _⟩ := ty_kids b hb
  have hE := Lib.hid (show (er .flt = er b) ↔ kN b = 3 by cases b <;> simp [er, kN])
  rw [tyV_of e0, show tyV .flt = .agg #[.int .i64 3, .int .i64 0, .int .i64 0, .bool false, .string ⟨#[]⟩, .slice none 0 0] from rfl]
  have hk : ¬ kN b = 0 := fun h => hn ((none_iff b).2 h)
  clear e0 hb hn
  generalize kN b = k at *
  have hk2 : (k == 0) = false := by simpa using hk
  have hA1 := cell_alloc_if
  have hA2 := frozen_alloc_if
  have hA3 := cell_set_if
  go_enter Tryd.func18, Tryd.ntmps18
  go_wp2_with (go_at_call 36; (with_reducible refine (none_any _ _ _ _ _ _ _ _ _).mono ?_); rintro e w' ⟨rfl, hbl⟩; obtain ⟨hc, hf, hz⟩ := cif hbl; (try simp only [World.size_alloc, World.size_setCell, World.size_drew, World.heap_drewN] at hz))
  all_goals (go_returns; exact ⟨_, rfl, by simp [hE.out], by (repeat' (first | (with_reducible exact Below.refl _ _) | (with_reducible assumption) | (with_reducible refine Below.setCell ?_ ?_ _) | (with_reducible refine Below.alloc ?_ ?_ _) | (with_reducible refine Below.drew ?_) | (with_reducible refine below_drewN ?_ _) | (with_reducible refine below_next ?_ (by with_reducible assumption)) | omega | (dsimp only; omega) | (simp only [World.size_alloc, World.size_setCell, World.size_drew, World.heap_drewN]; omega)))⟩)

set_option maxRecDepth 100000 in
set_option maxHeartbeats 1000000 in
theorem rsame_num (s0 : Int) (u0 : Bool) (b : Ty) (w : World) (hb : RdT w b) (hn : ¬ b = .none) : Calls Tryd.prog 18 #[tyV (.num s0 u0), tyV b] w (BoolP (er (.num s0 u0) = er b) w) := by
  obtain ⟨s, l, f, n, A, m, c, k1, s1, l1, f1, n1, A1, m1, c1, e0, _⟩ := ty_kids b hb
  have hE := Lib.hid (show (er (.num s0 u0) = er b) ↔ kN b = 2 ∧ s0 = s ∧ u0 = f by cases b <;> simp [tyC, tyMk, kN] at e0 <;> simp [er, kN]; obtain ⟨rfl, _, rfl, _⟩ := e0; simp)
  rw [tyV_of e0, show tyV (.num s0 u0) = .agg #[.int .i64 2, .int .i64 s0, .int .i64 0, .bool u0, .string ⟨#[]⟩, .slice none 0 0] from rfl]
  have hk : ¬ kN b = 0 := fun h => hn ((none_iff b).2 h)
  clear e0 hb hn
  generalize kN b = k at *
  have hk2 : (k == 0) = false := by simpa using hk
  by_cases h2 : k = 2
  · subst h2
    have hA1 := cell_alloc_if
    have hA2 := frozen_alloc_if
    have hA3 := cell_set_if
    go_enter Tryd.func18, Tryd.ntmps18
    go_wp2_with (first | (go_at_call 36; (with_reducible refine (none_any _ _ _ _ _ _ _ _ _).mono ?_); rintro e w' ⟨rfl, hbl⟩; obtain ⟨hc, hf, hz⟩ := cif hbl; (try simp only [World.size_alloc, World.size_setCell, World.size_drew, World.heap_drewN] at hz)) | (go_at_call 57; (with_reducible refine (numberOf_any _ _ _ _ _ _ _ _ _).mono ?_); rintro e w' ⟨rfl, hbl⟩; obtain ⟨hc, hf, hz⟩ := cif hbl; (try simp only [World.size_alloc, World.size_setCell, World.size_drew, World.heap_drewN] at hz)))
    go_region_held3 (fun W => Ext w W ∧ W.cell? ⟨w.heap.size + 1, 0, none⟩ = some (.int .i64 2) ∧ W.cell? ⟨w.heap.size + 1, 1, none⟩ = some (.int .i64 s) ∧ W.cell? ⟨w.heap.size + 1, 2, none⟩ = some (.int .i64 l) ∧ W.cell? ⟨w.heap.size + 1, 3, none⟩ = some (.bool f) ∧ W.cell? ⟨w.heap.size + 1, 4, none⟩ = some (.string n) ∧ W.cell? ⟨w.heap.size + 1, 5, none⟩ = some (.slice A m c))
      (first | exact ⟨by unfold Ext at *; (repeat' (first | (with_reducible exact Below.refl _ _) | (with_reducible assumption) | (with_reducible refine Below.setCell ?_ ?_ _) | (with_reducible refine Below.alloc ?_ ?_ _) | (with_reducible refine Below.drew ?_) | (with_reducible refine below_drewN ?_ _) | (with_reducible refine below_next ?_ (by with_reducible assumption)) | omega | (dsimp only; omega) | (simp only [World.size_alloc, World.size_setCell, World.size_drew, World.heap_drewN]; omega))), by simp [*, ↓IntWalk.iteOmega], by simp [*, ↓IntWalk.iteOmega], by simp [*, ↓IntWalk.iteOmega], by simp [*, ↓IntWalk.iteOmega], by simp [*, ↓IntWalk.iteOmega], by simp [*, ↓IntWalk.iteOmega]⟩)
      (first | (go_at_call 57; (with_reducible refine (numberOf_any _ _ _ _ _ _ _ _ _).mono ?_); rintro e w' ⟨rfl, hbl⟩; obtain ⟨hc, hf, hz⟩ := cif hbl; (try simp only [World.size_alloc, World.size_setCell, World.size_drew, World.heap_drewN] at hz)))
    all_goals (go_wp2; all_goals (go_returns; refine ⟨_, rfl, ?_, by (repeat' (first | (with_reducible exact Below.refl _ _) | (with_reducible assumption) | (with_reducible refine Below.setCell ?_ ?_ _) | (with_reducible refine Below.alloc ?_ ?_ _) | (with_reducible refine Below.drew ?_) | (with_reducible refine below_drewN ?_ _) | (with_reducible refine below_next ?_ (by with_reducible assumption)) | omega | (dsimp only; omega) | (simp only [World.size_alloc, World.size_setCell, World.size_drew, World.heap_drewN]; omega)))⟩; clear hA1 hA2 hA3; rw [hE.out]; grind))
  · have h3 : (k == 2) = false := by simpa using h2
    have hA1 := cell_alloc_if
    have hA2 := frozen_alloc_if
    have hA3 := cell_set_if
    go_enter Tryd.func18, Tryd.ntmps18
    go_wp2_with (first | (go_at_call 36; (with_reducible refine (none_any _ _ _ _ _ _ _ _ _).mono ?_); rintro e w' ⟨rfl, hbl⟩; obtain ⟨hc, hf, hz⟩ := cif hbl; (try simp only [World.size_alloc, World.size_setCell, World.size_drew, World.heap_drewN] at hz)) | (go_at_call 57; (with_reducible refine (numberOf_any _ _ _ _ _ _ _ _ _).mono ?_); rintro e w' ⟨rfl, hbl⟩; obtain ⟨hc, hf, hz⟩ := cif hbl; (try simp only [World.size_alloc, World.size_setCell, World.size_drew, World.heap_drewN] at hz)))
    go_region_held3 (fun W => Ext w W ∧ W.cell? ⟨w.heap.size + 1, 0, none⟩ = some (.int .i64 k) ∧ W.cell? ⟨w.heap.size + 1, 1, none⟩ = some (.int .i64 s) ∧ W.cell? ⟨w.heap.size + 1, 2, none⟩ = some (.int .i64 l) ∧ W.cell? ⟨w.heap.size + 1, 3, none⟩ = some (.bool f) ∧ W.cell? ⟨w.heap.size + 1, 4, none⟩ = some (.string n) ∧ W.cell? ⟨w.heap.size + 1, 5, none⟩ = some (.slice A m c))
      (first | exact ⟨by unfold Ext at *; (repeat' (first | (with_reducible exact Below.refl _ _) | (with_reducible assumption) | (with_reducible refine Below.setCell ?_ ?_ _) | (with_reducible refine Below.alloc ?_ ?_ _) | (with_reducible refine Below.drew ?_) | (with_reducible refine below_drewN ?_ _) | (with_reducible refine below_next ?_ (by with_reducible assumption)) | omega | (dsimp only; omega) | (simp only [World.size_alloc, World.size_setCell, World.size_drew, World.heap_drewN]; omega))), by simp [*, ↓IntWalk.iteOmega], by simp [*, ↓IntWalk.iteOmega], by simp [*, ↓IntWalk.iteOmega], by simp [*, ↓IntWalk.iteOmega], by simp [*, ↓IntWalk.iteOmega], by simp [*, ↓IntWalk.iteOmega]⟩)
      (first | (go_at_call 57; (with_reducible refine (numberOf_any _ _ _ _ _ _ _ _ _).mono ?_); rintro e w' ⟨rfl, hbl⟩; obtain ⟨hc, hf, hz⟩ := cif hbl; (try simp only [World.size_alloc, World.size_setCell, World.size_drew, World.heap_drewN] at hz)))
    all_goals (go_wp2; go_returns; exact ⟨false, rfl, by simp [hE.out, h2], by (repeat' (first | (with_reducible exact Below.refl _ _) | (with_reducible assumption) | (with_reducible refine Below.setCell ?_ ?_ _) | (with_reducible refine Below.alloc ?_ ?_ _) | (with_reducible refine Below.drew ?_) | (with_reducible refine below_drewN ?_ _) | (with_reducible refine below_next ?_ (by with_reducible assumption)) | omega | (dsimp only; omega) | (simp only [World.size_alloc, World.size_setCell, World.size_drew, World.heap_drewN]; omega)))⟩)

set_option maxRecDepth 100000 in
set_option maxHeartbeats 1000000 in
theorem rsame_rcd (u0 : Bool) (n0 : ByteArray) (b : Ty) (w : World) (hb : RdT w b) (hn : ¬ b = .none) : Calls Tryd.prog 18 #[tyV (.rcd u0 n0), tyV b] w (BoolP (er (.rcd u0 n0) = er b) w) := by
  obtain ⟨s, l, f, n, A, m, c, k1, s1, l1, f1, n1, A1, m1, c1, e0, _⟩ := ty_kids b hb
  have hE := Lib.hid (show (er (.rcd u0 n0) = er b) ↔ kN b = 6 ∧ u0 = f ∧ n0.toList = n.toList by cases b <;> simp [tyC, tyMk, kN] at e0 <;> simp [er, kN]; obtain ⟨_, _, rfl, rfl, _⟩ := e0; simp)
  rw [tyV_of e0, show tyV (.rcd u0 n0) = .agg #[.int .i64 6, .int .i64 0, .int .i64 0, .bool u0, .string n0, .slice none 0 0] from rfl]
  have hk : ¬ kN b = 0 := fun h => hn ((none_iff b).2 h)
  clear e0 hb hn
  generalize kN b = k at *
  have hk2 : (k == 0) = false := by simpa using hk
  by_cases h2 : k = 6
  · subst h2
    have hA1 := cell_alloc_if
    have hA2 := frozen_alloc_if
    have hA3 := cell_set_if
    go_enter Tryd.func18, Tryd.ntmps18
    go_wp2_with (first | (go_at_call 36; (with_reducible refine (none_any _ _ _ _ _ _ _ _ _).mono ?_); rintro e w' ⟨rfl, hbl⟩; obtain ⟨hc, hf, hz⟩ := cif hbl; (try simp only [World.size_alloc, World.size_setCell, World.size_drew, World.heap_drewN] at hz)) | (go_at_call 58; (with_reducible refine (recordOf_any _ _ _ _ _ _ _ _ _).mono ?_); rintro e w' ⟨rfl, hbl⟩; obtain ⟨hc, hf, hz⟩ := cif hbl; (try simp only [World.size_alloc, World.size_setCell, World.size_drew, World.heap_drewN] at hz)))
    go_region_held3 (fun W => Ext w W ∧ W.cell? ⟨w.heap.size + 1, 0, none⟩ = some (.int .i64 6) ∧ W.cell? ⟨w.heap.size + 1, 1, none⟩ = some (.int .i64 s) ∧ W.cell? ⟨w.heap.size + 1, 2, none⟩ = some (.int .i64 l) ∧ W.cell? ⟨w.heap.size + 1, 3, none⟩ = some (.bool f) ∧ W.cell? ⟨w.heap.size + 1, 4, none⟩ = some (.string n) ∧ W.cell? ⟨w.heap.size + 1, 5, none⟩ = some (.slice A m c))
      (first | exact ⟨by unfold Ext at *; (repeat' (first | (with_reducible exact Below.refl _ _) | (with_reducible assumption) | (with_reducible refine Below.setCell ?_ ?_ _) | (with_reducible refine Below.alloc ?_ ?_ _) | (with_reducible refine Below.drew ?_) | (with_reducible refine below_drewN ?_ _) | (with_reducible refine below_next ?_ (by with_reducible assumption)) | omega | (dsimp only; omega) | (simp only [World.size_alloc, World.size_setCell, World.size_drew, World.heap_drewN]; omega))), by simp [*, ↓IntWalk.iteOmega], by simp [*, ↓IntWalk.iteOmega], by simp [*, ↓IntWalk.iteOmega], by simp [*, ↓IntWalk.iteOmega], by simp [*, ↓IntWalk.iteOmega], by simp [*, ↓IntWalk.iteOmega]⟩)
      (first | (go_at_call 58; (with_reducible refine (recordOf_any _ _ _ _ _ _ _ _ _).mono ?_); rintro e w' ⟨rfl, hbl⟩; obtain ⟨hc, hf, hz⟩ := cif hbl; (try simp only [World.size_alloc, World.size_setCell, World.size_drew, World.heap_drewN] at hz)))
    all_goals (go_wp2; all_goals (go_returns; refine ⟨_, rfl, ?_, by (repeat' (first | (with_reducible exact Below.refl _ _) | (with_reducible assumption) | (with_reducible refine Below.setCell ?_ ?_ _) | (with_reducible refine Below.alloc ?_ ?_ _) | (with_reducible refine Below.drew ?_) | (with_reducible refine below_drewN ?_ _) | (with_reducible refine below_next ?_ (by with_reducible assumption)) | omega | (dsimp only; omega) | (simp only [World.size_alloc, World.size_setCell, World.size_drew, World.heap_drewN]; omega)))⟩; clear hA1 hA2 hA3; rw [hE.out]; grind))
  · have h3 : (k == 6) = false := by simpa using h2
    have hA1 := cell_alloc_if
    have hA2 := frozen_alloc_if
    have hA3 := cell_set_if
    go_enter Tryd.func18, Tryd.ntmps18
    go_wp2_with (first | (go_at_call 36; (with_reducible refine (none_any _ _ _ _ _ _ _ _ _).mono ?_); rintro e w' ⟨rfl, hbl⟩; obtain ⟨hc, hf, hz⟩ := cif hbl; (try simp only [World.size_alloc, World.size_setCell, World.size_drew, World.heap_drewN] at hz)) | (go_at_call 58; (with_reducible refine (recordOf_any _ _ _ _ _ _ _ _ _).mono ?_); rintro e w' ⟨rfl, hbl⟩; obtain ⟨hc, hf, hz⟩ := cif hbl; (try simp only [World.size_alloc, World.size_setCell, World.size_drew, World.heap_drewN] at hz)))
    go_region_held3 (fun W => Ext w W ∧ W.cell? ⟨w.heap.size + 1, 0, none⟩ = some (.int .i64 k) ∧ W.cell? ⟨w.heap.size + 1, 1, none⟩ = some (.int .i64 s) ∧ W.cell? ⟨w.heap.size + 1, 2, none⟩ = some (.int .i64 l) ∧ W.cell? ⟨w.heap.size + 1, 3, none⟩ = some (.bool f) ∧ W.cell? ⟨w.heap.size + 1, 4, none⟩ = some (.string n) ∧ W.cell? ⟨w.heap.size + 1, 5, none⟩ = some (.slice A m c))
      (first | exact ⟨by unfold Ext at *; (repeat' (first | (with_reducible exact Below.refl _ _) | (with_reducible assumption) | (with_reducible refine Below.setCell ?_ ?_ _) | (with_reducible refine Below.alloc ?_ ?_ _) | (with_reducible refine Below.drew ?_) | (with_reducible refine below_drewN ?_ _) | (with_reducible refine below_next ?_ (by with_reducible assumption)) | omega | (dsimp only; omega) | (simp only [World.size_alloc, World.size_setCell, World.size_drew, World.heap_drewN]; omega))), by simp [*, ↓IntWalk.iteOmega], by simp [*, ↓IntWalk.iteOmega], by simp [*, ↓IntWalk.iteOmega], by simp [*, ↓IntWalk.iteOmega], by simp [*, ↓IntWalk.iteOmega], by simp [*, ↓IntWalk.iteOmega]⟩)
      (first | (go_at_call 58; (with_reducible refine (recordOf_any _ _ _ _ _ _ _ _ _).mono ?_); rintro e w' ⟨rfl, hbl⟩; obtain ⟨hc, hf, hz⟩ := cif hbl; (try simp only [World.size_alloc, World.size_setCell, World.size_drew, World.heap_drewN] at hz)))
    all_goals (go_wp2; go_returns; exact ⟨false, rfl, by simp [hE.out, h2], by (repeat' (first | (with_reducible exact Below.refl _ _) | (with_reducible assumption) | (with_reducible refine Below.setCell ?_ ?_ _) | (with_reducible refine Below.alloc ?_ ?_ _) | (with_reducible refine Below.drew ?_) | (with_reducible refine below_drewN ?_ _) | (with_reducible refine below_next ?_ (by with_reducible assumption)) | omega | (dsimp only; omega) | (simp only [World.size_alloc, World.size_setCell, World.size_drew, World.heap_drewN]; omega)))⟩)

set_option maxRecDepth 100000 in
set_option maxHeartbeats 2000000 in
theorem rsame_ptr (sv : Value) (t : Ty) (b : Ty) (w : World) (ha : RdT w (.ptr sv t)) (hb : RdT w b) (hn : ¬ b = .none) (ih : SameAt 18 t) : Calls Tryd.prog 18 #[tyV (.ptr sv t), tyV b] w (BoolP (er (.ptr sv t) = er b) w) := by
  obtain ⟨s0, l0, f0, n0, A0, m0, c0, k1, s1, l1, f1, n1, A1, m1, c1, e0, q1, rs1, e1⟩ := ty_kids _ ha
  obtain ⟨s, l, f, n, A, m, c, k2, s2, l2, f2, n2, A2, m2, c2, e2, q2, rs2, e3⟩ := ty_kids b hb
  rw [tyV_of e0, tyV_of e2]
  have hk : ¬ kN b = 0 := fun h => hn ((none_iff b).2 h)
  have r1 : RdT w t := by simp only [RdT] at ha; exact ha.2
  have Q1 := Lib.hid q1
  have RS1 := Lib.hid rs1
  have E1 := Lib.hid e1
  have Q2 := Lib.hid q2
  have RS2 := Lib.hid rs2
  have E2 := Lib.hid e3
  by_cases h2 : kN b = 4
  · cases b <;> simp [kN] at h2
    rename_i sv2 t2
    have r2 : RdT w t2 := by simp only [RdT] at hb; exact hb.2
    have HI : Hid (∀ W, Below w.heap.size w W → Calls Tryd.prog 18 #[.agg #[.int .i64 k1, .int .i64 s1, .int .i64 l1, .bool f1, .string n1, .slice A1 m1 c1], .agg #[.int .i64 k2, .int .i64 s2, .int .i64 l2, .bool f2, .string n2, .slice A2 m2 c2]] W (BoolP (er t = er t2) W)) := Lib.hid fun W hW => by
      have h := ih t2 W (r1.next hW) (r2.next hW)
      rw [show tyV t = _ from tyV_of e1, show tyV t2 = _ from tyV_of e3] at h
      exact h
    simp only [kN]
    clear e0 e1 e2 e3 q1 q2 rs1 rs2 r1 r2 hb ha ih hk hn
    have hA1 := cell_alloc_if
    have hA2 := frozen_alloc_if
    have hA3 := cell_set_if
    go_enter Tryd.func18, Tryd.ntmps18
    go_wp2_with (first | (go_at_call 36; (with_reducible refine (none_any _ _ _ _ _ _ _ _ _).mono ?_); rintro e w' ⟨rfl, hbl⟩; obtain ⟨hc, hf, hz⟩ := cif hbl; (try simp only [World.size_alloc, World.size_setCell, World.size_drew, World.heap_drewN] at hz)) | (go_at_call 54; (with_reducible refine (pointerOf_any _ _ _ _ _ _ _ _ _ (Q1.out.next (by (repeat' (first | (with_reducible exact Below.refl _ _) | (with_reducible assumption) | (with_reducible refine Below.setCell ?_ ?_ _) | (with_reducible refine Below.alloc ?_ ?_ _) | (with_reducible refine Below.drew ?_) | (with_reducible refine below_drewN ?_ _) | (with_reducible refine below_next ?_ (by with_reducible assumption)) | omega | (dsimp only; omega) | (simp only [World.size_alloc, World.size_setCell, World.size_drew, World.heap_drewN]; omega))))) (RS1.out.next (by (repeat' (first | (with_reducible exact Below.refl _ _) | (with_reducible assumption) | (with_reducible refine Below.setCell ?_ ?_ _) | (with_reducible refine Below.alloc ?_ ?_ _) | (with_reducible refine Below.drew ?_) | (with_reducible refine below_drewN ?_ _) | (with_reducible refine below_next ?_ (by with_reducible assumption)) | omega | (dsimp only; omega) | (simp only [World.size_alloc, World.size_setCell, World.size_drew, World.heap_drewN]; omega))))) E1.out).mono ?_); rintro e w' ⟨rfl, hbl⟩; obtain ⟨hc, hf, hz⟩ := cif hbl; (try simp only [World.size_alloc, World.size_setCell, World.size_drew, World.heap_drewN] at hz)))
    go_region_held3 (fun W => Ext w W ∧ W.cell? ⟨w.heap.size + 1, 0, none⟩ = some (.int .i64 4) ∧ W.cell? ⟨w.heap.size + 1, 1, none⟩ = some (.int .i64 s) ∧ W.cell? ⟨w.heap.size + 1, 2, none⟩ = some (.int .i64 l) ∧ W.cell? ⟨w.heap.size + 1, 3, none⟩ = some (.bool f) ∧ W.cell? ⟨w.heap.size + 1, 4, none⟩ = some (.string n) ∧ W.cell? ⟨w.heap.size + 1, 5, none⟩ = some (.slice A m c))
      (first | exact ⟨by unfold Ext at *; (repeat' (first | (with_reducible exact Below.refl _ _) | (with_reducible assumption) | (with_reducible refine Below.setCell ?_ ?_ _) | (with_reducible refine Below.alloc ?_ ?_ _) | (with_reducible refine Below.drew ?_) | (with_reducible refine below_drewN ?_ _) | (with_reducible refine below_next ?_ (by with_reducible assumption)) | omega | (dsimp only; omega) | (simp only [World.size_alloc, World.size_setCell, World.size_drew, World.heap_drewN]; omega))), by simp [*, ↓IntWalk.iteOmega], by simp [*, ↓IntWalk.iteOmega], by simp [*, ↓IntWalk.iteOmega], by simp [*, ↓IntWalk.iteOmega], by simp [*, ↓IntWalk.iteOmega], by simp [*, ↓IntWalk.iteOmega]⟩)
      (first | (go_at_call 54; (with_reducible refine (pointerOf_any _ _ _ _ _ _ _ _ _ (Q2.out.next (by (repeat' (first | (with_reducible exact Below.refl _ _) | (with_reducible assumption) | (with_reducible refine Below.setCell ?_ ?_ _) | (with_reducible refine Below.alloc ?_ ?_ _) | (with_reducible refine Below.drew ?_) | (with_reducible refine below_drewN ?_ _) | (with_reducible refine below_next ?_ (by with_reducible assumption)) | omega | (dsimp only; omega) | (simp only [World.size_alloc, World.size_setCell, World.size_drew, World.heap_drewN]; omega))))) (RS2.out.next (by (repeat' (first | (with_reducible exact Below.refl _ _) | (with_reducible assumption) | (with_reducible refine Below.setCell ?_ ?_ _) | (with_reducible refine Below.alloc ?_ ?_ _) | (with_reducible refine Below.drew ?_) | (with_reducible refine below_drewN ?_ _) | (with_reducible refine below_next ?_ (by with_reducible assumption)) | omega | (dsimp only; omega) | (simp only [World.size_alloc, World.size_setCell, World.size_drew, World.heap_drewN]; omega))))) E2.out).mono ?_); rintro e w' ⟨rfl, hbl⟩; obtain ⟨hc, hf, hz⟩ := cif hbl; (try simp only [World.size_alloc, World.size_setCell, World.size_drew, World.heap_drewN] at hz)))
    all_goals (
      go_wp2_with (go_at_call 18; (with_reducible refine (HI.out _ (by (repeat' (first | (with_reducible exact Below.refl _ _) | (with_reducible assumption) | (with_reducible refine Below.setCell ?_ ?_ _) | (with_reducible refine Below.alloc ?_ ?_ _) | (with_reducible refine Below.drew ?_) | (with_reducible refine below_drewN ?_ _) | (with_reducible refine below_next ?_ (by with_reducible assumption)) | omega | (dsimp only; omega) | (simp only [World.size_alloc, World.size_setCell, World.size_drew, World.heap_drewN]; omega))))).mono ?_); rintro e w' ⟨v, rfl, hv, hbl⟩; have HQ := Lib.hid hv; clear hv)
      go_returns
      exact ⟨v, rfl, by rw [HQ.out]; simp [er], by (repeat' (first | (with_reducible exact Below.refl _ _) | (with_reducible assumption) | (with_reducible refine Below.setCell ?_ ?_ _) | (with_reducible refine Below.alloc ?_ ?_ _) | (with_reducible refine Below.drew ?_) | (with_reducible refine below_drewN ?_ _) | (with_reducible refine below_next ?_ (by with_reducible assumption)) | omega | (dsimp only; omega) | (simp only [World.size_alloc, World.size_setCell, World.size_drew, World.heap_drewN]; omega)))⟩)
  · have HNE := Lib.hid (ptr_ne sv t b (by cases b <;> simp [isP, kN] at h2 ⊢))
    simp only [show kN (.ptr sv t) = 4 from rfl]
    clear e0 e1 e2 e3 q1 q2 rs1 rs2 r1 hb ha ih hn
    generalize kN b = k at *
    have hk2 : (k == 0) = false := by simpa using hk
    have hk3 : (k == 4) = false := by simpa using h2
    have hA1 := cell_alloc_if
    have hA2 := frozen_alloc_if
    have hA3 := cell_set_if
    go_enter Tryd.func18, Tryd.ntmps18
    go_wp2_with (first | (go_at_call 36; (with_reducible refine (none_any _ _ _ _ _ _ _ _ _).mono ?_); rintro e w' ⟨rfl, hbl⟩; obtain ⟨hc, hf, hz⟩ := cif hbl; (try simp only [World.size_alloc, World.size_setCell, World.size_drew, World.heap_drewN] at hz)) | (go_at_call 54; (with_reducible refine (pointerOf_any _ _ _ _ _ _ _ _ _ (Q1.out.next (by (repeat' (first | (with_reducible exact Below.refl _ _) | (with_reducible assumption) | (with_reducible refine Below.setCell ?_ ?_ _) | (with_reducible refine Below.alloc ?_ ?_ _) | (with_reducible refine Below.drew ?_) | (with_reducible refine below_drewN ?_ _) | (with_reducible refine below_next ?_ (by with_reducible assumption)) | omega | (dsimp only; omega) | (simp only [World.size_alloc, World.size_setCell, World.size_drew, World.heap_drewN]; omega))))) (RS1.out.next (by (repeat' (first | (with_reducible exact Below.refl _ _) | (with_reducible assumption) | (with_reducible refine Below.setCell ?_ ?_ _) | (with_reducible refine Below.alloc ?_ ?_ _) | (with_reducible refine Below.drew ?_) | (with_reducible refine below_drewN ?_ _) | (with_reducible refine below_next ?_ (by with_reducible assumption)) | omega | (dsimp only; omega) | (simp only [World.size_alloc, World.size_setCell, World.size_drew, World.heap_drewN]; omega))))) E1.out).mono ?_); rintro e w' ⟨rfl, hbl⟩; obtain ⟨hc, hf, hz⟩ := cif hbl; (try simp only [World.size_alloc, World.size_setCell, World.size_drew, World.heap_drewN] at hz)))
    go_region_held3 (fun W => Ext w W ∧ W.cell? ⟨w.heap.size + 1, 0, none⟩ = some (.int .i64 k) ∧ W.cell? ⟨w.heap.size + 1, 1, none⟩ = some (.int .i64 s) ∧ W.cell? ⟨w.heap.size + 1, 2, none⟩ = some (.int .i64 l) ∧ W.cell? ⟨w.heap.size + 1, 3, none⟩ = some (.bool f) ∧ W.cell? ⟨w.heap.size + 1, 4, none⟩ = some (.string n) ∧ W.cell? ⟨w.heap.size + 1, 5, none⟩ = some (.slice A m c))
      (first | exact ⟨by unfold Ext at *; (repeat' (first | (with_reducible exact Below.refl _ _) | (with_reducible assumption) | (with_reducible refine Below.setCell ?_ ?_ _) | (with_reducible refine Below.alloc ?_ ?_ _) | (with_reducible refine Below.drew ?_) | (with_reducible refine below_drewN ?_ _) | (with_reducible refine below_next ?_ (by with_reducible assumption)) | omega | (dsimp only; omega) | (simp only [World.size_alloc, World.size_setCell, World.size_drew, World.heap_drewN]; omega))), by simp [*, ↓IntWalk.iteOmega], by simp [*, ↓IntWalk.iteOmega], by simp [*, ↓IntWalk.iteOmega], by simp [*, ↓IntWalk.iteOmega], by simp [*, ↓IntWalk.iteOmega], by simp [*, ↓IntWalk.iteOmega]⟩)
      (first | (go_at_call 54; (with_reducible refine (pointerOf_any _ _ _ _ _ _ _ _ _ (Q2.out.next (by (repeat' (first | (with_reducible exact Below.refl _ _) | (with_reducible assumption) | (with_reducible refine Below.setCell ?_ ?_ _) | (with_reducible refine Below.alloc ?_ ?_ _) | (with_reducible refine Below.drew ?_) | (with_reducible refine below_drewN ?_ _) | (with_reducible refine below_next ?_ (by with_reducible assumption)) | omega | (dsimp only; omega) | (simp only [World.size_alloc, World.size_setCell, World.size_drew, World.heap_drewN]; omega))))) (RS2.out.next (by (repeat' (first | (with_reducible exact Below.refl _ _) | (with_reducible assumption) | (with_reducible refine Below.setCell ?_ ?_ _) | (with_reducible refine Below.alloc ?_ ?_ _) | (with_reducible refine Below.drew ?_) | (with_reducible refine below_drewN ?_ _) | (with_reducible refine below_next ?_ (by with_reducible assumption)) | omega | (dsimp only; omega) | (simp only [World.size_alloc, World.size_setCell, World.size_drew, World.heap_drewN]; omega))))) E2.out).mono ?_); rintro e w' ⟨rfl, hbl⟩; obtain ⟨hc, hf, hz⟩ := cif hbl; (try simp only [World.size_alloc, World.size_setCell, World.size_drew, World.heap_drewN] at hz)))
    all_goals (go_wp2; go_returns; exact ⟨false, rfl, by simp [HNE.out], by (repeat' (first | (with_reducible exact Below.refl _ _) | (with_reducible assumption) | (with_reducible refine Below.setCell ?_ ?_ _) | (with_reducible refine Below.alloc ?_ ?_ _) | (with_reducible refine Below.drew ?_) | (with_reducible refine below_drewN ?_ _) | (with_reducible refine below_next ?_ (by with_reducible assumption)) | omega | (dsimp only; omega) | (simp only [World.size_alloc, World.size_setCell, World.size_drew, World.heap_drewN]; omega)))⟩)

set_option maxRecDepth 100000 in
set_option maxHeartbeats 2000000 in
theorem rsame_arr (sv : Value) (d : Int) (t : Ty) (b : Ty) (w : World) (ha : RdT w (.arr sv d t)) (hb : RdT w b) (hn : ¬ b = .none) (ih : SameAt 18 t) : Calls Tryd.prog 18 #[tyV (.arr sv d t), tyV b] w (BoolP (er (.arr sv d t) = er b) w) := by
  obtain ⟨s0, l0, f0, n0, A0, m0, c0, k1, s1, l1, f1, n1, A1, m1, c1, e0, q1, rs1, e1⟩ := ty_kids _ ha
  obtain ⟨s, l, f, n, A, m, c, k2, s2, l2, f2, n2, A2, m2, c2, e2, q2, rs2, e3⟩ := ty_kids b hb
  rw [tyV_of e0, tyV_of e2]
  have hk : ¬ kN b = 0 := fun h => hn ((none_iff b).2 h)
  have r1 : RdT w t := by simp only [RdT] at ha; exact ha.2
  have Q1 := Lib.hid q1
  have RS1 := Lib.hid rs1
  have E1 := Lib.hid e1
  have Q2 := Lib.hid q2
  have RS2 := Lib.hid rs2
  have E2 := Lib.hid e3
  by_cases h2 : kN b = 5
  · cases b <;> simp [kN] at h2
    rename_i sv2 d2 t2
    have r2 : RdT w t2 := by simp only [RdT] at hb; exact hb.2
    have HI : Hid (∀ W, Below w.heap.size w W → Calls Tryd.prog 18 #[.agg #[.int .i64 k1, .int .i64 s1, .int .i64 l1, .bool f1, .string n1, .slice A1 m1 c1], .agg #[.int .i64 k2, .int .i64 s2, .int .i64 l2, .bool f2, .string n2, .slice A2 m2 c2]] W (BoolP (er t = er t2) W)) := Lib.hid fun W hW => by
      have h := ih t2 W (r1.next hW) (r2.next hW)
      rw [show tyV t = _ from tyV_of e1, show tyV t2 = _ from tyV_of e3] at h
      exact h
    simp only [kN]
    simp [tyC, tyMk] at e0 e2
    obtain ⟨-, -, rfl, -⟩ := e0
    obtain ⟨-, -, rfl, -⟩ := e2
    clear e1 e3 q1 q2 rs1 rs2 r1 r2 hb ha ih hk hn
    by_cases hd : d = d2
    · subst hd
      have hA1 := cell_alloc_if
      have hA2 := frozen_alloc_if
      have hA3 := cell_set_if
      go_enter Tryd.func18, Tryd.ntmps18
      go_wp2_with (first | (go_at_call 36; (with_reducible refine (none_any _ _ _ _ _ _ _ _ _).mono ?_); rintro e w' ⟨rfl, hbl⟩; obtain ⟨hc, hf, hz⟩ := cif hbl; (try simp only [World.size_alloc, World.size_setCell, World.size_drew, World.heap_drewN] at hz)) | (go_at_call 55; (with_reducible refine (arrayOf_any _ _ _ _ _ _ _ _ _ (Q1.out.next (by (repeat' (first | (with_reducible exact Below.refl _ _) | (with_reducible assumption) | (with_reducible refine Below.setCell ?_ ?_ _) | (with_reducible refine Below.alloc ?_ ?_ _) | (with_reducible refine Below.drew ?_) | (with_reducible refine below_drewN ?_ _) | (with_reducible refine below_next ?_ (by with_reducible assumption)) | omega | (dsimp only; omega) | (simp only [World.size_alloc, World.size_setCell, World.size_drew, World.heap_drewN]; omega))))) (RS1.out.next (by (repeat' (first | (with_reducible exact Below.refl _ _) | (with_reducible assumption) | (with_reducible refine Below.setCell ?_ ?_ _) | (with_reducible refine Below.alloc ?_ ?_ _) | (with_reducible refine Below.drew ?_) | (with_reducible refine below_drewN ?_ _) | (with_reducible refine below_next ?_ (by with_reducible assumption)) | omega | (dsimp only; omega) | (simp only [World.size_alloc, World.size_setCell, World.size_drew, World.heap_drewN]; omega))))) E1.out).mono ?_); rintro e w' ⟨rfl, hbl⟩; obtain ⟨hc, hf, hz⟩ := cif hbl; (try simp only [World.size_alloc, World.size_setCell, World.size_drew, World.heap_drewN] at hz)))
      go_region_held3 (fun W => Ext w W ∧ W.cell? ⟨w.heap.size + 1, 0, none⟩ = some (.int .i64 5) ∧ W.cell? ⟨w.heap.size + 1, 1, none⟩ = some (.int .i64 s) ∧ W.cell? ⟨w.heap.size + 1, 2, none⟩ = some (.int .i64 d) ∧ W.cell? ⟨w.heap.size + 1, 3, none⟩ = some (.bool f) ∧ W.cell? ⟨w.heap.size + 1, 4, none⟩ = some (.string n) ∧ W.cell? ⟨w.heap.size + 1, 5, none⟩ = some (.slice A m c))
        (first | exact ⟨by unfold Ext at *; (repeat' (first | (with_reducible exact Below.refl _ _) | (with_reducible assumption) | (with_reducible refine Below.setCell ?_ ?_ _) | (with_reducible refine Below.alloc ?_ ?_ _) | (with_reducible refine Below.drew ?_) | (with_reducible refine below_drewN ?_ _) | (with_reducible refine below_next ?_ (by with_reducible assumption)) | omega | (dsimp only; omega) | (simp only [World.size_alloc, World.size_setCell, World.size_drew, World.heap_drewN]; omega))), by simp [*, ↓IntWalk.iteOmega], by simp [*, ↓IntWalk.iteOmega], by simp [*, ↓IntWalk.iteOmega], by simp [*, ↓IntWalk.iteOmega], by simp [*, ↓IntWalk.iteOmega], by simp [*, ↓IntWalk.iteOmega]⟩)
        (first | (go_at_call 55; (with_reducible refine (arrayOf_any _ _ _ _ _ _ _ _ _ (Q2.out.next (by (repeat' (first | (with_reducible exact Below.refl _ _) | (with_reducible assumption) | (with_reducible refine Below.setCell ?_ ?_ _) | (with_reducible refine Below.alloc ?_ ?_ _) | (with_reducible refine Below.drew ?_) | (with_reducible refine below_drewN ?_ _) | (with_reducible refine below_next ?_ (by with_reducible assumption)) | omega | (dsimp only; omega) | (simp only [World.size_alloc, World.size_setCell, World.size_drew, World.heap_drewN]; omega))))) (RS2.out.next (by (repeat' (first | (with_reducible exact Below.refl _ _) | (with_reducible assumption) | (with_reducible refine Below.setCell ?_ ?_ _) | (with_reducible refine Below.alloc ?_ ?_ _) | (with_reducible refine Below.drew ?_) | (with_reducible refine below_drewN ?_ _) | (with_reducible refine below_next ?_ (by with_reducible assumption)) | omega | (dsimp only; omega) | (simp only [World.size_alloc, World.size_setCell, World.size_drew, World.heap_drewN]; omega))))) E2.out).mono ?_); rintro e w' ⟨rfl, hbl⟩; obtain ⟨hc, hf, hz⟩ := cif hbl; (try simp only [World.size_alloc, World.size_setCell, World.size_drew, World.heap_drewN] at hz)))
      all_goals (
        go_wp2_with (go_at_call 18; (with_reducible refine (HI.out _ (by (repeat' (first | (with_reducible exact Below.refl _ _) | (with_reducible assumption) | (with_reducible refine Below.setCell ?_ ?_ _) | (with_reducible refine Below.alloc ?_ ?_ _) | (with_reducible refine Below.drew ?_) | (with_reducible refine below_drewN ?_ _) | (with_reducible refine below_next ?_ (by with_reducible assumption)) | omega | (dsimp only; omega) | (simp only [World.size_alloc, World.size_setCell, World.size_drew, World.heap_drewN]; omega))))).mono ?_); rintro e w' ⟨v, rfl, hv, hbl⟩; have HQ := Lib.hid hv; clear hv)
        go_returns
        exact ⟨v, rfl, by rw [HQ.out]; simp [er], by (repeat' (first | (with_reducible exact Below.refl _ _) | (with_reducible assumption) | (with_reducible refine Below.setCell ?_ ?_ _) | (with_reducible refine Below.alloc ?_ ?_ _) | (with_reducible refine Below.drew ?_) | (with_reducible refine below_drewN ?_ _) | (with_reducible refine below_next ?_ (by with_reducible assumption)) | omega | (dsimp only; omega) | (simp only [World.size_alloc, World.size_setCell, World.size_drew, World.heap_drewN]; omega)))⟩)
    · have hd2 : (d == d2) = false := by simpa using hd
      have hA1 := cell_alloc_if
      have hA2 := frozen_alloc_if
      have hA3 := cell_set_if
      go_enter Tryd.func18, Tryd.ntmps18
      go_wp2_with (first | (go_at_call 36; (with_reducible refine (none_any _ _ _ _ _ _ _ _ _).mono ?_); rintro e w' ⟨rfl, hbl⟩; obtain ⟨hc, hf, hz⟩ := cif hbl; (try simp only [World.size_alloc, World.size_setCell, World.size_drew, World.heap_drewN] at hz)) | (go_at_call 55; (with_reducible refine (arrayOf_any _ _ _ _ _ _ _ _ _ (Q1.out.next (by (repeat' (first | (with_reducible exact Below.refl _ _) | (with_reducible assumption) | (with_reducible refine Below.setCell ?_ ?_ _) | (with_reducible refine Below.alloc ?_ ?_ _) | (with_reducible refine Below.drew ?_) | (with_reducible refine below_drewN ?_ _) | (with_reducible refine below_next ?_ (by with_reducible assumption)) | omega | (dsimp only; omega) | (simp only [World.size_alloc, World.size_setCell, World.size_drew, World.heap_drewN]; omega))))) (RS1.out.next (by (repeat' (first | (with_reducible exact Below.refl _ _) | (with_reducible assumption) | (with_reducible refine Below.setCell ?_ ?_ _) | (with_reducible refine Below.alloc ?_ ?_ _) | (with_reducible refine Below.drew ?_) | (with_reducible refine below_drewN ?_ _) | (with_reducible refine below_next ?_ (by with_reducible assumption)) | omega | (dsimp only; omega) | (simp only [World.size_alloc, World.size_setCell, World.size_drew, World.heap_drewN]; omega))))) E1.out).mono ?_); rintro e w' ⟨rfl, hbl⟩; obtain ⟨hc, hf, hz⟩ := cif hbl; (try simp only [World.size_alloc, World.size_setCell, World.size_drew, World.heap_drewN] at hz)))
      go_region_held3 (fun W => Ext w W ∧ W.cell? ⟨w.heap.size + 1, 0, none⟩ = some (.int .i64 5) ∧ W.cell? ⟨w.heap.size + 1, 1, none⟩ = some (.int .i64 s) ∧ W.cell? ⟨w.heap.size + 1, 2, none⟩ = some (.int .i64 d2) ∧ W.cell? ⟨w.heap.size + 1, 3, none⟩ = some (.bool f) ∧ W.cell? ⟨w.heap.size + 1, 4, none⟩ = some (.string n) ∧ W.cell? ⟨w.heap.size + 1, 5, none⟩ = some (.slice A m c))
        (first | exact ⟨by unfold Ext at *; (repeat' (first | (with_reducible exact Below.refl _ _) | (with_reducible assumption) | (with_reducible refine Below.setCell ?_ ?_ _) | (with_reducible refine Below.alloc ?_ ?_ _) | (with_reducible refine Below.drew ?_) | (with_reducible refine below_drewN ?_ _) | (with_reducible refine below_next ?_ (by with_reducible assumption)) | omega | (dsimp only; omega) | (simp only [World.size_alloc, World.size_setCell, World.size_drew, World.heap_drewN]; omega))), by simp [*, ↓IntWalk.iteOmega], by simp [*, ↓IntWalk.iteOmega], by simp [*, ↓IntWalk.iteOmega], by simp [*, ↓IntWalk.iteOmega], by simp [*, ↓IntWalk.iteOmega], by simp [*, ↓IntWalk.iteOmega]⟩)
        (first | (go_at_call 55; (with_reducible refine (arrayOf_any _ _ _ _ _ _ _ _ _ (Q2.out.next (by (repeat' (first | (with_reducible exact Below.refl _ _) | (with_reducible assumption) | (with_reducible refine Below.setCell ?_ ?_ _) | (with_reducible refine Below.alloc ?_ ?_ _) | (with_reducible refine Below.drew ?_) | (with_reducible refine below_drewN ?_ _) | (with_reducible refine below_next ?_ (by with_reducible assumption)) | omega | (dsimp only; omega) | (simp only [World.size_alloc, World.size_setCell, World.size_drew, World.heap_drewN]; omega))))) (RS2.out.next (by (repeat' (first | (with_reducible exact Below.refl _ _) | (with_reducible assumption) | (with_reducible refine Below.setCell ?_ ?_ _) | (with_reducible refine Below.alloc ?_ ?_ _) | (with_reducible refine Below.drew ?_) | (with_reducible refine below_drewN ?_ _) | (with_reducible refine below_next ?_ (by with_reducible assumption)) | omega | (dsimp only; omega) | (simp only [World.size_alloc, World.size_setCell, World.size_drew, World.heap_drewN]; omega))))) E2.out).mono ?_); rintro e w' ⟨rfl, hbl⟩; obtain ⟨hc, hf, hz⟩ := cif hbl; (try simp only [World.size_alloc, World.size_setCell, World.size_drew, World.heap_drewN] at hz)))
      all_goals (go_wp2; go_returns; exact ⟨false, rfl, by simp [er, hd], by (repeat' (first | (with_reducible exact Below.refl _ _) | (with_reducible assumption) | (with_reducible refine Below.setCell ?_ ?_ _) | (with_reducible refine Below.alloc ?_ ?_ _) | (with_reducible refine Below.drew ?_) | (with_reducible refine below_drewN ?_ _) | (with_reducible refine below_next ?_ (by with_reducible assumption)) | omega | (dsimp only; omega) | (simp only [World.size_alloc, World.size_setCell, World.size_drew, World.heap_drewN]; omega)))⟩)
  · have HNE := Lib.hid (arr_ne sv d t b (by cases b <;> simp [isA, kN] at h2 ⊢))
    simp only [show kN (.arr sv d t) = 5 from rfl]
    clear e0 e1 e2 e3 q1 q2 rs1 rs2 r1 hb ha ih hn
    generalize kN b = k at *
    have hk2 : (k == 0) = false := by simpa using hk
    have hk3 : (k == 5) = false := by simpa using h2
    have hA1 := cell_alloc_if
    have hA2 := frozen_alloc_if
    have hA3 := cell_set_if
    go_enter Tryd.func18, Tryd.ntmps18
    go_wp2_with (first | (go_at_call 36; (with_reducible refine (none_any _ _ _ _ _ _ _ _ _).mono ?_); rintro e w' ⟨rfl, hbl⟩; obtain ⟨hc, hf, hz⟩ := cif hbl; (try simp only [World.size_alloc, World.size_setCell, World.size_drew, World.heap_drewN] at hz)) | (go_at_call 55; (with_reducible refine (arrayOf_any _ _ _ _ _ _ _ _ _ (Q1.out.next (by (repeat' (first | (with_reducible exact Below.refl _ _) | (with_reducible assumption) | (with_reducible refine Below.setCell ?_ ?_ _) | (with_reducible refine Below.alloc ?_ ?_ _) | (with_reducible refine Below.drew ?_) | (with_reducible refine below_drewN ?_ _) | (with_reducible refine below_next ?_ (by with_reducible assumption)) | omega | (dsimp only; omega) | (simp only [World.size_alloc, World.size_setCell, World.size_drew, World.heap_drewN]; omega))))) (RS1.out.next (by (repeat' (first | (with_reducible exact Below.refl _ _) | (with_reducible assumption) | (with_reducible refine Below.setCell ?_ ?_ _) | (with_reducible refine Below.alloc ?_ ?_ _) | (with_reducible refine Below.drew ?_) | (with_reducible refine below_drewN ?_ _) | (with_reducible refine below_next ?_ (by with_reducible assumption)) | omega | (dsimp only; omega) | (simp only [World.size_alloc, World.size_setCell, World.size_drew, World.heap_drewN]; omega))))) E1.out).mono ?_); rintro e w' ⟨rfl, hbl⟩; obtain ⟨hc, hf, hz⟩ := cif hbl; (try simp only [World.size_alloc, World.size_setCell, World.size_drew, World.heap_drewN] at hz)))
    go_region_held3 (fun W => Ext w W ∧ W.cell? ⟨w.heap.size + 1, 0, none⟩ = some (.int .i64 k) ∧ W.cell? ⟨w.heap.size + 1, 1, none⟩ = some (.int .i64 s) ∧ W.cell? ⟨w.heap.size + 1, 2, none⟩ = some (.int .i64 l) ∧ W.cell? ⟨w.heap.size + 1, 3, none⟩ = some (.bool f) ∧ W.cell? ⟨w.heap.size + 1, 4, none⟩ = some (.string n) ∧ W.cell? ⟨w.heap.size + 1, 5, none⟩ = some (.slice A m c))
      (first | exact ⟨by unfold Ext at *; (repeat' (first | (with_reducible exact Below.refl _ _) | (with_reducible assumption) | (with_reducible refine Below.setCell ?_ ?_ _) | (with_reducible refine Below.alloc ?_ ?_ _) | (with_reducible refine Below.drew ?_) | (with_reducible refine below_drewN ?_ _) | (with_reducible refine below_next ?_ (by with_reducible assumption)) | omega | (dsimp only; omega) | (simp only [World.size_alloc, World.size_setCell, World.size_drew, World.heap_drewN]; omega))), by simp [*, ↓IntWalk.iteOmega], by simp [*, ↓IntWalk.iteOmega], by simp [*, ↓IntWalk.iteOmega], by simp [*, ↓IntWalk.iteOmega], by simp [*, ↓IntWalk.iteOmega], by simp [*, ↓IntWalk.iteOmega]⟩)
      (first | (go_at_call 55; (with_reducible refine (arrayOf_any _ _ _ _ _ _ _ _ _ (Q2.out.next (by (repeat' (first | (with_reducible exact Below.refl _ _) | (with_reducible assumption) | (with_reducible refine Below.setCell ?_ ?_ _) | (with_reducible refine Below.alloc ?_ ?_ _) | (with_reducible refine Below.drew ?_) | (with_reducible refine below_drewN ?_ _) | (with_reducible refine below_next ?_ (by with_reducible assumption)) | omega | (dsimp only; omega) | (simp only [World.size_alloc, World.size_setCell, World.size_drew, World.heap_drewN]; omega))))) (RS2.out.next (by (repeat' (first | (with_reducible exact Below.refl _ _) | (with_reducible assumption) | (with_reducible refine Below.setCell ?_ ?_ _) | (with_reducible refine Below.alloc ?_ ?_ _) | (with_reducible refine Below.drew ?_) | (with_reducible refine below_drewN ?_ _) | (with_reducible refine below_next ?_ (by with_reducible assumption)) | omega | (dsimp only; omega) | (simp only [World.size_alloc, World.size_setCell, World.size_drew, World.heap_drewN]; omega))))) E2.out).mono ?_); rintro e w' ⟨rfl, hbl⟩; obtain ⟨hc, hf, hz⟩ := cif hbl; (try simp only [World.size_alloc, World.size_setCell, World.size_drew, World.heap_drewN] at hz)))
    all_goals (go_wp2; go_returns; exact ⟨false, rfl, by simp [HNE.out], by (repeat' (first | (with_reducible exact Below.refl _ _) | (with_reducible assumption) | (with_reducible refine Below.setCell ?_ ?_ _) | (with_reducible refine Below.alloc ?_ ?_ _) | (with_reducible refine Below.drew ?_) | (with_reducible refine below_drewN ?_ _) | (with_reducible refine below_next ?_ (by with_reducible assumption)) | omega | (dsimp only; omega) | (simp only [World.size_alloc, World.size_setCell, World.size_drew, World.heap_drewN]; omega)))⟩)

theorem boolp_yes {P : Program} {f : FuncId} {args : Array Value} {w : World} {Q : Prop} (h : Calls P f args w (BoolP Q w)) (hq : Q) : Calls P f args w fun e w' => e = .returned (.bool true) ∧ Below w.heap.size w w' :=
  h.mono fun e w' ⟨b, he, hb, hw⟩ => ⟨by rw [he, hb.2 hq], hw⟩
theorem boolp_no {P : Program} {f : FuncId} {args : Array Value} {w : World} {Q : Prop} (h : Calls P f args w (BoolP Q w)) (hq : ¬ Q) : Calls P f args w fun e w' => e = .returned (.bool false) ∧ Below w.heap.size w w' :=
  h.mono fun e w' ⟨b, he, hb, hw⟩ => ⟨by
    cases b
    · exact he
    · exact absurd (hb.1 rfl) hq, hw⟩
set_option maxRecDepth 100000 in
set_option maxHeartbeats 4000000 in
theorem rsame_fn_no (sv : Value) (r : Ty) (ps : List Ty) (b : Ty) (w : World) (ha : RdT w (.fn sv r ps)) (hb : RdT w b) (hn : ¬ b = .none) (h2 : ¬ kN b = 7) : Calls Tryd.prog 18 #[tyV (.fn sv r ps), tyV b] w (BoolP (er (.fn sv r ps) = er b) w) := by
  obtain ⟨s0, l0, f0, n0, A0, m0, c0, k1, s1, l1, f1, n1, A1, m1, c1, e0, q1, rs1, e1⟩ := ty_kids _ ha
  obtain ⟨s, l, f, n, A, m, c, k2, s2, l2, f2, n2, A2, m2, c2, e2, q2, rs2, e3⟩ := ty_kids b hb
  rw [tyV_of e0, tyV_of e2]
  have hk : ¬ kN b = 0 := fun h => hn ((none_iff b).2 h)
  have Q1 := Lib.hid q1
  have RS1 := Lib.hid rs1
  have E1 := Lib.hid e1
  have Q2 := Lib.hid q2
  have RS2 := Lib.hid rs2
  have E2 := Lib.hid e3
  have HNE := Lib.hid (fn_ne sv r ps b (by cases b <;> simp [isFn, kN] at h2 ⊢))
  simp only [show kN (.fn sv r ps) = 7 from rfl]
  clear e0 e1 e2 e3 q1 q2 rs1 rs2 hb ha hn
  generalize kN b = k at *
  have hk2 : (k == 0) = false := by simpa using hk
  have hk3 : (k == 7) = false := by simpa using h2
  have hA1 := cell_alloc_if
  have hA2 := frozen_alloc_if
  have hA3 := cell_set_if
  go_enter Tryd.func18, Tryd.ntmps18
  go_wp2_with (first | (go_at_call 36; (with_reducible refine (none_any _ _ _ _ _ _ _ _ _).mono ?_); rintro e w' ⟨rfl, hbl⟩; obtain ⟨hc, hf, hz⟩ := cif hbl; (try simp only [World.size_alloc, World.size_setCell, World.size_drew, World.heap_drewN] at hz)) | (go_at_call 56; (with_reducible refine (functionOf_any _ _ _ _ _ _ _ _ _ (Q1.out.next (by (repeat' (first | (with_reducible exact Below.refl _ _) | (with_reducible assumption) | (with_reducible refine Below.setCell ?_ ?_ _) | (with_reducible refine Below.alloc ?_ ?_ _) | (with_reducible refine Below.drew ?_) | (with_reducible refine below_drewN ?_ _) | (with_reducible refine below_next ?_ (by with_reducible assumption)) | omega | (dsimp only; omega) | (simp only [World.size_alloc, World.size_setCell, World.size_drew, World.heap_drewN]; omega))))) (RS1.out.next (by (repeat' (first | (with_reducible exact Below.refl _ _) | (with_reducible assumption) | (with_reducible refine Below.setCell ?_ ?_ _) | (with_reducible refine Below.alloc ?_ ?_ _) | (with_reducible refine Below.drew ?_) | (with_reducible refine below_drewN ?_ _) | (with_reducible refine below_next ?_ (by with_reducible assumption)) | omega | (dsimp only; omega) | (simp only [World.size_alloc, World.size_setCell, World.size_drew, World.heap_drewN]; omega))))) E1.out).mono ?_); rintro e w5 ⟨rfl, hb5⟩; obtain ⟨hc5, hf5, hz5⟩ := cif hb5; (try simp only [World.size_alloc, World.size_setCell, World.size_drew, World.heap_drewN] at hz5)))
  go_region_held3 (fun W => Ext w W ∧ W.cell? ⟨w.heap.size + 1, 0, none⟩ = some (.int .i64 k) ∧ W.cell? ⟨w.heap.size + 1, 1, none⟩ = some (.int .i64 s) ∧ W.cell? ⟨w.heap.size + 1, 2, none⟩ = some (.int .i64 l) ∧ W.cell? ⟨w.heap.size + 1, 3, none⟩ = some (.bool f) ∧ W.cell? ⟨w.heap.size + 1, 4, none⟩ = some (.string n) ∧ W.cell? ⟨w.heap.size + 1, 5, none⟩ = some (.slice A m c))
    (first | exact ⟨by unfold Ext at *; (repeat' (first | (with_reducible exact Below.refl _ _) | (with_reducible assumption) | (with_reducible refine Below.setCell ?_ ?_ _) | (with_reducible refine Below.alloc ?_ ?_ _) | (with_reducible refine Below.drew ?_) | (with_reducible refine below_drewN ?_ _) | (with_reducible refine below_next ?_ (by with_reducible assumption)) | omega | (dsimp only; omega) | (simp only [World.size_alloc, World.size_setCell, World.size_drew, World.heap_drewN]; omega))), by simp [*, ↓IntWalk.iteOmega], by simp [*, ↓IntWalk.iteOmega], by simp [*, ↓IntWalk.iteOmega], by simp [*, ↓IntWalk.iteOmega], by simp [*, ↓IntWalk.iteOmega], by simp [*, ↓IntWalk.iteOmega]⟩)
    (first | (go_at_call 56; (with_reducible refine (functionOf_any _ _ _ _ _ _ _ _ _ (Q2.out.next (by (repeat' (first | (with_reducible exact Below.refl _ _) | (with_reducible assumption) | (with_reducible refine Below.setCell ?_ ?_ _) | (with_reducible refine Below.alloc ?_ ?_ _) | (with_reducible refine Below.drew ?_) | (with_reducible refine below_drewN ?_ _) | (with_reducible refine below_next ?_ (by with_reducible assumption)) | omega | (dsimp only; omega) | (simp only [World.size_alloc, World.size_setCell, World.size_drew, World.heap_drewN]; omega))))) (RS2.out.next (by (repeat' (first | (with_reducible exact Below.refl _ _) | (with_reducible assumption) | (with_reducible refine Below.setCell ?_ ?_ _) | (with_reducible refine Below.alloc ?_ ?_ _) | (with_reducible refine Below.drew ?_) | (with_reducible refine below_drewN ?_ _) | (with_reducible refine below_next ?_ (by with_reducible assumption)) | omega | (dsimp only; omega) | (simp only [World.size_alloc, World.size_setCell, World.size_drew, World.heap_drewN]; omega))))) E2.out).mono ?_); rintro e w6 ⟨rfl, hb6⟩; obtain ⟨hc6, hf6, hz6⟩ := cif hb6; (try simp only [World.size_alloc, World.size_setCell, World.size_drew, World.heap_drewN] at hz6)))
  all_goals (go_wp2; go_returns; exact ⟨false, rfl, by simp [HNE.out], by (repeat' (first | (with_reducible exact Below.refl _ _) | (with_reducible assumption) | (with_reducible refine Below.setCell ?_ ?_ _) | (with_reducible refine Below.alloc ?_ ?_ _) | (with_reducible refine Below.drew ?_) | (with_reducible refine below_drewN ?_ _) | (with_reducible refine below_next ?_ (by with_reducible assumption)) | omega | (dsimp only; omega) | (simp only [World.size_alloc, World.size_setCell, World.size_drew, World.heap_drewN]; omega)))⟩)

set_option maxRecDepth 100000 in
set_option maxHeartbeats 8000000 in
theorem rsame_fn_yes (sv sv2 : Value) (r r2 : Ty) (ps ps2 : List Ty) (w : World) (ha : RdT w (.fn sv r ps)) (hb : RdT w (.fn sv2 r2 ps2)) (ih : SameAt 18 r) (ihs : ∀ x ∈ ps, SameAt 18 x) : Calls Tryd.prog 18 #[tyV (.fn sv r ps), tyV (.fn sv2 r2 ps2)] w (BoolP (er (.fn sv r ps) = er (.fn sv2 r2 ps2)) w) := by
  obtain ⟨s0, l0, f0, n0, A0, m0, c0, k1, s1, l1, f1, n1, A1, m1, c1, e0, q1, rs1, e1⟩ := ty_kids _ ha
  obtain ⟨s, l, f, n, A, m, c, k2, s2, l2, f2, n2, A2, m2, c2, e2, q2, rs2, e3⟩ := ty_kids _ hb
  rw [tyV_of e0, tyV_of e2]
  have Q1 := Lib.hid q1
  have RS1 := Lib.hid rs1
  have E1 := Lib.hid e1
  have Q2 := Lib.hid q2
  have RS2 := Lib.hid rs2
  have E2 := Lib.hid e3
  simp only [RdT] at ha hb
  have HI : Hid (∀ W, Below w.heap.size w W → Calls Tryd.prog 18 #[.agg #[.int .i64 k1, .int .i64 s1, .int .i64 l1, .bool f1, .string n1, .slice A1 m1 c1], .agg #[.int .i64 k2, .int .i64 s2, .int .i64 l2, .bool f2, .string n2, .slice A2 m2 c2]] W (BoolP (er r = er r2) W)) := Lib.hid fun W hW => by
    have h := ih r2 W (ha.2.1.next hW) (hb.2.1.next hW)
    rw [show tyV r = _ from tyV_of e1, show tyV r2 = _ from tyV_of e3] at h
    exact h
  obtain ⟨A3, m3, c3, h3⟩ : ∃ A3 m3 c3, (restA A0 m0, m0 - 1, restC m0 c0) = (A3, m3, c3) := ⟨_, _, _, rfl⟩
  obtain ⟨A4, m4, c4, h4⟩ : ∃ A4 m4 c4, (restA A m, m - 1, restC m c) = (A4, m4, c4) := ⟨_, _, _, rfl⟩
  injection h3 with h30 h3
  injection h3 with h31 h32
  injection h4 with h40 h4
  injection h4 with h41 h42
  have p1 := q1.rest
  have p2 := q2.rest
  rw [h30, h31, h32] at p1
  rw [h40, h41, h42] at p2
  have FA := fun W (hW : Below w.heap.size w W) => functionOf_any 7 s0 l0 f0 n0 A0 m0 c0 W (q1.next hW) (rs1.next hW) e1
  have FB := fun W (hW : Below w.heap.size w W) => functionOf_any 7 s l f n A m c W (q2.next hW) (rs2.next hW) e3
  rw [h30, h31, h32] at FA
  rw [h40, h41, h42] at FB
  have GA := Lib.hid FA
  have GB := Lib.hid FB
  have P1 : Hid (RdL tyC 6 w (.slice A3 m3 c3) ps) := Lib.hid p1
  have P2 : Hid (RdL tyC 6 w (.slice A4 m4 c4) ps2) := Lib.hid p2
  have G1 := Lib.hid ha.2.2
  have G2 := Lib.hid hb.2.2
  have IHS := Lib.hid ihs
  have ml1 : ps.length = m3 := by obtain ⟨_, _, e, _⟩ := P1.out; injection e with _ e _; exact e.symm
  have ml2 : ps2.length = m4 := by obtain ⟨_, _, e, _⟩ := P2.out; injection e with _ e _; exact e.symm
  have bl1 := P1.out.len
  have bl2 := P2.out.len
  unfold maxLen at bl1 bl2
  rw [ml1] at bl1
  rw [ml2] at bl2
  have ML1 := Lib.hid ml1
  have ML2 := Lib.hid ml2
  clear e0 e1 e2 e3 q1 q2 rs1 rs2 hb ha ih ihs p1 p2 FA FB h30 h31 h32 h40 h41 h42 Q1 Q2 RS1 RS2 E1 E2 ml1 ml2
  simp only [kN]
  have hA1 := cell_alloc_if
  have hA2 := frozen_alloc_if
  have hA3 := cell_set_if
  go_enter Tryd.func18, Tryd.ntmps18
  go_wp2_with (first | (go_at_call 36; (with_reducible refine (none_any _ _ _ _ _ _ _ _ _).mono ?_); rintro e w' ⟨rfl, hbl⟩; obtain ⟨hc, hf, hz⟩ := cif hbl; (try simp only [World.size_alloc, World.size_setCell, World.size_drew, World.heap_drewN] at hz)) | (go_at_call 56; (with_reducible refine (GA.out _ (by (repeat' (first | (with_reducible exact Below.refl _ _) | (with_reducible assumption) | (with_reducible refine Below.setCell ?_ ?_ _) | (with_reducible refine Below.alloc ?_ ?_ _) | (with_reducible refine Below.drew ?_) | (with_reducible refine below_drewN ?_ _) | (with_reducible refine below_next ?_ (by with_reducible assumption)) | omega | (dsimp only; omega) | (simp only [World.size_alloc, World.size_setCell, World.size_drew, World.heap_drewN]; omega))))).mono ?_); rintro e w5 ⟨rfl, hb5⟩; obtain ⟨hc5, hf5, hz5⟩ := cif hb5; (try simp only [World.size_alloc, World.size_setCell, World.size_drew, World.heap_drewN] at hz5)))
  go_cut [12, 13] (fun s12 s13 wx => ∃ b, s12 = .pointer (some ⟨b, 0, none⟩) ∧ s13 = .bool true ∧ Below w.heap.size w wx ∧ w5.heap.size < wx.heap.size ∧ b < wx.heap.size ∧
    wx.cell? ⟨w5.heap.size, 0, none⟩ = some (.int .i64 k1) ∧ wx.cell? ⟨w5.heap.size, 1, none⟩ = some (.int .i64 s1) ∧ wx.cell? ⟨w5.heap.size, 2, none⟩ = some (.int .i64 l1) ∧ wx.cell? ⟨w5.heap.size, 3, none⟩ = some (.bool f1) ∧ wx.cell? ⟨w5.heap.size, 4, none⟩ = some (.string n1) ∧ wx.cell? ⟨w5.heap.size, 5, none⟩ = some (.slice A1 m1 c1) ∧ wx.cell? ⟨w5.heap.size, 6, none⟩ = some (.slice A3 m3 c3) ∧
    wx.cell? ⟨b, 0, none⟩ = some (.int .i64 k2) ∧ wx.cell? ⟨b, 1, none⟩ = some (.int .i64 s2) ∧ wx.cell? ⟨b, 2, none⟩ = some (.int .i64 l2) ∧ wx.cell? ⟨b, 3, none⟩ = some (.bool f2) ∧ wx.cell? ⟨b, 4, none⟩ = some (.string n2) ∧ wx.cell? ⟨b, 5, none⟩ = some (.slice A2 m2 c2) ∧ wx.cell? ⟨b, 6, none⟩ = some (.slice A4 m4 c4))
  case first =>
    go_region_held3 (fun W => Ext w W ∧ W.cell? ⟨w.heap.size + 1, 0, none⟩ = some (.int .i64 7) ∧ W.cell? ⟨w.heap.size + 1, 1, none⟩ = some (.int .i64 s) ∧ W.cell? ⟨w.heap.size + 1, 2, none⟩ = some (.int .i64 l) ∧ W.cell? ⟨w.heap.size + 1, 3, none⟩ = some (.bool f) ∧ W.cell? ⟨w.heap.size + 1, 4, none⟩ = some (.string n) ∧ W.cell? ⟨w.heap.size + 1, 5, none⟩ = some (.slice A m c))
      (first | exact ⟨by unfold Ext at *; (repeat' (first | (with_reducible exact Below.refl _ _) | (with_reducible assumption) | (with_reducible refine Below.setCell ?_ ?_ _) | (with_reducible refine Below.alloc ?_ ?_ _) | (with_reducible refine Below.drew ?_) | (with_reducible refine below_drewN ?_ _) | (with_reducible refine below_next ?_ (by with_reducible assumption)) | omega | (dsimp only; omega) | (simp only [World.size_alloc, World.size_setCell, World.size_drew, World.heap_drewN]; omega))), by simp [*, ↓IntWalk.iteOmega], by simp [*, ↓IntWalk.iteOmega], by simp [*, ↓IntWalk.iteOmega], by simp [*, ↓IntWalk.iteOmega], by simp [*, ↓IntWalk.iteOmega], by simp [*, ↓IntWalk.iteOmega]⟩)
      (first | (go_at_call 56; (with_reducible refine (GB.out _ (by (repeat' (first | (with_reducible exact Below.refl _ _) | (with_reducible assumption) | (with_reducible refine Below.setCell ?_ ?_ _) | (with_reducible refine Below.alloc ?_ ?_ _) | (with_reducible refine Below.drew ?_) | (with_reducible refine below_drewN ?_ _) | (with_reducible refine below_next ?_ (by with_reducible assumption)) | omega | (dsimp only; omega) | (simp only [World.size_alloc, World.size_setCell, World.size_drew, World.heap_drewN]; omega))))).mono ?_); rintro e w6 ⟨rfl, hb6⟩; obtain ⟨hc6, hf6, hz6⟩ := cif hb6; (try simp only [World.size_alloc, World.size_setCell, World.size_drew, World.heap_drewN] at hz6)))
    all_goals (
      go_wp2_with fail
      go_meet
      refine ⟨_, rfl, rfl, by (repeat' (first | (with_reducible exact Below.refl _ _) | (with_reducible assumption) | (with_reducible refine Below.setCell ?_ ?_ _) | (with_reducible refine Below.alloc ?_ ?_ _) | (with_reducible refine Below.drew ?_) | (with_reducible refine below_drewN ?_ _) | (with_reducible refine below_next ?_ (by with_reducible assumption)) | omega | (dsimp only; omega) | (simp only [World.size_alloc, World.size_setCell, World.size_drew, World.heap_drewN]; omega))), ?_, ?_, ?_, ?_, ?_, ?_, ?_, ?_, ?_, ?_, ?_, ?_, ?_, ?_, ?_, ?_⟩)
    all_goals (first | omega | (simp; omega) | (simp [*, ↓IntWalk.iteOmega]; done) | (intro o; simp [*, ↓IntWalk.iteOmega]; done))
  case rest =>
    obtain ⟨b, rfl, rfl, hwb, hx1, hx2, x0, x1, x2, x3, x4, x5, x6, y0, y1, y2, y3, y4, y5, y6⟩ := hcut
    clear hc5 hf5
    by_cases hlen : m3 = m4
    · subst hlen
      go_wp2_with (go_at_call 18; (with_reducible refine (HI.out _ (by (repeat' (first | (with_reducible exact Below.refl _ _) | (with_reducible assumption) | (with_reducible refine Below.setCell ?_ ?_ _) | (with_reducible refine Below.alloc ?_ ?_ _) | (with_reducible refine Below.drew ?_) | (with_reducible refine below_drewN ?_ _) | (with_reducible refine below_next ?_ (by with_reducible assumption)) | omega | (dsimp only; omega) | (simp only [World.size_alloc, World.size_setCell, World.size_drew, World.heap_drewN]; omega))))).mono ?_); rintro e w7 ⟨v, rfl, hv, hb7⟩; obtain ⟨hc7, hf7, hz7⟩ := cif hb7; (try simp only [World.size_alloc, World.size_setCell, World.size_drew, World.heap_drewN] at hz7); have HQ := Lib.hid hv; clear hv; cases v)
      · go_returns
        exact ⟨false, rfl, by have := HQ.out; simp at this; simp [er, this], by (repeat' (first | (with_reducible exact Below.refl _ _) | (with_reducible assumption) | (with_reducible refine Below.setCell ?_ ?_ _) | (with_reducible refine Below.alloc ?_ ?_ _) | (with_reducible refine Below.drew ?_) | (with_reducible refine below_drewN ?_ _) | (with_reducible refine below_next ?_ (by with_reducible assumption)) | omega | (dsimp only; omega) | (simp only [World.size_alloc, World.size_setCell, World.size_drew, World.heap_drewN]; omega)))⟩
      have hR : er r = er r2 := by have := HQ.out; simpa using this
      have HRR := Lib.hid hR
      clear hR HQ HI
      have hw7 : Below w.heap.size w w7 := by (repeat' (first | (with_reducible exact Below.refl _ _) | (with_reducible assumption) | (with_reducible refine Below.setCell ?_ ?_ _) | (with_reducible refine Below.alloc ?_ ?_ _) | (with_reducible refine Below.drew ?_) | (with_reducible refine below_drewN ?_ _) | (with_reducible refine below_next ?_ (by with_reducible assumption)) | omega | (dsimp only; omega) | (simp only [World.size_alloc, World.size_setCell, World.size_drew, World.heap_drewN]; omega)))
      have z6 : w7.cell? ⟨w5.heap.size, 6, none⟩ = some (.slice A3 m3 c3) := by simp [*, ↓IntWalk.iteOmega]
      have z7 : w7.cell? ⟨b, 6, none⟩ = some (.slice A4 m3 c4) := by simp [*, ↓IntWalk.iteOmega]
      have hx7 : w5.heap.size < w7.heap.size := by omega
      have hy7 : b < w7.heap.size := by omega
      clear x0 x1 x2 x3 x4 x5 x6 y0 y1 y2 y3 y4 y5 y6 hc7 hf7
      go_loopw [14] (fun i wr => ∃ k : Nat, k ≤ m3 ∧ i = .int .i64 k ∧ Ext w7 wr ∧ Hid (∀ (i : Nat) (x y : Ty), i < k → ps[i]? = some x → ps2[i]? = some y → er x = er y)) (fun i _ => m3 - (intOf i).toNat)
      case atStart => exact ⟨0, by omega, rfl, Below.refl _ _, fun i x y hi => absurd hi (by omega)⟩
      case round =>
        obtain ⟨k, hk, rfl, hX, HT⟩ := hrel
        have hXb := Ext.of hX
        have hz8 := hXb.size
        have u6 := (hXb.cell (p := ⟨w5.heap.size, 6, none⟩) hx7).trans z6
        have u7 := (hXb.cell (p := ⟨b, 6, none⟩) hy7).trans z7
        by_cases hlt : k < m3
        · have hlt1 : k < ps.length := by rw [ML1.out]; exact hlt
          have hlt2 : k < ps2.length := by rw [ML2.out]; exact hlt
          obtain ⟨x, e1⟩ : ∃ x, ps[k]? = some x := ⟨_, List.getElem?_eq_getElem hlt1⟩
          obtain ⟨y, e2⟩ : ∃ y, ps2[k]? = some y := ⟨_, List.getElem?_eq_getElem hlt2⟩
          obtain ⟨g3, o3, cc3, ev3, _, hcc3, hlt3, hc3⟩ := P1.out.some_ (by omega)
          obtain ⟨g4, o4, cc4, ev4, _, hcc4, hlt4, hc4⟩ := P2.out.some_ (by omega)
          injection ev3 with ev30 ev31 ev32
          injection ev4 with ev40 ev41 ev42
          subst ev30 ev40
          clear ev31 ev32 ev41 ev42
          have hwr : Below w.heap.size w wr := by unfold Ext at *; (repeat' (first | (with_reducible exact Below.refl _ _) | (with_reducible assumption) | (with_reducible refine Below.setCell ?_ ?_ _) | (with_reducible refine Below.alloc ?_ ?_ _) | (with_reducible refine Below.drew ?_) | (with_reducible refine below_drewN ?_ _) | (with_reducible refine below_next ?_ (by with_reducible assumption)) | omega | (dsimp only; omega) | (simp only [World.size_alloc, World.size_setCell, World.size_drew, World.heap_drewN]; omega)))
          have q1 := G1.out.mem x (List.mem_of_getElem? e1)
          have q2 := G2.out.mem y (List.mem_of_getElem? e2)
          obtain ⟨ka, sa, la, fa, na, Aa, ma, ca, ea⟩ := tyC_form x q1
          obtain ⟨kb, sb, lb, fb, nb, Ab, mb, cb, eb⟩ := tyC_form y q2
          obtain ⟨p1, p2, p3, p4, p5, p6⟩ := RdL.tyAt hc3 e1 ea
          obtain ⟨r1, r2', r3, r4, r5, r6⟩ := RdL.tyAt hc4 e2 eb
          have p1' := (hwr.cell (p := ⟨g3, _, none⟩) hlt3).trans p1
          have p2' := (hwr.cell (p := ⟨g3, _, none⟩) hlt3).trans p2
          have p3' := (hwr.cell (p := ⟨g3, _, none⟩) hlt3).trans p3
          have p4' := (hwr.cell (p := ⟨g3, _, none⟩) hlt3).trans p4
          have p5' := (hwr.cell (p := ⟨g3, _, none⟩) hlt3).trans p5
          have p6' := (hwr.cell (p := ⟨g3, _, none⟩) hlt3).trans p6
          have r1' := (hwr.cell (p := ⟨g4, _, none⟩) hlt4).trans r1
          have r2'' := (hwr.cell (p := ⟨g4, _, none⟩) hlt4).trans r2'
          have r3' := (hwr.cell (p := ⟨g4, _, none⟩) hlt4).trans r3
          have r4' := (hwr.cell (p := ⟨g4, _, none⟩) hlt4).trans r4
          have r5' := (hwr.cell (p := ⟨g4, _, none⟩) hlt4).trans r5
          have r6' := (hwr.cell (p := ⟨g4, _, none⟩) hlt4).trans r6
          have hwz := hwr.size
          have HS : ∀ W, Below wr.heap.size wr W → Calls Tryd.prog 18 #[.agg #[.int .i64 ka, .int .i64 sa, .int .i64 la, .bool fa, .string na, .slice Aa ma ca], .agg #[.int .i64 kb, .int .i64 sb, .int .i64 lb, .bool fb, .string nb, .slice Ab mb cb]] W (BoolP (er x = er y) W) := fun W hW => by
            have h := IHS.out x (List.mem_of_getElem? e1) y W ((q1.next hwr).next hW) ((q2.next hwr).next hW)
            rw [tyV_of ea, tyV_of eb] at h
            exact h
          have E1 := Lib.hid e1
          have E2 := Lib.hid e2
          clear p1 p2 p3 p4 p5 p6 r1 r2' r3 r4 r5 r6 e1 e2 q1 q2 ea eb hc3 hc4 z6 z7
          by_cases hxy : er x = er y
          · have HI : Hid (∀ W, Below wr.heap.size wr W → Calls Tryd.prog 18 #[.agg #[.int .i64 ka, .int .i64 sa, .int .i64 la, .bool fa, .string na, .slice Aa ma ca], .agg #[.int .i64 kb, .int .i64 sb, .int .i64 lb, .bool fb, .string nb, .slice Ab mb cb]] W fun e w' => e = .returned (.bool true) ∧ Below W.heap.size W w') := Lib.hid fun W hW => boolp_yes (HS W hW) hxy
            have HXY := Lib.hid hxy
            clear HS hxy
            go_wp2
            refine wp_region_ext (by kernel_rfl) (by kernel_rfl) ?_
            repeat (first | go_big_quiet_skip | (go_big_quiet_want; go_big_quiet_op; first | go_big_quiet_on | (apply Exists.intro; refine ⟨fun W hW => ?_, ?_⟩; (focus (first
              | (go_at_call 18; have hWb := Ext.of hW; (with_reducible refine (HI.out _ (by (repeat' (first | (with_reducible exact Below.refl _ _) | (with_reducible assumption) | (with_reducible refine Below.setCell ?_ ?_ _) | (with_reducible refine Below.alloc ?_ ?_ _) | (with_reducible refine Below.drew ?_) | (with_reducible refine below_drewN ?_ _) | (with_reducible refine below_next ?_ (by with_reducible assumption)) | omega | (dsimp only; omega) | (simp only [World.size_alloc, World.size_setCell, World.size_drew, World.heap_drewN]; omega))))).mono ?_); rintro e w1 ⟨rfl, hb⟩; exact ⟨rfl, Ext.next hW hb⟩)
              | exact rfl | (obtain ⟨hcW, hfW, hzW⟩ := cif (Ext.of hW); (try simp only [World.size_alloc, World.size_setCell, World.size_drew, World.heap_drewN] at hzW); simp [go_sem, *, ↓IntWalk.iteOmega]; (try exact rfl)))); go_big_quiet_on)))
            refine wpQuiet_nil ?_
            intro w' hw'
            have hbl := Ext.of hw'
            obtain ⟨hc, hf, hz⟩ := cif hbl
            (try simp only [World.size_alloc, World.size_setCell, World.size_drew, World.heap_drewN] at hz)
            clear hw'
            go_wp2
            go_roundw
            case rel => exact ⟨k + 1, by omega, by go_num, by unfold Ext at *; (repeat' (first | (with_reducible exact Below.refl _ _) | (with_reducible assumption) | (with_reducible refine Below.setCell ?_ ?_ _) | (with_reducible refine Below.alloc ?_ ?_ _) | (with_reducible refine Below.drew ?_) | (with_reducible refine below_drewN ?_ _) | (with_reducible refine below_next ?_ (by with_reducible assumption)) | omega | (dsimp only; omega) | (simp only [World.size_alloc, World.size_setCell, World.size_drew, World.heap_drewN]; omega))), ers_snoc HT.out E1.out E2.out HXY.out⟩
            case measure => simp [intOf]; omega
          · have HI : Hid (∀ W, Below wr.heap.size wr W → Calls Tryd.prog 18 #[.agg #[.int .i64 ka, .int .i64 sa, .int .i64 la, .bool fa, .string na, .slice Aa ma ca], .agg #[.int .i64 kb, .int .i64 sb, .int .i64 lb, .bool fb, .string nb, .slice Ab mb cb]] W fun e w' => e = .returned (.bool false) ∧ Below W.heap.size W w') := Lib.hid fun W hW => boolp_no (HS W hW) hxy
            have HXY := Lib.hid hxy
            clear HS hxy
            go_wp2
            refine wp_region_ext (by kernel_rfl) (by kernel_rfl) ?_
            repeat (first | go_big_quiet_skip | (go_big_quiet_want; go_big_quiet_op; first | go_big_quiet_on | (apply Exists.intro; refine ⟨fun W hW => ?_, ?_⟩; (focus (first
              | (go_at_call 18; have hWb := Ext.of hW; (with_reducible refine (HI.out _ (by (repeat' (first | (with_reducible exact Below.refl _ _) | (with_reducible assumption) | (with_reducible refine Below.setCell ?_ ?_ _) | (with_reducible refine Below.alloc ?_ ?_ _) | (with_reducible refine Below.drew ?_) | (with_reducible refine below_drewN ?_ _) | (with_reducible refine below_next ?_ (by with_reducible assumption)) | omega | (dsimp only; omega) | (simp only [World.size_alloc, World.size_setCell, World.size_drew, World.heap_drewN]; omega))))).mono ?_); rintro e w1 ⟨rfl, hb⟩; exact ⟨rfl, Ext.next hW hb⟩)
              | exact rfl | (obtain ⟨hcW, hfW, hzW⟩ := cif (Ext.of hW); (try simp only [World.size_alloc, World.size_setCell, World.size_drew, World.heap_drewN] at hzW); simp [go_sem, *, ↓IntWalk.iteOmega]; (try exact rfl)))); go_big_quiet_on)))
            refine wpQuiet_nil ?_
            intro w' hw'
            have hbl := Ext.of hw'
            obtain ⟨hc, hf, hz⟩ := cif hbl
            (try simp only [World.size_alloc, World.size_setCell, World.size_drew, World.heap_drewN] at hz)
            clear hw'
            go_wp2
            go_returns
            refine ⟨false, rfl, ?_, by unfold Ext at *; (repeat' (first | (with_reducible exact Below.refl _ _) | (with_reducible assumption) | (with_reducible refine Below.setCell ?_ ?_ _) | (with_reducible refine Below.alloc ?_ ?_ _) | (with_reducible refine Below.drew ?_) | (with_reducible refine below_drewN ?_ _) | (with_reducible refine below_next ?_ (by with_reducible assumption)) | omega | (dsimp only; omega) | (simp only [World.size_alloc, World.size_setCell, World.size_drew, World.heap_drewN]; omega)))⟩
            simp [er]
            intro _ h
            exact HXY.out (((ers_eq ps ps2).1 h).2 k _ _ E1.out E2.out)
        · have hkn : k = m3 := by omega
          subst hkn
          go_wp2
          go_returns
          refine ⟨true, rfl, ?_, by unfold Ext at *; (repeat' (first | (with_reducible exact Below.refl _ _) | (with_reducible assumption) | (with_reducible refine Below.setCell ?_ ?_ _) | (with_reducible refine Below.alloc ?_ ?_ _) | (with_reducible refine Below.drew ?_) | (with_reducible refine below_drewN ?_ _) | (with_reducible refine below_next ?_ (by with_reducible assumption)) | omega | (dsimp only; omega) | (simp only [World.size_alloc, World.size_setCell, World.size_drew, World.heap_drewN]; omega)))⟩
          have ht := HT.out
          simp [er, HRR.out]
          refine (ers_eq ps ps2).2 ⟨by rw [ML1.out, ML2.out], fun i x y hx hy => ht i x y ?_ hx hy⟩
          rcases Nat.lt_or_ge i ps.length with h1 | h1
          · rw [← ML1.out]; exact h1
          · rw [List.getElem?_eq_none h1] at hx; cases hx
    · have hd : (((m3 : Nat) : Int) != ((m4 : Nat) : Int)) = true := by rw [bne_iff_ne]; omega
      go_wp2_with (go_at_call 18; (with_reducible refine (HI.out _ (by (repeat' (first | (with_reducible exact Below.refl _ _) | (with_reducible assumption) | (with_reducible refine Below.setCell ?_ ?_ _) | (with_reducible refine Below.alloc ?_ ?_ _) | (with_reducible refine Below.drew ?_) | (with_reducible refine below_drewN ?_ _) | (with_reducible refine below_next ?_ (by with_reducible assumption)) | omega | (dsimp only; omega) | (simp only [World.size_alloc, World.size_setCell, World.size_drew, World.heap_drewN]; omega))))).mono ?_); rintro e w7 ⟨v, rfl, hv, hb7⟩; obtain ⟨hc7, hf7, hz7⟩ := cif hb7; (try simp only [World.size_alloc, World.size_setCell, World.size_drew, World.heap_drewN] at hz7); have HQ := Lib.hid hv; clear hv; cases v)
      · go_returns
        exact ⟨false, rfl, by have := HQ.out; simp at this; simp [er, this], by (repeat' (first | (with_reducible exact Below.refl _ _) | (with_reducible assumption) | (with_reducible refine Below.setCell ?_ ?_ _) | (with_reducible refine Below.alloc ?_ ?_ _) | (with_reducible refine Below.drew ?_) | (with_reducible refine below_drewN ?_ _) | (with_reducible refine below_next ?_ (by with_reducible assumption)) | omega | (dsimp only; omega) | (simp only [World.size_alloc, World.size_setCell, World.size_drew, World.heap_drewN]; omega)))⟩
      go_returns
      refine ⟨false, rfl, ?_, by (repeat' (first | (with_reducible exact Below.refl _ _) | (with_reducible assumption) | (with_reducible refine Below.setCell ?_ ?_ _) | (with_reducible refine Below.alloc ?_ ?_ _) | (with_reducible refine Below.drew ?_) | (with_reducible refine below_drewN ?_ _) | (with_reducible refine below_next ?_ (by with_reducible assumption)) | omega | (dsimp only; omega) | (simp only [World.size_alloc, World.size_setCell, World.size_drew, World.heap_drewN]; omega)))⟩
      simp [er]
      intro _ h
      have := ((ers_eq ps ps2).1 h).1
      rw [ML1.out, ML2.out] at this
      exact hlen this
theorem kN_7 {b : Ty} (h : kN b = 7) : ∃ sv r ps, b = .fn sv r ps := by
  cases b <;> simp [kN] at h
  exact ⟨_, _, _, rfl⟩
theorem rsame_fn (sv : Value) (r : Ty) (ps : List Ty) (b : Ty) (w : World) (ha : RdT w (.fn sv r ps)) (hb : RdT w b) (hn : ¬ b = .none) (ih : SameAt 18 r) (ihs : ∀ x ∈ ps, SameAt 18 x) : Calls Tryd.prog 18 #[tyV (.fn sv r ps), tyV b] w (BoolP (er (.fn sv r ps) = er b) w) := by
  by_cases h7 : kN b = 7
  · obtain ⟨sv2, r2, ps2, rfl⟩ := kN_7 h7
    exact rsame_fn_yes sv sv2 r r2 ps ps2 w ha hb ih ihs
  · exact rsame_fn_no sv r ps b w ha hb hn h7
theorem rsame_of {a : Ty} (hn : ∀ (b : Ty) (w : World), RdT w a → RdT w b → ¬ b = .none → Calls Tryd.prog 18 #[tyV a, tyV b] w (BoolP (er a = er b) w)) : SameAt 18 a := by
  intro b w ha hb
  by_cases h : b = .none
  · subst h; exact rsame_none_right a w ha
  · exact hn b w ha hb h
mutual
theorem rsame_any : ∀ (a : Ty), SameAt 18 a
  | .none => rsame_of fun b w ha hb hn => rsame_none_left b w hb hn
  | .void => rsame_of fun b w ha hb hn => rsame_void b w hb hn
  | .flt => rsame_of fun b w ha hb hn => rsame_flt b w hb hn
  | .num s u => rsame_of fun b w ha hb hn => rsame_num s u b w hb hn
  | .rcd u n => rsame_of fun b w ha hb hn => rsame_rcd u n b w hb hn
  | .ptr sv t => rsame_of fun b w ha hb hn => rsame_ptr sv t b w ha hb hn (rsame_any t)
  | .arr sv d t => rsame_of fun b w ha hb hn => rsame_arr sv d t b w ha hb hn (rsame_any t)
  | .fn sv r ps => rsame_of fun b w ha hb hn => rsame_fn sv r ps b w ha hb hn (rsame_any r) (rsame_all ps)
theorem rsame_all : ∀ (l : List Ty), ∀ x ∈ l, SameAt 18 x
  | [], x, hx => by simp at hx
  | t :: l, x, hx => by
    rcases List.mem_cons.1 hx with h | h
    · rw [h]; exact rsame_any t
    · exact rsame_all l x h
end

end Go.Proofs.YteeojgepgjndgaaDoor
