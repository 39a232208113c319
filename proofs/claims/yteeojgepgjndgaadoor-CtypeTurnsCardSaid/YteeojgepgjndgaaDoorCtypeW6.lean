/-
  The operations of a conversion: the program's, the reference's.
-/
import Derived.Test.YteeojgepgjndgaaDoorCtypeW4
namespace Go.Proofs.YteeojgepgjndgaaDoor
open Go.RowKit
set_option linter.unusedVariables false
set_option linter.unusedSimpArgs false

def intC (n : Int) : List Value := [.int .i64 n]
/-- A row of whole numbers is answered. -/
def IntsP (l : List Int) (w : World) (e : Ending) (w' : World) : Prop := ∃ A c, e = .returned (.slice A l.length c) ∧ RdL intC 1 w' (.slice A l.length c) l ∧ Below w.heap.size w w'
theorem ints_none {w w' : World} (hb : Below w.heap.size w w') : IntsP [] w (.returned (.slice none 0 0)) w' := ⟨_, _, rfl, RdL.nil _ _ _, hb⟩
theorem rdl_one {w : World} {b : Nat} {n : Int} (hb : b < w.heap.size) (h : w.cell? ⟨b, 0, none⟩ = some (.int .i64 n)) : RdL intC 1 w (.slice (some ⟨b, 0, none⟩) 1 1) [n] := by
  refine ⟨_, _, rfl, Nat.le_refl _, by decide, fun _ => ⟨b, 0, rfl, hb, fun i a ha j v hv => ?_⟩⟩
  cases i with
  | succ i => simp at ha
  | zero =>
    simp at ha; subst ha
    match j, hv with
    | 0, hv => simp [intC] at hv; subst hv; exact h
theorem ints_one {w w' : World} {b : Nat} {n : Int} (hb : b < w'.heap.size) (h : w'.cell? ⟨b, 0, none⟩ = some (.int .i64 n)) (hw : Below w.heap.size w w') : IntsP [n] w (.returned (.slice (some ⟨b, 0, none⟩) 1 1)) w' :=
  ⟨_, _, rfl, rdl_one hb h, hw⟩
theorem intC_one (l : List Int) : ∀ a ∈ l, ∀ u ∈ intC a, u.oneCell' = true := by
  intro a _ u hu
  simp [intC] at hu; subst hu; rfl
theorem int_info : (Tryd.prog.info? 3).map (fun i => (i.zero, i.size, i.bytes)) = some (some (.int .i64 0), 1, 8) := by kernel_rfl
theorem narrow_len (s : Int) (u : Bool) : (narrow s u).length ≤ 1 := by unfold narrow; (repeat' split) <;> simp

set_option maxRecDepth 100000 in
set_option maxHeartbeats 1000000 in
theorem narrow_any (s : Int) (u : Bool) (w : World) : Calls Tryd.prog 87 #[.agg #[.int .i64 s, .bool u]] w (IntsP (narrow s u) w) := by
  unfold narrow
  by_cases h1 : s = 1
  · subst h1
    rw [if_pos rfl]
    have hA1 := cell_alloc_if
    have hA2 := frozen_alloc_if
    have hA3 := cell_set_if
    go_enter Tryd.func87, Tryd.ntmps87
    go_wp2_with (go_at_call 64; (with_reducible refine (pick_any _ _ _ _).mono ?_); rintro e w' ⟨rfl, rfl⟩)
    all_goals (go_returns; clear hA1 hA2 hA3; first | exact ints_none (by (repeat' (first | (with_reducible exact Below.refl _ _) | (with_reducible assumption) | (with_reducible refine Below.setCell ?_ ?_ _) | (with_reducible refine Below.alloc ?_ ?_ _) | (with_reducible refine Below.drew ?_) | (with_reducible refine below_drewN ?_ _) | (with_reducible refine below_next ?_ (by with_reducible assumption)) | omega | (dsimp only; omega) | (simp only [World.size_alloc, World.size_setCell, World.size_drew, World.heap_drewN]; omega)))) | (refine ints_one (by simp) ?_ (by (repeat' (first | (with_reducible exact Below.refl _ _) | (with_reducible assumption) | (with_reducible refine Below.setCell ?_ ?_ _) | (with_reducible refine Below.alloc ?_ ?_ _) | (with_reducible refine Below.drew ?_) | (with_reducible refine below_drewN ?_ _) | (with_reducible refine below_next ?_ (by with_reducible assumption)) | omega | (dsimp only; omega) | (simp only [World.size_alloc, World.size_setCell, World.size_drew, World.heap_drewN]; omega)))); simp [cell_alloc_if, *, ↓IntWalk.iteOmega]))
  · rw [if_neg h1]
    by_cases h2 : s = 2
    · subst h2
      rw [if_pos rfl]
      have hA1 := cell_alloc_if
      have hA2 := frozen_alloc_if
      have hA3 := cell_set_if
      go_enter Tryd.func87, Tryd.ntmps87
      go_wp2_with (go_at_call 64; (with_reducible refine (pick_any _ _ _ _).mono ?_); rintro e w' ⟨rfl, rfl⟩)
      all_goals (go_returns; clear hA1 hA2 hA3; first | exact ints_none (by (repeat' (first | (with_reducible exact Below.refl _ _) | (with_reducible assumption) | (with_reducible refine Below.setCell ?_ ?_ _) | (with_reducible refine Below.alloc ?_ ?_ _) | (with_reducible refine Below.drew ?_) | (with_reducible refine below_drewN ?_ _) | (with_reducible refine below_next ?_ (by with_reducible assumption)) | omega | (dsimp only; omega) | (simp only [World.size_alloc, World.size_setCell, World.size_drew, World.heap_drewN]; omega)))) | (refine ints_one (by simp) ?_ (by (repeat' (first | (with_reducible exact Below.refl _ _) | (with_reducible assumption) | (with_reducible refine Below.setCell ?_ ?_ _) | (with_reducible refine Below.alloc ?_ ?_ _) | (with_reducible refine Below.drew ?_) | (with_reducible refine below_drewN ?_ _) | (with_reducible refine below_next ?_ (by with_reducible assumption)) | omega | (dsimp only; omega) | (simp only [World.size_alloc, World.size_setCell, World.size_drew, World.heap_drewN]; omega)))); simp [cell_alloc_if, *, ↓IntWalk.iteOmega]))
    · rw [if_neg h2]
      have d1 : (s == 1) = false := by simpa using h1
      have d2 : (s == 2) = false := by simpa using h2
      have hA1 := cell_alloc_if
      have hA2 := frozen_alloc_if
      have hA3 := cell_set_if
      go_enter Tryd.func87, Tryd.ntmps87
      go_wp2
      all_goals (go_returns; clear hA1 hA2 hA3; first | exact ints_none (by (repeat' (first | (with_reducible exact Below.refl _ _) | (with_reducible assumption) | (with_reducible refine Below.setCell ?_ ?_ _) | (with_reducible refine Below.alloc ?_ ?_ _) | (with_reducible refine Below.drew ?_) | (with_reducible refine below_drewN ?_ _) | (with_reducible refine below_next ?_ (by with_reducible assumption)) | omega | (dsimp only; omega) | (simp only [World.size_alloc, World.size_setCell, World.size_drew, World.heap_drewN]; omega)))) | (refine ints_one (by simp) ?_ (by (repeat' (first | (with_reducible exact Below.refl _ _) | (with_reducible assumption) | (with_reducible refine Below.setCell ?_ ?_ _) | (with_reducible refine Below.alloc ?_ ?_ _) | (with_reducible refine Below.drew ?_) | (with_reducible refine below_drewN ?_ _) | (with_reducible refine below_next ?_ (by with_reducible assumption)) | omega | (dsimp only; omega) | (simp only [World.size_alloc, World.size_setCell, World.size_drew, World.heap_drewN]; omega)))); simp [cell_alloc_if, *, ↓IntWalk.iteOmega]))
set_option maxRecDepth 100000 in
set_option maxHeartbeats 1000000 in
theorem toFloat_any (s : Int) (u : Bool) (w : World) : Calls Tryd.prog 69 #[.agg #[.int .i64 s, .bool u]] w (IntsP (toF s u) w) := by
  unfold toF
  by_cases h1 : s = 8
  · subst h1
    rw [if_pos rfl]
    have hA1 := cell_alloc_if
    have hA2 := frozen_alloc_if
    have hA3 := cell_set_if
    go_enter Tryd.func69, Tryd.ntmps69
    go_wp2_with (go_at_call 64; (with_reducible refine (pick_any _ _ _ _).mono ?_); rintro e w' ⟨rfl, rfl⟩)
    all_goals (go_returns; clear hA1 hA2 hA3; first | exact ints_none (by (repeat' (first | (with_reducible exact Below.refl _ _) | (with_reducible assumption) | (with_reducible refine Below.setCell ?_ ?_ _) | (with_reducible refine Below.alloc ?_ ?_ _) | (with_reducible refine Below.drew ?_) | (with_reducible refine below_drewN ?_ _) | (with_reducible refine below_next ?_ (by with_reducible assumption)) | omega | (dsimp only; omega) | (simp only [World.size_alloc, World.size_setCell, World.size_drew, World.heap_drewN]; omega)))) | (refine ints_one (by simp) ?_ (by (repeat' (first | (with_reducible exact Below.refl _ _) | (with_reducible assumption) | (with_reducible refine Below.setCell ?_ ?_ _) | (with_reducible refine Below.alloc ?_ ?_ _) | (with_reducible refine Below.drew ?_) | (with_reducible refine below_drewN ?_ _) | (with_reducible refine below_next ?_ (by with_reducible assumption)) | omega | (dsimp only; omega) | (simp only [World.size_alloc, World.size_setCell, World.size_drew, World.heap_drewN]; omega)))); simp [cell_alloc_if, *, ↓IntWalk.iteOmega]))
  · rw [if_neg h1]
    by_cases h2 : s = 4
    · subst h2
      rw [if_pos rfl]
      have hA1 := cell_alloc_if
      have hA2 := frozen_alloc_if
      have hA3 := cell_set_if
      go_enter Tryd.func69, Tryd.ntmps69
      go_wp2_with (go_at_call 64; (with_reducible refine (pick_any _ _ _ _).mono ?_); rintro e w' ⟨rfl, rfl⟩)
      all_goals (go_returns; clear hA1 hA2 hA3; first | exact ints_none (by (repeat' (first | (with_reducible exact Below.refl _ _) | (with_reducible assumption) | (with_reducible refine Below.setCell ?_ ?_ _) | (with_reducible refine Below.alloc ?_ ?_ _) | (with_reducible refine Below.drew ?_) | (with_reducible refine below_drewN ?_ _) | (with_reducible refine below_next ?_ (by with_reducible assumption)) | omega | (dsimp only; omega) | (simp only [World.size_alloc, World.size_setCell, World.size_drew, World.heap_drewN]; omega)))) | (refine ints_one (by simp) ?_ (by (repeat' (first | (with_reducible exact Below.refl _ _) | (with_reducible assumption) | (with_reducible refine Below.setCell ?_ ?_ _) | (with_reducible refine Below.alloc ?_ ?_ _) | (with_reducible refine Below.drew ?_) | (with_reducible refine below_drewN ?_ _) | (with_reducible refine below_next ?_ (by with_reducible assumption)) | omega | (dsimp only; omega) | (simp only [World.size_alloc, World.size_setCell, World.size_drew, World.heap_drewN]; omega)))); simp [cell_alloc_if, *, ↓IntWalk.iteOmega]))
    · rw [if_neg h2]
      have d1 : (s == 8) = false := by simpa using h1
      have d2 : (s == 4) = false := by simpa using h2
      have hA1 := cell_alloc_if
      have hA2 := frozen_alloc_if
      have hA3 := cell_set_if
      go_enter Tryd.func69, Tryd.ntmps69
      go_wp2
      all_goals (go_returns; clear hA1 hA2 hA3; first | exact ints_none (by (repeat' (first | (with_reducible exact Below.refl _ _) | (with_reducible assumption) | (with_reducible refine Below.setCell ?_ ?_ _) | (with_reducible refine Below.alloc ?_ ?_ _) | (with_reducible refine Below.drew ?_) | (with_reducible refine below_drewN ?_ _) | (with_reducible refine below_next ?_ (by with_reducible assumption)) | omega | (dsimp only; omega) | (simp only [World.size_alloc, World.size_setCell, World.size_drew, World.heap_drewN]; omega)))) | (refine ints_one (by simp) ?_ (by (repeat' (first | (with_reducible exact Below.refl _ _) | (with_reducible assumption) | (with_reducible refine Below.setCell ?_ ?_ _) | (with_reducible refine Below.alloc ?_ ?_ _) | (with_reducible refine Below.drew ?_) | (with_reducible refine below_drewN ?_ _) | (with_reducible refine below_next ?_ (by with_reducible assumption)) | omega | (dsimp only; omega) | (simp only [World.size_alloc, World.size_setCell, World.size_drew, World.heap_drewN]; omega)))); simp [cell_alloc_if, *, ↓IntWalk.iteOmega]))

set_option maxRecDepth 100000 in
set_option maxHeartbeats 1000000 in
theorem fromFloat_any (s : Int) (u : Bool) (w : World) : Calls Tryd.prog 68 #[.agg #[.int .i64 s, .bool u]] w (IntsP (fromF s u) w) := by
  obtain ⟨i0, hi0, hz0, hz1, hz2⟩ := info_parts int_info
  unfold fromF
  by_cases h1 : s = 8
  · subst h1
    rw [if_pos rfl]
    have hA1 := cell_alloc_if
    have hA2 := frozen_alloc_if
    have hA3 := cell_set_if
    go_enter Tryd.func68, Tryd.ntmps68
    go_wp2_with (go_at_call 64; (with_reducible refine (pick_any _ _ _ _).mono ?_); rintro e w' ⟨rfl, rfl⟩)
    all_goals (go_returns; clear hA1 hA2 hA3; first | exact ints_none (by (repeat' (first | (with_reducible exact Below.refl _ _) | (with_reducible assumption) | (with_reducible refine Below.setCell ?_ ?_ _) | (with_reducible refine Below.alloc ?_ ?_ _) | (with_reducible refine Below.drew ?_) | (with_reducible refine below_drewN ?_ _) | (with_reducible refine below_next ?_ (by with_reducible assumption)) | omega | (dsimp only; omega) | (simp only [World.size_alloc, World.size_setCell, World.size_drew, World.heap_drewN]; omega)))) | (refine ints_one (by simp) ?_ (by (repeat' (first | (with_reducible exact Below.refl _ _) | (with_reducible assumption) | (with_reducible refine Below.setCell ?_ ?_ _) | (with_reducible refine Below.alloc ?_ ?_ _) | (with_reducible refine Below.drew ?_) | (with_reducible refine below_drewN ?_ _) | (with_reducible refine below_next ?_ (by with_reducible assumption)) | omega | (dsimp only; omega) | (simp only [World.size_alloc, World.size_setCell, World.size_drew, World.heap_drewN]; omega)))); simp [cell_alloc_if, *, ↓IntWalk.iteOmega]))
  · rw [if_neg h1]
    by_cases h2 : s = 4
    · subst h2
      rw [if_pos rfl]
      have hA1 := cell_alloc_if
      have hA2 := frozen_alloc_if
      have hA3 := cell_set_if
      go_enter Tryd.func68, Tryd.ntmps68
      go_wp2_with (go_at_call 64; (with_reducible refine (pick_any _ _ _ _).mono ?_); rintro e w' ⟨rfl, rfl⟩)
      all_goals (go_returns; clear hA1 hA2 hA3; first | exact ints_none (by (repeat' (first | (with_reducible exact Below.refl _ _) | (with_reducible assumption) | (with_reducible refine Below.setCell ?_ ?_ _) | (with_reducible refine Below.alloc ?_ ?_ _) | (with_reducible refine Below.drew ?_) | (with_reducible refine below_drewN ?_ _) | (with_reducible refine below_next ?_ (by with_reducible assumption)) | omega | (dsimp only; omega) | (simp only [World.size_alloc, World.size_setCell, World.size_drew, World.heap_drewN]; omega)))) | (refine ints_one (by simp) ?_ (by (repeat' (first | (with_reducible exact Below.refl _ _) | (with_reducible assumption) | (with_reducible refine Below.setCell ?_ ?_ _) | (with_reducible refine Below.alloc ?_ ?_ _) | (with_reducible refine Below.drew ?_) | (with_reducible refine below_drewN ?_ _) | (with_reducible refine below_next ?_ (by with_reducible assumption)) | omega | (dsimp only; omega) | (simp only [World.size_alloc, World.size_setCell, World.size_drew, World.heap_drewN]; omega)))); simp [cell_alloc_if, *, ↓IntWalk.iteOmega]))
    · rw [if_neg h2]
      have d1 : (s == 8) = false := by simpa using h1
      have d2 : (s == 4) = false := by simpa using h2
      have hnl := narrow_len s u
      have hA1 := cell_alloc_if
      have hA2 := frozen_alloc_if
      have hA3 := cell_set_if
      go_enter Tryd.func68, Tryd.ntmps68
      go_wp2_with (first
        | (go_at_call 87; (with_reducible refine (narrow_any _ _ _).mono ?_); rintro e w' ⟨A7, c7, rfl, hrd, hbl⟩; have HRD := Lib.hid hrd; clear hrd)
        | (at_builtin; refine wpList_app (e := 3) (f := intC) rfl _ _ 23 rfl w.heap.size i0 _ 8 Tryd.underlying23 hi0 hz0 hz1 hz2 rfl (by decide) (fun _ => rfl) _ [91] rfl ((OwnL.lit _ _ [91] _ ?c0 ?c1 ?c2 rfl rfl).next hbl) A7 _ c7 (narrow s u) rfl ?c4 (intC_one _) (by decide) ?c5 ?c6 ?_))
      case c0 => simp
      case c1 => simp; try omega
      case c2 => simp [maxLen]
      case c4 => exact HRD.out
      case c5 => simp; omega
      case c6 => have hz6 := hbl.size; (try simp only [World.size_alloc, World.size_setCell, World.size_drew, World.heap_drewN] at hz6); omega
      intro A9 c9 w9 hown hg hB hor
      have HR9 := Lib.hid (OwnL.rdl (f := intC) (sz := 1) (fun _ => rfl) hown)
      have hb9 : Below w.heap.size w w9 := Below.trans (by (repeat' (first | (with_reducible exact Below.refl _ _) | (with_reducible assumption) | (with_reducible refine Below.setCell ?_ ?_ _) | (with_reducible refine Below.alloc ?_ ?_ _) | (with_reducible refine Below.drew ?_) | (with_reducible refine below_drewN ?_ _) | (with_reducible refine below_next ?_ (by with_reducible assumption)) | omega | (dsimp only; omega) | (simp only [World.size_alloc, World.size_setCell, World.size_drew, World.heap_drewN]; omega)))) hB
      clear hown hg hB hor
      go_wp2
      go_returns
      exact ⟨A9, c9, congrArg (fun n => Ending.returned (.slice A9 n c9)) (by simp; omega), by simpa [Nat.add_comm] using HR9.out, hb9⟩

set_option maxRecDepth 100000 in
set_option maxHeartbeats 2000000 in
theorem numbers_same (s : Int) (u : Bool) (w : World) : Calls Tryd.prog 70 #[.agg #[.int .i64 s, .bool u], .agg #[.int .i64 s, .bool u]] w (IntsP [] w) := by
  have hA1 := cell_alloc_if
  have hA2 := frozen_alloc_if
  have hA3 := cell_set_if
  go_enter Tryd.func70, Tryd.ntmps70
  go_wp2
  all_goals (go_returns; clear hA1 hA2 hA3; first | exact ints_none (by (repeat' (first | (with_reducible exact Below.refl _ _) | (with_reducible assumption) | (with_reducible refine Below.setCell ?_ ?_ _) | (with_reducible refine Below.alloc ?_ ?_ _) | (with_reducible refine Below.drew ?_) | (with_reducible refine below_drewN ?_ _) | (with_reducible refine below_next ?_ (by with_reducible assumption)) | omega | (dsimp only; omega) | (simp only [World.size_alloc, World.size_setCell, World.size_drew, World.heap_drewN]; omega)))) | (refine ints_one (by simp) ?_ (by (repeat' (first | (with_reducible exact Below.refl _ _) | (with_reducible assumption) | (with_reducible refine Below.setCell ?_ ?_ _) | (with_reducible refine Below.alloc ?_ ?_ _) | (with_reducible refine Below.drew ?_) | (with_reducible refine below_drewN ?_ _) | (with_reducible refine below_next ?_ (by with_reducible assumption)) | omega | (dsimp only; omega) | (simp only [World.size_alloc, World.size_setCell, World.size_drew, World.heap_drewN]; omega)))); simp [cell_alloc_if, *, ↓IntWalk.iteOmega]))
set_option maxRecDepth 100000 in
set_option maxHeartbeats 2000000 in
theorem numbers_sign (s : Int) (u v : Bool) (huv : u ≠ v) (w : World) : Calls Tryd.prog 70 #[.agg #[.int .i64 s, .bool u], .agg #[.int .i64 s, .bool v]] w (IntsP (if s = 8 then [] else narrow s v) w) := by
  by_cases h8 : s = 8
  · subst h8
    rw [if_pos rfl]
    cases u <;> cases v <;> first | exact absurd rfl huv | skip
    all_goals (
      have hA1 := cell_alloc_if
      have hA2 := frozen_alloc_if
      have hA3 := cell_set_if
      go_enter Tryd.func70, Tryd.ntmps70
      go_wp2
      all_goals (go_returns; clear hA1 hA2 hA3; first | exact ints_none (by (repeat' (first | (with_reducible exact Below.refl _ _) | (with_reducible assumption) | (with_reducible refine Below.setCell ?_ ?_ _) | (with_reducible refine Below.alloc ?_ ?_ _) | (with_reducible refine Below.drew ?_) | (with_reducible refine below_drewN ?_ _) | (with_reducible refine below_next ?_ (by with_reducible assumption)) | omega | (dsimp only; omega) | (simp only [World.size_alloc, World.size_setCell, World.size_drew, World.heap_drewN]; omega)))) | (refine ints_one (by simp) ?_ (by (repeat' (first | (with_reducible exact Below.refl _ _) | (with_reducible assumption) | (with_reducible refine Below.setCell ?_ ?_ _) | (with_reducible refine Below.alloc ?_ ?_ _) | (with_reducible refine Below.drew ?_) | (with_reducible refine below_drewN ?_ _) | (with_reducible refine below_next ?_ (by with_reducible assumption)) | omega | (dsimp only; omega) | (simp only [World.size_alloc, World.size_setCell, World.size_drew, World.heap_drewN]; omega)))); simp [cell_alloc_if, *, ↓IntWalk.iteOmega])))
  · have d : (s == 8) = false := by simpa using h8
    rw [if_neg h8]
    cases u <;> cases v <;> first | exact absurd rfl huv | skip
    all_goals (
      have hA1 := cell_alloc_if
      have hA2 := frozen_alloc_if
      have hA3 := cell_set_if
      go_enter Tryd.func70, Tryd.ntmps70
      go_wp2_with (go_at_call 87; (with_reducible refine (narrow_any _ _ _).mono ?_); rintro e w' ⟨A7, c7, rfl, hrd, hbl⟩; have HRD := Lib.hid hrd; clear hrd)
      go_returns
      exact ⟨A7, c7, rfl, HRD.out, by (repeat' (first | (with_reducible exact Below.refl _ _) | (with_reducible assumption) | (with_reducible refine Below.setCell ?_ ?_ _) | (with_reducible refine Below.alloc ?_ ?_ _) | (with_reducible refine Below.drew ?_) | (with_reducible refine below_drewN ?_ _) | (with_reducible refine below_next ?_ (by with_reducible assumption)) | omega | (dsimp only; omega) | (simp only [World.size_alloc, World.size_setCell, World.size_drew, World.heap_drewN]; omega)))⟩)
set_option maxRecDepth 100000 in
set_option maxHeartbeats 2000000 in
theorem numbers_size (s : Int) (u : Bool) (r : Int) (v : Bool) (hsr : ¬ s = r) (w : World) : Calls Tryd.prog 70 #[.agg #[.int .i64 s, .bool u], .agg #[.int .i64 r, .bool v]] w (IntsP (if r = 8 then [if u then 85 else 84] else if s = 8 then 86 :: narrow r v else narrow r v) w) := by
  obtain ⟨i0, hi0, hz0, hz1, hz2⟩ := info_parts int_info
  have hnl := narrow_len r v
  by_cases h9 : r = 8
  · subst h9
    rw [if_pos rfl]
    have d : (s == 8) = false := by simpa using hsr
    have hA1 := cell_alloc_if
    have hA2 := frozen_alloc_if
    have hA3 := cell_set_if
    go_enter Tryd.func70, Tryd.ntmps70
    go_wp2_with (first | (go_at_call 87; (with_reducible refine (narrow_any _ _ _).mono ?_); rintro e w' ⟨A7, c7, rfl, hrd, hbl⟩; have HRD := Lib.hid hrd; clear hrd) | (go_at_call 64; (with_reducible refine (pick_any _ _ _ _).mono ?_); rintro e w' ⟨rfl, rfl⟩) | (at_builtin; refine wpList_app (e := 3) (f := intC) rfl _ _ 23 rfl w.heap.size i0 _ 8 Tryd.underlying23 hi0 hz0 hz1 hz2 rfl (by decide) (fun _ => rfl) _ [86] rfl ((OwnL.lit _ _ [86] _ ?c0 ?c1 ?c2 rfl rfl).next hbl) A7 _ c7 (narrow r v) rfl ?c4 (intC_one _) (by decide) ?c5 ?c6 ?_))
    all_goals (go_returns; clear hA1 hA2 hA3; first | exact ints_none (by (repeat' (first | (with_reducible exact Below.refl _ _) | (with_reducible assumption) | (with_reducible refine Below.setCell ?_ ?_ _) | (with_reducible refine Below.alloc ?_ ?_ _) | (with_reducible refine Below.drew ?_) | (with_reducible refine below_drewN ?_ _) | (with_reducible refine below_next ?_ (by with_reducible assumption)) | omega | (dsimp only; omega) | (simp only [World.size_alloc, World.size_setCell, World.size_drew, World.heap_drewN]; omega)))) | (refine ints_one (by simp) ?_ (by (repeat' (first | (with_reducible exact Below.refl _ _) | (with_reducible assumption) | (with_reducible refine Below.setCell ?_ ?_ _) | (with_reducible refine Below.alloc ?_ ?_ _) | (with_reducible refine Below.drew ?_) | (with_reducible refine below_drewN ?_ _) | (with_reducible refine below_next ?_ (by with_reducible assumption)) | omega | (dsimp only; omega) | (simp only [World.size_alloc, World.size_setCell, World.size_drew, World.heap_drewN]; omega)))); simp [cell_alloc_if, *, ↓IntWalk.iteOmega]))
  · rw [if_neg h9]
    have d : (r == 8) = false := by simpa using h9
    by_cases h8 : s = 8
    · subst h8
      rw [if_pos rfl]
      have hA1 := cell_alloc_if
      have hA2 := frozen_alloc_if
      have hA3 := cell_set_if
      go_enter Tryd.func70, Tryd.ntmps70
      go_wp2_with (first | (go_at_call 87; (with_reducible refine (narrow_any _ _ _).mono ?_); rintro e w' ⟨A7, c7, rfl, hrd, hbl⟩; have HRD := Lib.hid hrd; clear hrd) | (go_at_call 64; (with_reducible refine (pick_any _ _ _ _).mono ?_); rintro e w' ⟨rfl, rfl⟩) | (at_builtin; refine wpList_app (e := 3) (f := intC) rfl _ _ 23 rfl w.heap.size i0 _ 8 Tryd.underlying23 hi0 hz0 hz1 hz2 rfl (by decide) (fun _ => rfl) _ [86] rfl ((OwnL.lit _ _ [86] _ ?c0 ?c1 ?c2 rfl rfl).next hbl) A7 _ c7 (narrow r v) rfl ?c4 (intC_one _) (by decide) ?c5 ?c6 ?_))
      case c0 => simp
      case c1 => simp; try omega
      case c2 => simp [maxLen]
      case c4 => exact HRD.out
      case c5 => simp; omega
      case c6 => have hz6 := hbl.size; (try simp only [World.size_alloc, World.size_setCell, World.size_drew, World.heap_drewN] at hz6); omega
      intro A9 c9 w9 hown hg hB hor
      have HR9 := Lib.hid (OwnL.rdl (f := intC) (sz := 1) (fun _ => rfl) hown)
      have hb9 : Below w.heap.size w w9 := Below.trans (by (repeat' (first | (with_reducible exact Below.refl _ _) | (with_reducible assumption) | (with_reducible refine Below.setCell ?_ ?_ _) | (with_reducible refine Below.alloc ?_ ?_ _) | (with_reducible refine Below.drew ?_) | (with_reducible refine below_drewN ?_ _) | (with_reducible refine below_next ?_ (by with_reducible assumption)) | omega | (dsimp only; omega) | (simp only [World.size_alloc, World.size_setCell, World.size_drew, World.heap_drewN]; omega)))) hB
      clear hown hg hB hor
      go_wp2
      go_returns
      exact ⟨A9, c9, congrArg (fun n => Ending.returned (.slice A9 n c9)) (by simp; omega), by simpa [Nat.add_comm] using HR9.out, hb9⟩
    · rw [if_neg h8]
      have d : (s == 8) = false := by simpa using h8
      have hA1 := cell_alloc_if
      have hA2 := frozen_alloc_if
      have hA3 := cell_set_if
      go_enter Tryd.func70, Tryd.ntmps70
      go_wp2_with (first | (go_at_call 87; (with_reducible refine (narrow_any _ _ _).mono ?_); rintro e w' ⟨A7, c7, rfl, hrd, hbl⟩; have HRD := Lib.hid hrd; clear hrd) | (go_at_call 64; (with_reducible refine (pick_any _ _ _ _).mono ?_); rintro e w' ⟨rfl, rfl⟩) | (at_builtin; refine wpList_app (e := 3) (f := intC) rfl _ _ 23 rfl w.heap.size i0 _ 8 Tryd.underlying23 hi0 hz0 hz1 hz2 rfl (by decide) (fun _ => rfl) _ [86] rfl ((OwnL.lit _ _ [86] _ ?c0 ?c1 ?c2 rfl rfl).next hbl) A7 _ c7 (narrow r v) rfl ?c4 (intC_one _) (by decide) ?c5 ?c6 ?_))
      go_returns
      exact ⟨A7, c7, rfl, HRD.out, by (repeat' (first | (with_reducible exact Below.refl _ _) | (with_reducible assumption) | (with_reducible refine Below.setCell ?_ ?_ _) | (with_reducible refine Below.alloc ?_ ?_ _) | (with_reducible refine Below.drew ?_) | (with_reducible refine below_drewN ?_ _) | (with_reducible refine below_next ?_ (by with_reducible assumption)) | omega | (dsimp only; omega) | (simp only [World.size_alloc, World.size_setCell, World.size_drew, World.heap_drewN]; omega)))⟩
theorem numbers_any (s : Int) (u : Bool) (r : Int) (v : Bool) (w : World) : Calls Tryd.prog 70 #[.agg #[.int .i64 s, .bool u], .agg #[.int .i64 r, .bool v]] w (IntsP (numsOp s u r v) w) := by
  by_cases h1 : s = r
  · subst h1
    by_cases h2 : u = v
    · subst h2
      have : numsOp s u s u = [] := by simp [numsOp]
      rw [this]
      exact numbers_same s u w
    · have : numsOp s u s v = if s = 8 then [] else narrow s v := by
        unfold numsOp
        by_cases h8 : s = 8 <;> simp [h2, h8]
      rw [this]
      exact numbers_sign s u v h2 w
  · have : numsOp s u r v = if r = 8 then [if u then 85 else 84] else if s = 8 then 86 :: narrow r v else narrow r v := by
      unfold numsOp
      rw [if_neg]
      rintro (h | h)
      · exact h1 h.1
      · exact h1 (by rw [h.1, h.2])
    rw [this]
    exact numbers_size s u r v h1 w

set_option maxRecDepth 100000 in
set_option maxHeartbeats 1000000 in
theorem sign_any (s : Int) (u : Bool) (x y : Int) (w : World) : Calls Tryd.prog 71 #[.agg #[.int .i64 s, .bool u], .int .i64 x, .int .i64 y] w (IntsP [if u then y else x] w) := by
  cases u
  all_goals (
    have hA1 := cell_alloc_if
    have hA2 := frozen_alloc_if
    have hA3 := cell_set_if
    go_enter Tryd.func71, Tryd.ntmps71
    go_wp2
    all_goals (go_returns; clear hA1 hA2 hA3; first | exact ints_none (by (repeat' (first | (with_reducible exact Below.refl _ _) | (with_reducible assumption) | (with_reducible refine Below.setCell ?_ ?_ _) | (with_reducible refine Below.alloc ?_ ?_ _) | (with_reducible refine Below.drew ?_) | (with_reducible refine below_drewN ?_ _) | (with_reducible refine below_next ?_ (by with_reducible assumption)) | omega | (dsimp only; omega) | (simp only [World.size_alloc, World.size_setCell, World.size_drew, World.heap_drewN]; omega)))) | (refine ints_one (by simp) ?_ (by (repeat' (first | (with_reducible exact Below.refl _ _) | (with_reducible assumption) | (with_reducible refine Below.setCell ?_ ?_ _) | (with_reducible refine Below.alloc ?_ ?_ _) | (with_reducible refine Below.drew ?_) | (with_reducible refine below_drewN ?_ _) | (with_reducible refine below_next ?_ (by with_reducible assumption)) | omega | (dsimp only; omega) | (simp only [World.size_alloc, World.size_setCell, World.size_drew, World.heap_drewN]; omega)))); simp [cell_alloc_if, *, ↓IntWalk.iteOmega])))
set_option maxRecDepth 100000 in
set_option maxHeartbeats 1000000 in
theorem small_any (s : Int) (u : Bool) (w : World) : Calls Tryd.prog 72 #[.agg #[.int .i64 s, .bool u]] w (IntsP (narrow s u) w) := by
  unfold narrow
  by_cases h1 : s = 1
  · subst h1
    rw [if_pos rfl]
    cases u
    all_goals (
      have hA1 := cell_alloc_if
      have hA2 := frozen_alloc_if
      have hA3 := cell_set_if
      go_enter Tryd.func72, Tryd.ntmps72
      go_wp2
      all_goals (go_returns; clear hA1 hA2 hA3; first | exact ints_none (by (repeat' (first | (with_reducible exact Below.refl _ _) | (with_reducible assumption) | (with_reducible refine Below.setCell ?_ ?_ _) | (with_reducible refine Below.alloc ?_ ?_ _) | (with_reducible refine Below.drew ?_) | (with_reducible refine below_drewN ?_ _) | (with_reducible refine below_next ?_ (by with_reducible assumption)) | omega | (dsimp only; omega) | (simp only [World.size_alloc, World.size_setCell, World.size_drew, World.heap_drewN]; omega)))) | (refine ints_one (by simp) ?_ (by (repeat' (first | (with_reducible exact Below.refl _ _) | (with_reducible assumption) | (with_reducible refine Below.setCell ?_ ?_ _) | (with_reducible refine Below.alloc ?_ ?_ _) | (with_reducible refine Below.drew ?_) | (with_reducible refine below_drewN ?_ _) | (with_reducible refine below_next ?_ (by with_reducible assumption)) | omega | (dsimp only; omega) | (simp only [World.size_alloc, World.size_setCell, World.size_drew, World.heap_drewN]; omega)))); simp [cell_alloc_if, *, ↓IntWalk.iteOmega])))
  · rw [if_neg h1]
    have d1 : (s == 1) = false := by simpa using h1
    by_cases h2 : s = 2
    · subst h2
      rw [if_pos rfl]
      cases u
      all_goals (
        have hA1 := cell_alloc_if
        have hA2 := frozen_alloc_if
        have hA3 := cell_set_if
        go_enter Tryd.func72, Tryd.ntmps72
        go_wp2
        all_goals (go_returns; clear hA1 hA2 hA3; first | exact ints_none (by (repeat' (first | (with_reducible exact Below.refl _ _) | (with_reducible assumption) | (with_reducible refine Below.setCell ?_ ?_ _) | (with_reducible refine Below.alloc ?_ ?_ _) | (with_reducible refine Below.drew ?_) | (with_reducible refine below_drewN ?_ _) | (with_reducible refine below_next ?_ (by with_reducible assumption)) | omega | (dsimp only; omega) | (simp only [World.size_alloc, World.size_setCell, World.size_drew, World.heap_drewN]; omega)))) | (refine ints_one (by simp) ?_ (by (repeat' (first | (with_reducible exact Below.refl _ _) | (with_reducible assumption) | (with_reducible refine Below.setCell ?_ ?_ _) | (with_reducible refine Below.alloc ?_ ?_ _) | (with_reducible refine Below.drew ?_) | (with_reducible refine below_drewN ?_ _) | (with_reducible refine below_next ?_ (by with_reducible assumption)) | omega | (dsimp only; omega) | (simp only [World.size_alloc, World.size_setCell, World.size_drew, World.heap_drewN]; omega)))); simp [cell_alloc_if, *, ↓IntWalk.iteOmega])))
    · rw [if_neg h2]
      have d2 : (s == 2) = false := by simpa using h2
      have hA1 := cell_alloc_if
      have hA2 := frozen_alloc_if
      have hA3 := cell_set_if
      go_enter Tryd.func72, Tryd.ntmps72
      go_wp2
      all_goals (go_returns; clear hA1 hA2 hA3; first | exact ints_none (by (repeat' (first | (with_reducible exact Below.refl _ _) | (with_reducible assumption) | (with_reducible refine Below.setCell ?_ ?_ _) | (with_reducible refine Below.alloc ?_ ?_ _) | (with_reducible refine Below.drew ?_) | (with_reducible refine below_drewN ?_ _) | (with_reducible refine below_next ?_ (by with_reducible assumption)) | omega | (dsimp only; omega) | (simp only [World.size_alloc, World.size_setCell, World.size_drew, World.heap_drewN]; omega)))) | (refine ints_one (by simp) ?_ (by (repeat' (first | (with_reducible exact Below.refl _ _) | (with_reducible assumption) | (with_reducible refine Below.setCell ?_ ?_ _) | (with_reducible refine Below.alloc ?_ ?_ _) | (with_reducible refine Below.drew ?_) | (with_reducible refine below_drewN ?_ _) | (with_reducible refine below_next ?_ (by with_reducible assumption)) | omega | (dsimp only; omega) | (simp only [World.size_alloc, World.size_setCell, World.size_drew, World.heap_drewN]; omega)))); simp [cell_alloc_if, *, ↓IntWalk.iteOmega]))
end Go.Proofs.YteeojgepgjndgaaDoor
