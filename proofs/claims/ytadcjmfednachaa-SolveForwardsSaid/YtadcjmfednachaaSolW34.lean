/-
  The calls whose answers the document fixes.
-/
import Derived.Test.YtadcjmfednachaaSolW33
import Derived.Test.YtadcjmfednachaaSolW12
import Derived.Test.YtadcjmfednachaaSolA
namespace Go.Proofs.Ytadcjmfednachaa
open Go.RowKit Go.Maps Go.WideShapes Go.ChangeShapes Go.Deep
set_option linter.unusedVariables false
set_option linter.unusedSimpArgs false

instance (x : Int) : Decidable (I64w x) := by unfold I64w; infer_instance
theorem row_lit (W : World) (T : TypeId) (l : List Int) (hl : l.length ≤ maxLen) : RdL intC 1 (W.alloc (.cells (l.map (Value.int .i64)).toArray T)) (.slice (some ⟨W.heap.size, 0, none⟩) l.length l.length) l :=
  (OwnL.lit (e := T) (f := intC) (base := 0) W _ l _ rfl (Nat.zero_le _) hl (by simp) (by rw [flat_intC])).rdl intC_len
theorem rdl_emp (W : World) (A : Option Addr) (c : Nat) (hc : c ≤ maxLen) : RdL intC 1 W (.slice A 0 c) [] := ⟨A, c, rfl, Nat.zero_le _, hc, fun h => absurd h (by simp)⟩
theorem flat_valC (vs : List Value) : vs.flatMap valC = vs := by
  induction vs with
  | nil => rfl
  | cons v vs ih => rw [List.flatMap_cons, ih]; rfl
theorem mat_lit (W : World) (T : TypeId) (vs : List Value) (m : List (List Int)) (hl : vs.length = m.length) (hm : m.length ≤ maxLen) (h : ∀ (i : Nat) (v : Value) (l : List Int), vs[i]? = some v → m[i]? = some l → RdL intC 1 W v l) :
    RdM (W.alloc (.cells vs.toArray T)) (.slice (some ⟨W.heap.size, 0, none⟩) m.length m.length) m := by
  refine ⟨vs, ?_, hl, fun i v l h1 h2 => (h i v l h1 h2).next ((Below.refl _ _).alloc (Nat.le_refl _) _)⟩
  rw [← hl]
  exact (OwnL.lit (e := T) (f := valC) (base := 0) W _ vs _ rfl (Nat.zero_le _) (by rw [hl]; exact hm) (by simp) (by rw [flat_valC])).rdl valC_len
theorem ne_alloc (w : World) (o : Obj) : Below w.heap.size w (w.alloc o) := (Below.refl _ _).alloc (Nat.le_refl _) _
theorem litA (w : World) : RdM ((((w.alloc (.cells #[.int .i64 1] 3)).alloc (.cells #[.int .i64 2, .int .i64 0] 3)).alloc (.cells #[] 3)).alloc (.cells #[.slice (some ⟨w.heap.size, 0, none⟩) 1 1, .slice (some ⟨w.heap.size + 1, 0, none⟩) 2 2, .slice (some ⟨w.heap.size + 1 + 1, 0, none⟩) 0 0] 28))
    (.slice (some ⟨w.heap.size + 1 + 1 + 1, 0, none⟩) 3 3) Sol.fixN := by
  have r1 := row_lit w 3 [1] (by decide)
  have r2 := row_lit (w.alloc (.cells #[.int .i64 1] 3)) 3 [2, 0] (by decide)
  have h := mat_lit (((w.alloc (.cells #[.int .i64 1] 3)).alloc (.cells #[.int .i64 2, .int .i64 0] 3)).alloc (.cells #[] 3)) 28 [.slice (some ⟨w.heap.size, 0, none⟩) 1 1, .slice (some ⟨w.heap.size + 1, 0, none⟩) 2 2, .slice (some ⟨w.heap.size + 1 + 1, 0, none⟩) 0 0] Sol.fixN rfl (by decide) (fun i v l h1 h2 => by
    match i, h1, h2 with
    | 0, h1, h2 => cases h1; cases h2; exact r1.next (((Below.refl _ _).alloc (by simp) _).alloc (by simp) _)
    | 1, h1, h2 => cases h1; cases h2; simp only [World.size_alloc] at r2; exact r2.next ((Below.refl _ _).alloc (by simp) _)
    | 2, h1, h2 => cases h1; cases h2; exact rdl_emp _ _ _ (by decide))
  simp only [World.size_alloc] at h
  exact h
theorem litB (w : World) : RdM (((((((w.alloc (.cells #[] 3)).alloc (.cells #[] 3)).alloc (.cells #[.int .i64 5] 3)).alloc (.cells #[.slice (some ⟨w.heap.size, 0, none⟩) 0 0, .slice (some ⟨w.heap.size + 1, 0, none⟩) 0 0, .slice (some ⟨w.heap.size + 1 + 1, 0, none⟩) 1 1] 28)).alloc (.cells #[] 3)).alloc (.cells #[.int .i64 5] 3)).alloc (.cells #[.slice (some ⟨w.heap.size + 1 + 1 + 1 + 1, 0, none⟩) 0 0, .slice (some ⟨w.heap.size + 1 + 1 + 1 + 1 + 1, 0, none⟩) 1 1] 28)) (.slice (some ⟨w.heap.size + 1 + 1 + 1, 0, none⟩) 3 3) [[], [], [5]] ∧ RdM (((((((w.alloc (.cells #[] 3)).alloc (.cells #[] 3)).alloc (.cells #[.int .i64 5] 3)).alloc (.cells #[.slice (some ⟨w.heap.size, 0, none⟩) 0 0, .slice (some ⟨w.heap.size + 1, 0, none⟩) 0 0, .slice (some ⟨w.heap.size + 1 + 1, 0, none⟩) 1 1] 28)).alloc (.cells #[] 3)).alloc (.cells #[.int .i64 5] 3)).alloc (.cells #[.slice (some ⟨w.heap.size + 1 + 1 + 1 + 1, 0, none⟩) 0 0, .slice (some ⟨w.heap.size + 1 + 1 + 1 + 1 + 1, 0, none⟩) 1 1] 28)) (.slice (some ⟨w.heap.size + 1 + 1 + 1 + 1 + 1 + 1, 0, none⟩) 2 2) [[], [5]] := by
  have r1 := row_lit ((w.alloc (.cells #[] 3)).alloc (.cells #[] 3)) 3 [5] (by decide)
  have r2 := row_lit (((((w.alloc (.cells #[] 3)).alloc (.cells #[] 3)).alloc (.cells #[.int .i64 5] 3)).alloc (.cells #[.slice (some ⟨w.heap.size, 0, none⟩) 0 0, .slice (some ⟨w.heap.size + 1, 0, none⟩) 0 0, .slice (some ⟨w.heap.size + 1 + 1, 0, none⟩) 1 1] 28)).alloc (.cells #[] 3)) 3 [5] (by decide)
  simp only [World.size_alloc] at r1 r2
  have h := mat_lit (((w.alloc (.cells #[] 3)).alloc (.cells #[] 3)).alloc (.cells #[.int .i64 5] 3)) 28 [.slice (some ⟨w.heap.size, 0, none⟩) 0 0, .slice (some ⟨w.heap.size + 1, 0, none⟩) 0 0, .slice (some ⟨w.heap.size + 1 + 1, 0, none⟩) 1 1] [[], [], [5]] rfl (by decide) (fun i v l h1 h2 => by
    match i, h1, h2 with
    | 0, h1, h2 => cases h1; cases h2; exact rdl_emp _ _ _ (by decide)
    | 1, h1, h2 => cases h1; cases h2; exact rdl_emp _ _ _ (by decide)
    | 2, h1, h2 => cases h1; cases h2; exact r1)
  have h' := mat_lit ((((((w.alloc (.cells #[] 3)).alloc (.cells #[] 3)).alloc (.cells #[.int .i64 5] 3)).alloc (.cells #[.slice (some ⟨w.heap.size, 0, none⟩) 0 0, .slice (some ⟨w.heap.size + 1, 0, none⟩) 0 0, .slice (some ⟨w.heap.size + 1 + 1, 0, none⟩) 1 1] 28)).alloc (.cells #[] 3)).alloc (.cells #[.int .i64 5] 3)) 28 [.slice (some ⟨w.heap.size + 1 + 1 + 1 + 1, 0, none⟩) 0 0, .slice (some ⟨w.heap.size + 1 + 1 + 1 + 1 + 1, 0, none⟩) 1 1] [[], [5]] rfl (by decide) (fun i v l h1 h2 => by
    match i, h1, h2 with
    | 0, h1, h2 => cases h1; cases h2; exact rdl_emp _ _ _ (by decide)
    | 1, h1, h2 => cases h1; cases h2; exact r2)
  simp only [World.size_alloc] at h h'
  exact ⟨h.next (((Below.refl _ _).alloc (by simp) _ |>.alloc (by simp) _).alloc (by simp) _), h'⟩
theorem litC (w : World) : RdL intC 1 ((((w.alloc (.cells #[.int .i64 7] 3)).alloc (.cells #[] 3)).alloc (.cells #[.int .i64 7] 3)).alloc (.cells #[.slice (some ⟨w.heap.size + 1, 0, none⟩) 0 0, .slice (some ⟨w.heap.size + 1 + 1, 0, none⟩) 1 1] 28)) (.slice (some ⟨w.heap.size, 0, none⟩) 1 1) [7] ∧ RdM ((((w.alloc (.cells #[.int .i64 7] 3)).alloc (.cells #[] 3)).alloc (.cells #[.int .i64 7] 3)).alloc (.cells #[.slice (some ⟨w.heap.size + 1, 0, none⟩) 0 0, .slice (some ⟨w.heap.size + 1 + 1, 0, none⟩) 1 1] 28)) (.slice (some ⟨w.heap.size + 1 + 1 + 1, 0, none⟩) 2 2) [[], [7]] := by
  have r1 := row_lit w 3 [7] (by decide)
  have r2 := row_lit ((w.alloc (.cells #[.int .i64 7] 3)).alloc (.cells #[] 3)) 3 [7] (by decide)
  simp only [World.size_alloc] at r2
  have h' := mat_lit (((w.alloc (.cells #[.int .i64 7] 3)).alloc (.cells #[] 3)).alloc (.cells #[.int .i64 7] 3)) 28 [.slice (some ⟨w.heap.size + 1, 0, none⟩) 0 0, .slice (some ⟨w.heap.size + 1 + 1, 0, none⟩) 1 1] [[], [7]] rfl (by decide) (fun i v l h1 h2 => by
    match i, h1, h2 with
    | 0, h1, h2 => cases h1; cases h2; exact rdl_emp _ _ _ (by decide)
    | 1, h1, h2 => cases h1; cases h2; exact r2)
  simp only [World.size_alloc] at h'
  exact ⟨r1.next ((((Below.refl _ _).alloc (by simp) _).alloc (by simp) _).alloc (by simp) _), h'⟩

theorem lit012 (W : World) : RdL intC 1 (W.alloc (.cells #[.int .i64 0, .int .i64 1, .int .i64 2] 3)) (.slice (some ⟨W.heap.size, 0, none⟩) 3 3) [0, 1, 2] := row_lit W 3 [0, 1, 2] (by decide)
def FixB (w : World) (e : Ending) (w' : World) : Prop := ∃ b A0 c0 A2 c2, e = .returned (.slice (some ⟨b, 0, none⟩) 3 3) ∧ b < w'.heap.size ∧ w'.cell? ⟨b, 0, none⟩ = some (.slice A0 0 c0) ∧ w'.cell? ⟨b, 2, none⟩ = some (.slice A2 1 c2) ∧ RdL intC 1 w' (.slice A2 1 c2) [5] ∧ Below w.heap.size w w'
def FixF (w : World) (e : Ending) (w' : World) : Prop := ∃ b A1 c1 A2 c2, e = .returned (.slice (some ⟨b, 0, none⟩) 3 3) ∧ b < w'.heap.size ∧ w'.cell? ⟨b, 1, none⟩ = some (.slice A1 1 c1) ∧ w'.cell? ⟨b, 2, none⟩ = some (.slice A2 0 c2) ∧ RdL intC 1 w' (.slice A1 1 c1) [7] ∧ Below w.heap.size w w'
def FixT (w : World) (e : Ending) (w' : World) : Prop := ∃ b A1 c1, e = .returned (.slice (some ⟨b, 0, none⟩) 3 3) ∧ b < w'.heap.size ∧ w'.cell? ⟨b, 1, none⟩ = some (.slice A1 1 c1) ∧ RdL intC 1 w' (.slice A1 1 c1) [0] ∧ Below w.heap.size w w'
def FixR (w : World) (e : Ending) (w' : World) : Prop := ∃ b, e = .returned (.slice (some ⟨b, 0, none⟩) 3 3) ∧ b < w'.heap.size ∧ w'.cell? ⟨b, 0, none⟩ = some (.bool true) ∧ Below w.heap.size w w'
theorem fixB_call (A A1 A2 : Option Addr) (n n1 n2 c c1 c2 : Nat) (w : World) (h : RdM w (.slice A n c) Sol.fixN) (h1 : RdM w (.slice A1 n1 c1) [[], [], [5]]) (h2 : RdM w (.slice A2 n2 c2) [[], [5]]) :
    Calls Try.prog 18 #[.slice A n c, .slice A1 n1 c1, .slice A2 n2 c2] w (FixB w) := by
  refine (backward_any A A1 A2 n n1 n2 c c1 c2 Sol.fixN _ _ w h h1 h2 (by decide) (by decide) (by decide) (by decide) (by decide) (by decide) (by decide)).mono ?_
  rintro e w' ⟨a, b, hs, rfl, hr, hb⟩
  rw [Sol.fix_clean] at hs
  obtain ⟨h3, h4, h5⟩ := Sol.fixB_ans hs
  rw [h3] at hr ⊢
  obtain ⟨b', off, c', A0, c0, e0, hb0, p0, _⟩ := hr.row h4
  injection e0 with e0 _ _
  injection e0 with e0
  injection e0 with e0 e0'
  subst e0 e0'
  obtain ⟨b', off, c', A2', c2', e2, _, p2, r2⟩ := hr.row h5
  injection e2 with e2 _ _
  injection e2 with e2
  injection e2 with e2 e2'
  subst e2 e2'
  exact ⟨_, A0, c0, A2', c2', rfl, hb0, by simpa using p0, by simpa using p2, r2, hb⟩
theorem fixF_call (A As A2 : Option Addr) (n ns n2 c cs c2 : Nat) (w : World) (h : RdM w (.slice A n c) Sol.fixN) (h1 : RdL intC 1 w (.slice As ns cs) [7]) (h2 : RdM w (.slice A2 n2 c2) [[], [7]]) :
    Calls Try.prog 20 #[.slice A n c, .int .i64 0, .slice As ns cs, .slice none 0 0, .slice A2 n2 c2] w (FixF w) := by
  refine (forward_any A As none A2 n ns 0 n2 c cs 0 c2 Sol.fixN 0 [7] [] _ w h h1 (RdM.nil w) h2 (by decide) (by decide) (by decide) (by decide) (by decide) (by decide) (by decide) (by decide)).mono ?_
  rintro e w' ⟨a, b, hs, rfl, hr, hb⟩
  rw [Sol.fix_clean] at hs
  obtain ⟨h3, h4, h5⟩ := Sol.fixF_ans hs
  rw [h3] at hr ⊢
  obtain ⟨b', off, c', A0, c0, e0, hb0, p0, r0⟩ := hr.row h4
  injection e0 with e0 _ _
  injection e0 with e0
  injection e0 with e0 e0'
  subst e0 e0'
  obtain ⟨b', off, c', A2', c2', e2, _, p2, r2⟩ := hr.row h5
  injection e2 with e2 _ _
  injection e2 with e2
  injection e2 with e2 e2'
  subst e2 e2'
  exact ⟨_, A0, c0, A2', c2', rfl, hb0, by simpa using p0, by simpa using p2, r0, hb⟩
theorem fixT_call (A : Option Addr) (n c : Nat) (w : World) (h : RdM w (.slice A n c) Sol.fixN) : Calls Try.prog 16 #[.slice A n c] w (FixT w) := by
  refine (before_any A n c Sol.fixN w h (by decide) (by decide)).mono ?_
  rw [Sol.fix_clean, Sol.fixBef_ans]
  rintro e w' ⟨rfl, hm, hb⟩
  have hr := hm.rdm (by decide)
  obtain ⟨b', off, c', A0, c0, e0, hb0, p0, r0⟩ := hr.row (i := 1) (l := [0]) rfl
  injection e0 with e0 _ _
  injection e0 with e0
  injection e0 with e0 e0'
  subst e0 e0'
  exact ⟨_, A0, c0, rfl, hb0, by simpa using p0, r0, hb⟩
theorem fixR_call (A : Option Addr) (n c : Nat) (w : World) (h : RdM w (.slice A n c) Sol.fixN) : Calls Try.prog 10 #[.slice A n c, .int .i64 1] w (FixR w) := by
  refine (reach_any A n c Sol.fixN 1 w h (by decide) (by decide)).mono ?_
  rw [Sol.fix_clean]
  rintro e w' ⟨b, rfl, hr, hb⟩
  obtain ⟨h1, h2⟩ := Sol.fixR_ans
  have h3 := (hr.at_ (i := 0) (by omega)).1
  rw [h2] at h3
  rw [h1]
  exact ⟨b, rfl, hr.lt, h3, hb⟩
theorem fixO_call (A : Option Addr) (n c : Nat) (w : World) (h : RdM w (.slice A n c) Sol.fixN) : Calls Try.prog 13 #[.slice A n c, .int .i64 0] w (OwnP w [0, 1, 2]) := by
  have hh := order_any A n c Sol.fixN 0 w h (by decide) (by decide)
  have e : ordL Sol.fixN 0 = [0, 1, 2] := by
    unfold ordL
    rw [if_pos (by decide), Sol.fix_clean, Sol.fixP_ans]; rfl
  rwa [e] at hh
set_option maxRecDepth 100000 in
set_option maxHeartbeats 4000000 in
theorem fixed_any (w : World) : Calls Try.prog 8 #[] w fun e w' => e = .returned (.bool true) ∧ Below w.heap.size w w' := by
  have hA1 := cell_alloc_if
  have hA2 := frozen_alloc_if
  have hA3 := cell_set_if
  have HA := Lib.hid (litA w)
  go_enter Try.func8, Try.ntmps8
  go_upto_region 2 with fail
  obtain ⟨w1, hw1⟩ : ∃ w1, w1 = (((w.alloc (.cells #[.int .i64 1] 3)).alloc (.cells #[.int .i64 2, .int .i64 0] 3)).alloc (.cells #[] 3)).alloc (.cells #[.slice (some ⟨w.heap.size, 0, none⟩) 1 1, .slice (some ⟨w.heap.size + 1, 0, none⟩) 2 2, .slice (some ⟨w.heap.size + 1 + 1, 0, none⟩) 0 0] 28) := ⟨_, rfl⟩
  have hb1 : Below w.heap.size w w1 := by rw [hw1]; exact ((((Below.refl _ _).alloc (by simp) _).alloc (by simp) _).alloc (by simp; omega) _).alloc (by simp; omega) _
  have HN1 : Hid (RdM w1 (.slice (some ⟨w.heap.size + 1 + 1 + 1, 0, none⟩) 3 3) Sol.fixN) := Lib.hid (by rw [hw1]; exact HA.out)
  rw [← hw1]
  clear hw1 HA
  have hz1 := hb1.size
  have q1 : eqB [0, 1, 2] [0, 1, 2] = true := by decide
  have q2 : eqB [5] [5] = true := by decide
  have q3 : eqB [7] [7] = true := by decide
  have q4 : eqB [0] [0] = true := by decide
  go_wp2_with (first
    | (go_at_call 10; (with_reducible refine (fixR_call _ _ _ w1 HN1.out).mono ?_); rintro e w2 ⟨b2, rfl, hl2, hc2, hb2⟩; have HN2 := Lib.hid (HN1.out.next hb2); have HLB := Lib.hid (litB w2); have hz2 := hb2.size; have HC2 := Lib.hid hc2; clear hc2)
    | (go_at_call 18; (with_reducible refine (fixB_call _ _ _ _ _ _ _ _ _ _ (HN2.out.next (by (repeat' (first | (with_reducible exact Below.refl _ _) | (with_reducible assumption) | (with_reducible refine Below.setCell ?_ ?_ _) | (with_reducible refine Below.alloc ?_ ?_ _) | (with_reducible refine Below.drew ?_) | (with_reducible refine below_drewN ?_ _) | (with_reducible refine below_next ?_ (by with_reducible assumption)) | omega | (dsimp only; omega) | (simp only [World.size_alloc, World.size_setCell, World.size_drew, World.heap_drewN]; omega))))) HLB.out.1 HLB.out.2).mono ?_); rintro e w3 ⟨b3, A30, c30, A32, c32, rfl, hl3, c3a, c3b, r3, hb3⟩; have hB3 : Below w2.heap.size w2 w3 := (by (repeat' (first | (with_reducible exact Below.refl _ _) | (with_reducible assumption) | (with_reducible refine Below.setCell ?_ ?_ _) | (with_reducible refine Below.alloc ?_ ?_ _) | (with_reducible refine Below.drew ?_) | (with_reducible refine below_drewN ?_ _) | (with_reducible refine below_next ?_ (by with_reducible assumption)) | omega | (dsimp only; omega) | (simp only [World.size_alloc, World.size_setCell, World.size_drew, World.heap_drewN]; omega)))); have HC3 := Lib.hid (And.intro c3a c3b); have HR3 := Lib.hid r3; have HN3 := Lib.hid (HN2.out.next hB3); have HLC := Lib.hid (litC w3); have hz3 := hB3.size; clear c3a c3b r3 hb3 HLB)
    | (go_at_call 20; (with_reducible refine (fixF_call _ _ _ _ _ _ _ _ _ _ (HN3.out.next (by (repeat' (first | (with_reducible exact Below.refl _ _) | (with_reducible assumption) | (with_reducible refine Below.setCell ?_ ?_ _) | (with_reducible refine Below.alloc ?_ ?_ _) | (with_reducible refine Below.drew ?_) | (with_reducible refine below_drewN ?_ _) | (with_reducible refine below_next ?_ (by with_reducible assumption)) | omega | (dsimp only; omega) | (simp only [World.size_alloc, World.size_setCell, World.size_drew, World.heap_drewN]; omega))))) HLC.out.1 HLC.out.2).mono ?_); rintro e w4 ⟨b4, A41, c41, A42, c42, rfl, hl4, c4a, c4b, r4, hb4⟩; have hB4 : Below w3.heap.size w3 w4 := (by (repeat' (first | (with_reducible exact Below.refl _ _) | (with_reducible assumption) | (with_reducible refine Below.setCell ?_ ?_ _) | (with_reducible refine Below.alloc ?_ ?_ _) | (with_reducible refine Below.drew ?_) | (with_reducible refine below_drewN ?_ _) | (with_reducible refine below_next ?_ (by with_reducible assumption)) | omega | (dsimp only; omega) | (simp only [World.size_alloc, World.size_setCell, World.size_drew, World.heap_drewN]; omega)))); have HC4 := Lib.hid (And.intro c4a c4b); have HR4 := Lib.hid r4; have HN4 := Lib.hid (HN3.out.next hB4); have hz4 := hB4.size; clear c4a c4b r4 hb4 HLC)
    | (go_at_call 16; (with_reducible refine (fixT_call _ _ _ w4 HN4.out).mono ?_); rintro e w5 ⟨b5, A51, c51, rfl, hl5, c5a, r5, hB5⟩; have HC5 := Lib.hid c5a; have HR5 := Lib.hid r5; have HN5 := Lib.hid (HN4.out.next hB5); have hz5 := hB5.size; clear c5a r5; have hc2 := ((hB3.trans ((hB4.mono hz3).trans (hB5.mono (by omega)))).cell (p := ⟨b2, 0, none⟩) hl2).trans HC2.out)
    | (go_at_call 13; (with_reducible refine (fixO_call _ _ _ w5 HN5.out).mono ?_); rintro e w6 ⟨A6, c6, rfl, how6, hB6⟩; have HO6 : Hid (RdL intC 1 w6 (.slice A6 3 c6) [0, 1, 2]) := Lib.hid (how6.rdl intC_len); have hz6 := hB6.size; have HL6 := Lib.hid (lit012 w6); have hB46 := hB5.trans (hB6.mono hz5); have hB36 := hB4.trans (hB46.mono hz4); have c3a := (hB36.cell (p := ⟨b3, 0, none⟩) hl3).trans HC3.out.1; have c3b := (hB36.cell (p := ⟨b3, 2, none⟩) hl3).trans HC3.out.2; clear how6 hc2)
    | (go_at_call 12; (with_reducible refine (sameInts_any _ _ _ _ _ _ [0, 1, 2] [0, 1, 2] _ (HO6.out.next (by (repeat' (first | (with_reducible exact Below.refl _ _) | (with_reducible assumption) | (with_reducible refine Below.setCell ?_ ?_ _) | (with_reducible refine Below.alloc ?_ ?_ _) | (with_reducible refine Below.drew ?_) | (with_reducible refine below_drewN ?_ _) | (with_reducible refine below_next ?_ (by with_reducible assumption)) | omega | (dsimp only; omega) | (simp only [World.size_alloc, World.size_setCell, World.size_drew, World.heap_drewN]; omega))))) HL6.out).mono ?_); rintro e w7 ⟨rfl, hb7⟩; have hB7 : Below w6.heap.size w6 w7 := (by (repeat' (first | (with_reducible exact Below.refl _ _) | (with_reducible assumption) | (with_reducible refine Below.setCell ?_ ?_ _) | (with_reducible refine Below.alloc ?_ ?_ _) | (with_reducible refine Below.drew ?_) | (with_reducible refine below_drewN ?_ _) | (with_reducible refine below_next ?_ (by with_reducible assumption)) | omega | (dsimp only; omega) | (simp only [World.size_alloc, World.size_setCell, World.size_drew, World.heap_drewN]; omega)))); have hz7 := hB7.size; have hB37 := hB36.trans (hB7.mono (by omega)); have hB47 := hB46.trans (hB7.mono (by omega)); have hB57 := hB6.trans (hB7.mono hz6); clear c3a c3b hb7; have c3a := (hB37.cell (p := ⟨b3, 0, none⟩) hl3).trans HC3.out.1; have c3b := (hB37.cell (p := ⟨b3, 2, none⟩) hl3).trans HC3.out.2; have HL7 := Lib.hid (own_one w7 3 5); clear HL6 HO6)
    | (go_at_call 12; (with_reducible refine (sameInts_any _ _ _ _ _ _ [5] [5] _ (HR3.out.next (by (repeat' (first | (with_reducible exact Below.refl _ _) | (with_reducible assumption) | (with_reducible refine Below.setCell ?_ ?_ _) | (with_reducible refine Below.alloc ?_ ?_ _) | (with_reducible refine Below.drew ?_) | (with_reducible refine below_drewN ?_ _) | (with_reducible refine below_next ?_ (by with_reducible assumption)) | omega | (dsimp only; omega) | (simp only [World.size_alloc, World.size_setCell, World.size_drew, World.heap_drewN]; omega))))) HL7.out).mono ?_); rintro e w8 ⟨rfl, hb8⟩; have hB8 : Below w7.heap.size w7 w8 := (by (repeat' (first | (with_reducible exact Below.refl _ _) | (with_reducible assumption) | (with_reducible refine Below.setCell ?_ ?_ _) | (with_reducible refine Below.alloc ?_ ?_ _) | (with_reducible refine Below.drew ?_) | (with_reducible refine below_drewN ?_ _) | (with_reducible refine below_next ?_ (by with_reducible assumption)) | omega | (dsimp only; omega) | (simp only [World.size_alloc, World.size_setCell, World.size_drew, World.heap_drewN]; omega)))); have hz8 := hB8.size; have hB48 := hB47.trans (hB8.mono (by omega)); have hB58 := hB57.trans (hB8.mono (by omega)); clear c3a c3b hb8; have c4a := (hB48.cell (p := ⟨b4, 1, none⟩) hl4).trans HC4.out.1; have c4b := (hB48.cell (p := ⟨b4, 2, none⟩) hl4).trans HC4.out.2; have HL8 := Lib.hid (own_one w8 3 7); clear HL7)
    | (go_at_call 12; (with_reducible refine (sameInts_any _ _ _ _ _ _ [7] [7] _ (HR4.out.next (by (repeat' (first | (with_reducible exact Below.refl _ _) | (with_reducible assumption) | (with_reducible refine Below.setCell ?_ ?_ _) | (with_reducible refine Below.alloc ?_ ?_ _) | (with_reducible refine Below.drew ?_) | (with_reducible refine below_drewN ?_ _) | (with_reducible refine below_next ?_ (by with_reducible assumption)) | omega | (dsimp only; omega) | (simp only [World.size_alloc, World.size_setCell, World.size_drew, World.heap_drewN]; omega))))) HL8.out).mono ?_); rintro e w9 ⟨rfl, hb9⟩; have hB9 : Below w8.heap.size w8 w9 := (by (repeat' (first | (with_reducible exact Below.refl _ _) | (with_reducible assumption) | (with_reducible refine Below.setCell ?_ ?_ _) | (with_reducible refine Below.alloc ?_ ?_ _) | (with_reducible refine Below.drew ?_) | (with_reducible refine below_drewN ?_ _) | (with_reducible refine below_next ?_ (by with_reducible assumption)) | omega | (dsimp only; omega) | (simp only [World.size_alloc, World.size_setCell, World.size_drew, World.heap_drewN]; omega)))); have hz9 := hB9.size; have hB49 := hB48.trans (hB9.mono (by omega)); have hB59 := hB58.trans (hB9.mono (by omega)); clear c4a c4b hb9; have c4b := (hB49.cell (p := ⟨b4, 2, none⟩) hl4).trans HC4.out.2; have c5a := (hB59.cell (p := ⟨b5, 1, none⟩) hl5).trans HC5.out; have HL9 := Lib.hid (own_one w9 3 0); clear HL8)
    | (go_at_call 12; (with_reducible refine (sameInts_any _ _ _ _ _ _ [0] [0] _ (HR5.out.next (by (repeat' (first | (with_reducible exact Below.refl _ _) | (with_reducible assumption) | (with_reducible refine Below.setCell ?_ ?_ _) | (with_reducible refine Below.alloc ?_ ?_ _) | (with_reducible refine Below.drew ?_) | (with_reducible refine below_drewN ?_ _) | (with_reducible refine below_next ?_ (by with_reducible assumption)) | omega | (dsimp only; omega) | (simp only [World.size_alloc, World.size_setCell, World.size_drew, World.heap_drewN]; omega))))) HL9.out).mono ?_); rintro e w10 ⟨rfl, hb10⟩; have hB10 : Below w9.heap.size w9 w10 := (by (repeat' (first | (with_reducible exact Below.refl _ _) | (with_reducible assumption) | (with_reducible refine Below.setCell ?_ ?_ _) | (with_reducible refine Below.alloc ?_ ?_ _) | (with_reducible refine Below.drew ?_) | (with_reducible refine below_drewN ?_ _) | (with_reducible refine below_next ?_ (by with_reducible assumption)) | omega | (dsimp only; omega) | (simp only [World.size_alloc, World.size_setCell, World.size_drew, World.heap_drewN]; omega)))); clear c4b c5a hb10)
    | fail)
  go_ret
  refine ⟨rfl, ?_⟩
  have hB59' := hB59.trans (hB10.mono (by omega))
  exact hb1.trans ((hb2.mono hz1).trans ((hB3.mono (by omega)).trans ((hB4.mono (by omega)).trans ((hB5.mono (by omega)).trans (hB59'.mono (by omega))))))
end Go.Proofs.Ytadcjmfednachaa
