/-
  The walk of the statement MachRight.
-/
import Derived.Test.YtonhphiajjkgaaaMachE5
import Derived.Outline
namespace Go.Proofs.Ytonhphiajjkgaaa
open Go.RowKit
set_option linter.unusedVariables false
set_option linter.unusedSimpArgs false

-- neither
set_option maxRecDepth 100000 in
set_option maxHeartbeats 8000000 in
theorem right_none (op k1 b1 l1 k2 b2 l2 k s r : Int)
(SH : Hid (∀ w, Calls Try.prog 16 #[.int .i64 op] w fun e w' => e = .returned (.tuple #[.int .i64 k, .int .i64 s, .int .i64 r]) ∧ w = w'))
(G2 : Hid (∀ w, Calls Try.prog 11 #[.int .i64 op, .agg #[.int .i64 k1, .int .u64 b1, .int .i64 l1], .agg #[.int .i64 k2, .int .u64 b2, .int .i64 l2]] w fun e w' => e = .returned (.tuple #[.agg #[.int .i64 0, .int .u64 0, .int .i64 0], .bool false]) ∧ Below w.heap.size w w'))
(G1 : Hid (∀ w, Calls Try.prog 26 #[.int .i64 op, .agg #[.int .i64 k1, .int .u64 b1, .int .i64 l1]] w fun e w' => e = .returned (.tuple #[.agg #[.int .i64 0, .int .u64 0, .int .i64 0], .bool false]) ∧ Below w.heap.size w w'))
(R1 : Hid (∀ w, Calls Try.prog 27 #[.agg #[.int .i64 0, .int .u64 0, .int .i64 0]] w fun e w' => e = .returned (.bool true) ∧ Below w.heap.size w w'))
(R2 : Hid (∀ w, Calls Try.prog 27 #[.agg #[.int .i64 0, .int .u64 0, .int .i64 0]] w fun e w' => e = .returned (.bool true) ∧ Below w.heap.size w w'))
(w : World) :
Calls Try.prog 8 #[.int .i64 op, .agg #[.int .i64 k1, .int .u64 b1, .int .i64 l1], .agg #[.int .i64 k2, .int .u64 b2, .int .i64 l2]] w fun e w' => e = .returned (.bool true) ∧ Below w.heap.size w w' := by
  have hA1 := cell_alloc_if
  have hA2 := frozen_alloc_if
  have hA3 := cell_set_if
  go_enter Try.func8, Try.ntmps8
  go_wp2_with (first
    | (go_at_call 10; with_reducible refine (fixed_any _).mono ?_; rintro e w' ⟨rfl, hbl⟩; obtain ⟨hc, hf, hz⟩ := cif hbl; (try simp only [World.size_alloc, World.size_setCell, World.size_drew, World.heap_drewN] at hz))
    | (go_at_call 16; with_reducible refine (SH.out _).mono ?_; rintro e w' ⟨rfl, rfl⟩)
    | (go_at_call 11; with_reducible refine (G2.out _).mono ?_; rintro e w' ⟨rfl, hbl⟩; obtain ⟨hc, hf, hz⟩ := cif hbl; (try simp only [World.size_alloc, World.size_setCell, World.size_drew, World.heap_drewN] at hz))
    | (go_at_call 26; with_reducible refine (G1.out _).mono ?_; rintro e w' ⟨rfl, hbl⟩; obtain ⟨hc, hf, hz⟩ := cif hbl; (try simp only [World.size_alloc, World.size_setCell, World.size_drew, World.heap_drewN] at hz))
    | (go_at_call 27; with_reducible refine (R1.out _).mono ?_; rintro e w' ⟨rfl, hbl⟩; obtain ⟨hc, hf, hz⟩ := cif hbl; (try simp only [World.size_alloc, World.size_setCell, World.size_drew, World.heap_drewN] at hz))
    | (go_at_call 27; with_reducible refine (R2.out _).mono ?_; rintro e w' ⟨rfl, hbl⟩; obtain ⟨hc, hf, hz⟩ := cif hbl; (try simp only [World.size_alloc, World.size_setCell, World.size_drew, World.heap_drewN] at hz)))
  all_goals (go_returns; refine ⟨rfl, ?_⟩; clear hc hf; (repeat' (first | (with_reducible exact Below.refl _ _) | (with_reducible assumption) | (with_reducible refine Below.setCell ?_ ?_ _) | (with_reducible refine Below.alloc ?_ ?_ _) | (with_reducible refine Below.drew ?_) | (with_reducible refine below_drewN ?_ _) | (with_reducible refine below_next ?_ (by with_reducible assumption)) | omega | (dsimp only; omega) | (simp only [World.size_alloc, World.size_setCell, World.size_drew, World.heap_drewN]; omega))))
-- of two
set_option maxRecDepth 100000 in
set_option maxHeartbeats 8000000 in
theorem right_two (op k1 b1 l1 k2 b2 l2 k s r a b c : Int) (hs : (s == 0) = false) (ha : (a == r) = true)
(SH : Hid (∀ w, Calls Try.prog 16 #[.int .i64 op] w fun e w' => e = .returned (.tuple #[.int .i64 k, .int .i64 s, .int .i64 r]) ∧ w = w'))
(G2 : Hid (∀ w, Calls Try.prog 11 #[.int .i64 op, .agg #[.int .i64 k1, .int .u64 b1, .int .i64 l1], .agg #[.int .i64 k2, .int .u64 b2, .int .i64 l2]] w fun e w' => e = .returned (.tuple #[.agg #[.int .i64 a, .int .u64 b, .int .i64 c], .bool true]) ∧ Below w.heap.size w w'))
(G1 : Hid (∀ w, Calls Try.prog 26 #[.int .i64 op, .agg #[.int .i64 k1, .int .u64 b1, .int .i64 l1]] w fun e w' => e = .returned (.tuple #[.agg #[.int .i64 0, .int .u64 0, .int .i64 0], .bool false]) ∧ Below w.heap.size w w'))
(R1 : Hid (∀ w, Calls Try.prog 27 #[.agg #[.int .i64 a, .int .u64 b, .int .i64 c]] w fun e w' => e = .returned (.bool true) ∧ Below w.heap.size w w'))
(R2 : Hid (∀ w, Calls Try.prog 27 #[.agg #[.int .i64 0, .int .u64 0, .int .i64 0]] w fun e w' => e = .returned (.bool true) ∧ Below w.heap.size w w'))
(w : World) :
Calls Try.prog 8 #[.int .i64 op, .agg #[.int .i64 k1, .int .u64 b1, .int .i64 l1], .agg #[.int .i64 k2, .int .u64 b2, .int .i64 l2]] w fun e w' => e = .returned (.bool true) ∧ Below w.heap.size w w' := by
  have hA1 := cell_alloc_if
  have hA2 := frozen_alloc_if
  have hA3 := cell_set_if
  go_enter Try.func8, Try.ntmps8
  go_wp2_with (first
    | (go_at_call 10; with_reducible refine (fixed_any _).mono ?_; rintro e w' ⟨rfl, hbl⟩; obtain ⟨hc, hf, hz⟩ := cif hbl; (try simp only [World.size_alloc, World.size_setCell, World.size_drew, World.heap_drewN] at hz))
    | (go_at_call 16; with_reducible refine (SH.out _).mono ?_; rintro e w' ⟨rfl, rfl⟩)
    | (go_at_call 11; with_reducible refine (G2.out _).mono ?_; rintro e w' ⟨rfl, hbl⟩; obtain ⟨hc, hf, hz⟩ := cif hbl; (try simp only [World.size_alloc, World.size_setCell, World.size_drew, World.heap_drewN] at hz))
    | (go_at_call 26; with_reducible refine (G1.out _).mono ?_; rintro e w' ⟨rfl, hbl⟩; obtain ⟨hc, hf, hz⟩ := cif hbl; (try simp only [World.size_alloc, World.size_setCell, World.size_drew, World.heap_drewN] at hz))
    | (go_at_call 27; with_reducible refine (R1.out _).mono ?_; rintro e w' ⟨rfl, hbl⟩; obtain ⟨hc, hf, hz⟩ := cif hbl; (try simp only [World.size_alloc, World.size_setCell, World.size_drew, World.heap_drewN] at hz))
    | (go_at_call 27; with_reducible refine (R2.out _).mono ?_; rintro e w' ⟨rfl, hbl⟩; obtain ⟨hc, hf, hz⟩ := cif hbl; (try simp only [World.size_alloc, World.size_setCell, World.size_drew, World.heap_drewN] at hz)))
  all_goals (go_returns; refine ⟨rfl, ?_⟩; clear hc hf; (repeat' (first | (with_reducible exact Below.refl _ _) | (with_reducible assumption) | (with_reducible refine Below.setCell ?_ ?_ _) | (with_reducible refine Below.alloc ?_ ?_ _) | (with_reducible refine Below.drew ?_) | (with_reducible refine below_drewN ?_ _) | (with_reducible refine below_next ?_ (by with_reducible assumption)) | omega | (dsimp only; omega) | (simp only [World.size_alloc, World.size_setCell, World.size_drew, World.heap_drewN]; omega))))
set_option maxRecDepth 100000 in
set_option maxHeartbeats 8000000 in
theorem right_two_p (op b1 l1 k2 b2 l2 k s r b c : Int) (hs : (s == 0) = false) (ha : (4 == r) = false) (k1 : Int) (hk1 : k1 = 4)
(SH : Hid (∀ w, Calls Try.prog 16 #[.int .i64 op] w fun e w' => e = .returned (.tuple #[.int .i64 k, .int .i64 s, .int .i64 r]) ∧ w = w'))
(G2 : Hid (∀ w, Calls Try.prog 11 #[.int .i64 op, .agg #[.int .i64 k1, .int .u64 b1, .int .i64 l1], .agg #[.int .i64 k2, .int .u64 b2, .int .i64 l2]] w fun e w' => e = .returned (.tuple #[.agg #[.int .i64 4, .int .u64 b, .int .i64 c], .bool true]) ∧ Below w.heap.size w w'))
(G1 : Hid (∀ w, Calls Try.prog 26 #[.int .i64 op, .agg #[.int .i64 k1, .int .u64 b1, .int .i64 l1]] w fun e w' => e = .returned (.tuple #[.agg #[.int .i64 0, .int .u64 0, .int .i64 0], .bool false]) ∧ Below w.heap.size w w'))
(R1 : Hid (∀ w, Calls Try.prog 27 #[.agg #[.int .i64 4, .int .u64 b, .int .i64 c]] w fun e w' => e = .returned (.bool true) ∧ Below w.heap.size w w'))
(R2 : Hid (∀ w, Calls Try.prog 27 #[.agg #[.int .i64 0, .int .u64 0, .int .i64 0]] w fun e w' => e = .returned (.bool true) ∧ Below w.heap.size w w'))
(w : World) :
Calls Try.prog 8 #[.int .i64 op, .agg #[.int .i64 k1, .int .u64 b1, .int .i64 l1], .agg #[.int .i64 k2, .int .u64 b2, .int .i64 l2]] w fun e w' => e = .returned (.bool true) ∧ Below w.heap.size w w' := by
  subst hk1
  have hA1 := cell_alloc_if
  have hA2 := frozen_alloc_if
  have hA3 := cell_set_if
  go_enter Try.func8, Try.ntmps8
  go_wp2_with (first
    | (go_at_call 10; with_reducible refine (fixed_any _).mono ?_; rintro e w' ⟨rfl, hbl⟩; obtain ⟨hc, hf, hz⟩ := cif hbl; (try simp only [World.size_alloc, World.size_setCell, World.size_drew, World.heap_drewN] at hz))
    | (go_at_call 16; with_reducible refine (SH.out _).mono ?_; rintro e w' ⟨rfl, rfl⟩)
    | (go_at_call 11; with_reducible refine (G2.out _).mono ?_; rintro e w' ⟨rfl, hbl⟩; obtain ⟨hc, hf, hz⟩ := cif hbl; (try simp only [World.size_alloc, World.size_setCell, World.size_drew, World.heap_drewN] at hz))
    | (go_at_call 26; with_reducible refine (G1.out _).mono ?_; rintro e w' ⟨rfl, hbl⟩; obtain ⟨hc, hf, hz⟩ := cif hbl; (try simp only [World.size_alloc, World.size_setCell, World.size_drew, World.heap_drewN] at hz))
    | (go_at_call 27; with_reducible refine (R1.out _).mono ?_; rintro e w' ⟨rfl, hbl⟩; obtain ⟨hc, hf, hz⟩ := cif hbl; (try simp only [World.size_alloc, World.size_setCell, World.size_drew, World.heap_drewN] at hz))
    | (go_at_call 27; with_reducible refine (R2.out _).mono ?_; rintro e w' ⟨rfl, hbl⟩; obtain ⟨hc, hf, hz⟩ := cif hbl; (try simp only [World.size_alloc, World.size_setCell, World.size_drew, World.heap_drewN] at hz)))
  all_goals (go_returns; refine ⟨rfl, ?_⟩; clear hc hf; (repeat' (first | (with_reducible exact Below.refl _ _) | (with_reducible assumption) | (with_reducible refine Below.setCell ?_ ?_ _) | (with_reducible refine Below.alloc ?_ ?_ _) | (with_reducible refine Below.drew ?_) | (with_reducible refine below_drewN ?_ _) | (with_reducible refine below_next ?_ (by with_reducible assumption)) | omega | (dsimp only; omega) | (simp only [World.size_alloc, World.size_setCell, World.size_drew, World.heap_drewN]; omega))))
set_option maxRecDepth 100000 in
set_option maxHeartbeats 8000000 in
theorem right_two_q (op b1 l1 k2 b2 l2 k s r b c : Int) (hs : (s == 0) = false) (ha : (4 == r) = false) (k1 : Int) (hk : (k1 == 4) = false) (hk2 : k2 = 4)
(SH : Hid (∀ w, Calls Try.prog 16 #[.int .i64 op] w fun e w' => e = .returned (.tuple #[.int .i64 k, .int .i64 s, .int .i64 r]) ∧ w = w'))
(G2 : Hid (∀ w, Calls Try.prog 11 #[.int .i64 op, .agg #[.int .i64 k1, .int .u64 b1, .int .i64 l1], .agg #[.int .i64 k2, .int .u64 b2, .int .i64 l2]] w fun e w' => e = .returned (.tuple #[.agg #[.int .i64 4, .int .u64 b, .int .i64 c], .bool true]) ∧ Below w.heap.size w w'))
(G1 : Hid (∀ w, Calls Try.prog 26 #[.int .i64 op, .agg #[.int .i64 k1, .int .u64 b1, .int .i64 l1]] w fun e w' => e = .returned (.tuple #[.agg #[.int .i64 0, .int .u64 0, .int .i64 0], .bool false]) ∧ Below w.heap.size w w'))
(R1 : Hid (∀ w, Calls Try.prog 27 #[.agg #[.int .i64 4, .int .u64 b, .int .i64 c]] w fun e w' => e = .returned (.bool true) ∧ Below w.heap.size w w'))
(R2 : Hid (∀ w, Calls Try.prog 27 #[.agg #[.int .i64 0, .int .u64 0, .int .i64 0]] w fun e w' => e = .returned (.bool true) ∧ Below w.heap.size w w'))
(w : World) :
Calls Try.prog 8 #[.int .i64 op, .agg #[.int .i64 k1, .int .u64 b1, .int .i64 l1], .agg #[.int .i64 k2, .int .u64 b2, .int .i64 l2]] w fun e w' => e = .returned (.bool true) ∧ Below w.heap.size w w' := by
  subst hk2
  have hA1 := cell_alloc_if
  have hA2 := frozen_alloc_if
  have hA3 := cell_set_if
  go_enter Try.func8, Try.ntmps8
  go_wp2_with (first
    | (go_at_call 10; with_reducible refine (fixed_any _).mono ?_; rintro e w' ⟨rfl, hbl⟩; obtain ⟨hc, hf, hz⟩ := cif hbl; (try simp only [World.size_alloc, World.size_setCell, World.size_drew, World.heap_drewN] at hz))
    | (go_at_call 16; with_reducible refine (SH.out _).mono ?_; rintro e w' ⟨rfl, rfl⟩)
    | (go_at_call 11; with_reducible refine (G2.out _).mono ?_; rintro e w' ⟨rfl, hbl⟩; obtain ⟨hc, hf, hz⟩ := cif hbl; (try simp only [World.size_alloc, World.size_setCell, World.size_drew, World.heap_drewN] at hz))
    | (go_at_call 26; with_reducible refine (G1.out _).mono ?_; rintro e w' ⟨rfl, hbl⟩; obtain ⟨hc, hf, hz⟩ := cif hbl; (try simp only [World.size_alloc, World.size_setCell, World.size_drew, World.heap_drewN] at hz))
    | (go_at_call 27; with_reducible refine (R1.out _).mono ?_; rintro e w' ⟨rfl, hbl⟩; obtain ⟨hc, hf, hz⟩ := cif hbl; (try simp only [World.size_alloc, World.size_setCell, World.size_drew, World.heap_drewN] at hz))
    | (go_at_call 27; with_reducible refine (R2.out _).mono ?_; rintro e w' ⟨rfl, hbl⟩; obtain ⟨hc, hf, hz⟩ := cif hbl; (try simp only [World.size_alloc, World.size_setCell, World.size_drew, World.heap_drewN] at hz)))
  all_goals (go_returns; refine ⟨rfl, ?_⟩; clear hc hf; (repeat' (first | (with_reducible exact Below.refl _ _) | (with_reducible assumption) | (with_reducible refine Below.setCell ?_ ?_ _) | (with_reducible refine Below.alloc ?_ ?_ _) | (with_reducible refine Below.drew ?_) | (with_reducible refine below_drewN ?_ _) | (with_reducible refine below_next ?_ (by with_reducible assumption)) | omega | (dsimp only; omega) | (simp only [World.size_alloc, World.size_setCell, World.size_drew, World.heap_drewN]; omega))))
-- of one
set_option maxRecDepth 100000 in
set_option maxHeartbeats 8000000 in
theorem right_one (op k1 b1 l1 k2 b2 l2 k s a b c : Int) (hs : s = 0) (hk : (k == 0) = false)  (r : Int) (ha : r = a)
(SH : Hid (∀ w, Calls Try.prog 16 #[.int .i64 op] w fun e w' => e = .returned (.tuple #[.int .i64 k, .int .i64 s, .int .i64 r]) ∧ w = w'))
(G2 : Hid (∀ w, Calls Try.prog 11 #[.int .i64 op, .agg #[.int .i64 k1, .int .u64 b1, .int .i64 l1], .agg #[.int .i64 k2, .int .u64 b2, .int .i64 l2]] w fun e w' => e = .returned (.tuple #[.agg #[.int .i64 0, .int .u64 0, .int .i64 0], .bool false]) ∧ Below w.heap.size w w'))
(G1 : Hid (∀ w, Calls Try.prog 26 #[.int .i64 op, .agg #[.int .i64 k1, .int .u64 b1, .int .i64 l1]] w fun e w' => e = .returned (.tuple #[.agg #[.int .i64 a, .int .u64 b, .int .i64 c], .bool true]) ∧ Below w.heap.size w w'))
(R1 : Hid (∀ w, Calls Try.prog 27 #[.agg #[.int .i64 0, .int .u64 0, .int .i64 0]] w fun e w' => e = .returned (.bool true) ∧ Below w.heap.size w w'))
(R2 : Hid (∀ w, Calls Try.prog 27 #[.agg #[.int .i64 a, .int .u64 b, .int .i64 c]] w fun e w' => e = .returned (.bool true) ∧ Below w.heap.size w w'))
(w : World) :
Calls Try.prog 8 #[.int .i64 op, .agg #[.int .i64 k1, .int .u64 b1, .int .i64 l1], .agg #[.int .i64 k2, .int .u64 b2, .int .i64 l2]] w fun e w' => e = .returned (.bool true) ∧ Below w.heap.size w w' := by
  subst hs
  subst ha
  have hA1 := cell_alloc_if
  have hA2 := frozen_alloc_if
  have hA3 := cell_set_if
  go_enter Try.func8, Try.ntmps8
  go_wp2_with (first
    | (go_at_call 10; with_reducible refine (fixed_any _).mono ?_; rintro e w' ⟨rfl, hbl⟩; obtain ⟨hc, hf, hz⟩ := cif hbl; (try simp only [World.size_alloc, World.size_setCell, World.size_drew, World.heap_drewN] at hz))
    | (go_at_call 16; with_reducible refine (SH.out _).mono ?_; rintro e w' ⟨rfl, rfl⟩)
    | (go_at_call 11; with_reducible refine (G2.out _).mono ?_; rintro e w' ⟨rfl, hbl⟩; obtain ⟨hc, hf, hz⟩ := cif hbl; (try simp only [World.size_alloc, World.size_setCell, World.size_drew, World.heap_drewN] at hz))
    | (go_at_call 26; with_reducible refine (G1.out _).mono ?_; rintro e w' ⟨rfl, hbl⟩; obtain ⟨hc, hf, hz⟩ := cif hbl; (try simp only [World.size_alloc, World.size_setCell, World.size_drew, World.heap_drewN] at hz))
    | (go_at_call 27; with_reducible refine (R1.out _).mono ?_; rintro e w' ⟨rfl, hbl⟩; obtain ⟨hc, hf, hz⟩ := cif hbl; (try simp only [World.size_alloc, World.size_setCell, World.size_drew, World.heap_drewN] at hz))
    | (go_at_call 27; with_reducible refine (R2.out _).mono ?_; rintro e w' ⟨rfl, hbl⟩; obtain ⟨hc, hf, hz⟩ := cif hbl; (try simp only [World.size_alloc, World.size_setCell, World.size_drew, World.heap_drewN] at hz)))
  all_goals (go_returns; refine ⟨rfl, ?_⟩; clear hc hf; (repeat' (first | (with_reducible exact Below.refl _ _) | (with_reducible assumption) | (with_reducible refine Below.setCell ?_ ?_ _) | (with_reducible refine Below.alloc ?_ ?_ _) | (with_reducible refine Below.drew ?_) | (with_reducible refine below_drewN ?_ _) | (with_reducible refine below_next ?_ (by with_reducible assumption)) | omega | (dsimp only; omega) | (simp only [World.size_alloc, World.size_setCell, World.size_drew, World.heap_drewN]; omega))))

/-! ### what operations answer is right -/
def Fine (r : V × Bool) (kr : Int) (p : Prop) : Prop := (rightV r.1.k r.1.b r.1.l = true ∧ (r.1.k = 1 → 0 ≤ r.1.b)) ∧ (r.2 = false → r.1 = undefV) ∧ (r.2 = true → r.1.k = kr ∨ (r.1.k = 4 ∧ p))
theorem fine_undef (kr : Int) (p : Prop) : Fine (undefV, false) kr p := by simp [Fine, undefV, rightV]
theorem fine_int (n : Int) (p : Prop) : Fine (intV n, true) 1 p := by simp [Fine, intV, rightV]; omega
theorem fine_long (n : Int) (p : Prop) : Fine (longV n, true) 2 p := by simp [Fine, longV, rightV]
theorem fine_dbl (n : Int) (p : Prop) : Fine (dblV n, true) 3 p := by simp [Fine, dblV, rightV]
theorem fine_flag (b : Bool) (p : Prop) : Fine (flagV b, true) 1 p := by cases b <;> simp [Fine, flagV, intV, rightV]
theorem fine_canon (n : Nat) (p : Prop) : Fine (canonF n, true) 3 p := by unfold canonF; split <;> exact fine_dbl _ _
theorem fine_ptr (b o : Int) (h : b ≠ 0) (kr : Int) (p : Prop) (hp : p) : Fine (ptrV b o, true) kr p := by simp [Fine, ptrV, h, rightV, hp]
theorem fine_ite {c : Prop} [Decidable c] {a b : V × Bool} {kr : Int} {p : Prop} (ha : c → Fine a kr p) (hb : ¬ c → Fine b kr p) : Fine (if c then a else b) kr p := by
  split
  · exact ha ‹_›
  · exact hb ‹_›

theorem fine_ints (op x y : Int) (p : Prop) : Fine (intsV op x y) 1 p := by
  unfold intsV
  refine fine_ite (fun _ => fine_flag _ _) (fun _ => fine_ite (fun _ => fine_flag _ _) (fun _ => fine_ite (fun _ => fine_ite (fun _ => fine_undef _ _) (fun _ => fine_int _ _)) (fun _ => fine_ite (fun _ => fine_int _ _) (fun _ => fine_undef _ _))))
theorem fine_longs_c (op x y : Int) (h : 16 ≤ op) (p : Prop) : Fine (longsV op x y) 1 p := by
  unfold longsV
  refine fine_ite (fun _ => fine_flag _ _) (fun _ => ?_)
  rw [if_pos h]; exact fine_flag _ _
theorem fine_longs_w (op x y : Int) (h : op < 16) (p : Prop) : Fine (longsV op x y) 2 p := by
  unfold longsV
  rw [if_neg (by omega), if_neg (by omega)]
  exact fine_ite (fun _ => fine_ite (fun _ => fine_undef _ _) (fun _ => fine_long _ _)) (fun _ => fine_ite (fun _ => fine_long _ _) (fun _ => fine_undef _ _))
theorem fine_floats_c (op : Int) (x y : Nat) (h : 66 ≤ op) (p : Prop) : Fine (floatsV op x y, true) 1 p := by
  unfold floatsV; rw [if_neg (by omega)]; exact fine_flag _ _
theorem fine_floats_w (op : Int) (x y : Nat) (h : 62 ≤ op ∧ op ≤ 65) (p : Prop) : Fine (floatsV op x y, true) 3 p := by
  unfold floatsV; rw [if_pos (by omega)]
  unfold farith
  split
  · exact fine_canon _ _
  · exact fine_dbl _ _
theorem fine_pointers (op : Int) (x y : V) (kr : Int) (h1 : 16 ≤ op → kr = 1) (h2 : op < 16 → kr = 2) (hp : x.k = 4 ∨ y.k = 4) : Fine (pointersV op x y) kr (x.k = 4 ∨ y.k = 4) := by
  unfold pointersV
  refine fine_ite (fun _ => fine_undef _ _) fun c0 => fine_ite (fun c1 => fine_ite (fun _ => fine_undef _ _) fun _ => fine_ite (fun c => ?_) fun _ => fine_ite (fun c => ?_) fun _ => fine_ite (fun c => ?_) fun _ => fine_undef _ _)
    fun c1 => fine_ite (fun _ => fine_undef _ _) fun c2 => fine_ite (fun c => ?_) fun _ => fine_ite (fun c => ?_) fun _ => fine_ite (fun c => ?_) fun _ => fine_undef _ _
  · rw [h2 (by omega)]; exact fine_long _ _
  · rw [h1 (by omega)]; exact fine_flag _ _
  · rw [h1 (by omega)]; exact fine_flag _ _
  · refine fine_ptr _ _ ?_ _ _ hp
    split
    · intro h; exact c0 (.inl ⟨‹_›, h⟩)
    · intro h; exact c0 (.inr ⟨hp.resolve_left ‹_›, h⟩)
  · exact fine_ptr _ _ (fun h => c0 (.inl ⟨c.2, h⟩)) _ _ hp
  · rw [h1 (by omega)]; exact fine_flag _ _

theorem shape_res (op : Int) : ((shape op).1 = 3 ∧ (shape op).2.1 = 3 → (62 ≤ op ∧ op ≤ 65 ∧ (shape op).2.2 = 3) ∨ (66 ≤ op ∧ (shape op).2.2 = 1)) ∧ ((shape op).1 = 1 ∧ (shape op).2.1 = 1 → (shape op).2.2 = 1) ∧
    ((shape op).1 = 2 ∧ (shape op).2.1 ≠ 0 → ((split op).1 < 16 ∧ (shape op).2.2 = 2) ∨ (16 ≤ (split op).1 ∧ (shape op).2.2 = 1)) := by
  refine ⟨?_, ?_, ?_⟩ <;> (intro h; grind (splits := 60) [shape, split])

theorem fine_eval2 (op : Int) (x y : V) : Fine (eval2 op x y) (shape op).2.2 (x.k = 4 ∨ y.k = 4) ∧ ((eval2 op x y).2 = true → (shape op).2.1 ≠ 0) := by
  obtain ⟨s1, s2, s3⟩ := shape_res op
  have h2 := shape_two op
  constructor
  · unfold eval2
    refine fine_ite (fun _ => fine_undef _ _) fun c0 => fine_ite (fun c => ?_) fun _ => fine_ite (fun _ => fine_undef _ _) fun _ => fine_ite (fun c => ?_) fun c3 => fine_ite (fun c => ?_) fun c2 => ?_
    · have := s3 ⟨c.1, c0⟩
      exact fine_pointers _ _ _ _ (by omega) (by omega) c.2.2
    · have := s1 ⟨c, by omega⟩
      rcases this with ⟨a1, a2, a3⟩ | ⟨a1, a2⟩
      · rw [a3]; exact fine_floats_w _ _ _ ⟨a1, a2⟩ _
      · rw [a2]; exact fine_floats_c _ _ _ a1 _
    · have := s3 ⟨c, c0⟩
      rcases this with ⟨a1, a2⟩ | ⟨a1, a2⟩
      · rw [a2]; exact fine_longs_w _ _ _ a1 _
      · rw [a2]; exact fine_longs_c _ _ _ a1 _
    · rw [s2 (by omega)]; exact fine_ints _ _ _ _
  · intro h h0
    unfold eval2 at h
    rw [if_pos h0] at h
    cases h

theorem fine_conv (op b : Int) (ho : op = 1 ∨ op = 2 ∨ op = 31 ∨ op = 32 ∨ op = 61 ∨ op = 80 ∨ op = 81 ∨ op = 82 ∨ op = 83 ∨ op = 84 ∨ op = 85 ∨ op = 86 ∨ op = 87 ∨ op = 88 ∨ op = 89 ∨ op = 90 ∨ op = 91 ∨ op = 92 ∨ op = 93 ∨ op = 94) :
    Fine (conv1 op b) (shape op).2.2 False := by
  rcases ho with rfl | rfl | rfl | rfl | rfl | rfl | rfl | rfl | rfl | rfl | rfl | rfl | rfl | rfl | rfl | rfl | rfl | rfl | rfl | rfl
  · exact fine_int _ _
  · exact fine_int _ _
  · exact fine_long _ _
  · exact fine_long _ _
  · exact fine_dbl _ _
  · exact fine_int _ _
  · exact fine_int _ _
  · exact fine_int _ _
  · exact fine_int _ _
  · exact fine_long _ _
  · exact fine_long _ _
  · exact fine_int _ _
  · exact fine_canon _ _
  · exact fine_canon _ _
  · exact fine_canon _ _
  · exact fine_canon _ _
  all_goals
    show Fine (toWholeV _ b.toNat) _ _
    unfold toWholeV
    split
    · exact fine_undef _ _
    · simp only [Int.reduceEq, if_true, if_false]
      exact fine_ite (fun _ => by first | exact fine_int _ _ | exact fine_long _ _) (fun _ => fine_undef _ _)

theorem fine_eval1 (op : Int) (x : V) : Fine (eval1 op x) (shape op).2.2 False ∧ ((eval1 op x).2 = true → (shape op).2.1 = 0 ∧ (shape op).1 ≠ 0) := by
  unfold eval1
  by_cases c : op = 95 ∨ op = 96
  · rw [if_pos c]
    have e : shape op = (1, 0, 1) := by rcases c with rfl | rfl <;> rfl
    rw [e]
    exact ⟨fine_ite (fun _ => fine_flag _ _) (fun _ => fine_undef _ _), fun _ => ⟨rfl, by decide⟩⟩
  · rw [if_neg c]
    by_cases c2 : (shape op).1 = 0 ∨ (shape op).2.1 ≠ 0 ∨ (shape op).1 ≠ x.k
    · rw [if_pos c2]
      exact ⟨fine_undef _ _, fun h => by cases h⟩
    · rw [if_neg c2]
      exact ⟨fine_conv op x.b (shape_one op (by omega) (by omega) (by omega) (by omega)), fun _ => ⟨by omega, by omega⟩⟩

set_option maxHeartbeats 1000000 in
theorem right_not1 (k b l : Int) (hk : ¬ k = 1) (w : World) :
    Calls Try.prog 27 #[.agg #[.int .i64 k, .int .u64 b, .int .i64 l]] w fun e w' => e = .returned (.bool (rightV k b l)) ∧ Below w.heap.size w w' := by
  have d1 : (k == 1) = false := beq_eq_false_iff_ne.2 hk
  go_enter Try.func27, Try.ntmps27
  go_wp2
  all_goals (go_returns; refine ⟨?_, by (repeat' (first | (with_reducible exact Below.refl _ _) | (with_reducible assumption) | (with_reducible refine Below.setCell ?_ ?_ _) | (with_reducible refine Below.alloc ?_ ?_ _) | (with_reducible refine Below.drew ?_) | (with_reducible refine below_drewN ?_ _) | (with_reducible refine below_next ?_ (by with_reducible assumption)) | omega | (dsimp only; omega) | (simp only [World.size_alloc, World.size_setCell, World.size_drew, World.heap_drewN]; omega)))⟩; go_light; simp; grind [rightV])

theorem right_true (v : V) (h : rightV v.k v.b v.l = true ∧ (v.k = 1 → 0 ≤ v.b)) (w : World) :
    Calls Try.prog 27 #[.agg #[.int .i64 v.k, .int .u64 v.b, .int .i64 v.l]] w fun e w' => e = .returned (.bool true) ∧ Below w.heap.size w w' := by
  rw [← h.1]
  by_cases c : v.k = 1
  · refine right_any _ _ _ ⟨h.2 c, ?_⟩ w
    have h1 := h.1
    unfold rightV at h1
    rw [if_neg (by omega), if_pos c] at h1
    simp at h1
    omega
  · exact right_not1 _ _ _ c w

theorem right_walk (op k1 b1 l1 k2 b2 l2 : Int) (hi : I64 op) (hx : I64 k1 ∧ U64 b1 ∧ I64 l1) (hy : I64 k2 ∧ U64 b2 ∧ I64 l2) (w : World) :
    Calls Try.prog 8 #[.int .i64 op, .agg #[.int .i64 k1, .int .u64 b1, .int .i64 l1], .agg #[.int .i64 k2, .int .u64 b2, .int .i64 l2]] w fun e w' => e = .returned (.bool true) ∧ Below w.heap.size w w' := by
  have SH := shape_any op hi
  have G2 := eval2_any op k1 b1 l1 k2 b2 l2 hi hx.2.1 hy.2.1
  have G1 := eval1_any op k1 b1 l1 hi hx.2.1
  obtain ⟨⟨f1, f2, f3⟩, f4⟩ := fine_eval2 op ⟨k1, b1, l1⟩ ⟨k2, b2, l2⟩
  obtain ⟨⟨g1, g2, g3⟩, g4⟩ := fine_eval1 op ⟨k1, b1, l1⟩
  have R1 := right_true _ f1
  have R2 := right_true _ g1
  generalize eval2 op ⟨k1, b1, l1⟩ ⟨k2, b2, l2⟩ = r at *
  generalize eval1 op ⟨k1, b1, l1⟩ = q at *
  obtain ⟨r, ok⟩ := r
  obtain ⟨q, is⟩ := q
  dsimp only at *
  cases ok
  · have e1 := f2 rfl
    subst e1
    cases is
    · have e2 := g2 rfl
      subst e2
      exact right_none op k1 b1 l1 k2 b2 l2 _ _ _ (Lib.hid SH) (Lib.hid G2) (Lib.hid G1) (Lib.hid R1) (Lib.hid R2) w
    · have h1 := g3 rfl
      have h2 := g4 rfl
      exact right_one op k1 b1 l1 k2 b2 l2 _ _ _ _ _ h2.1 (beq_eq_false_iff_ne.2 h2.2) _ (h1.elim (fun h => h.symm) (fun h => h.2.elim)) (Lib.hid SH) (Lib.hid G2) (Lib.hid G1) (Lib.hid R1) (Lib.hid R2) w
  · have h1 := f4 rfl
    cases is
    · have e2 := g2 rfl
      subst e2
      by_cases c : r.k = (shape op).2.2
      · exact right_two op k1 b1 l1 k2 b2 l2 _ _ _ _ _ _ (beq_eq_false_iff_ne.2 h1) (beq_iff_eq.2 c) (Lib.hid SH) (Lib.hid G2) (Lib.hid G1) (Lib.hid R1) (Lib.hid R2) w
      · obtain ⟨h4, h5⟩ := (f3 rfl).resolve_left c
        rw [h4] at G2 R1 c
        by_cases c1 : k1 = 4
        · exact right_two_p op b1 l1 k2 b2 l2 _ _ _ _ _ (beq_eq_false_iff_ne.2 h1) (beq_eq_false_iff_ne.2 c) k1 c1 (Lib.hid SH) (Lib.hid G2) (Lib.hid G1) (Lib.hid R1) (Lib.hid R2) w
        · exact right_two_q op b1 l1 k2 b2 l2 _ _ _ _ _ (beq_eq_false_iff_ne.2 h1) (beq_eq_false_iff_ne.2 c) k1 (beq_eq_false_iff_ne.2 c1) (h5.resolve_left c1) (Lib.hid SH) (Lib.hid G2) (Lib.hid G1) (Lib.hid R1) (Lib.hid R2) w
    · exact absurd (g4 rfl).1 h1

end Go.Proofs.Ytonhphiajjkgaaa
