/-
  The reference's memory: in, ends, ordered; Eval2.
-/
import Derived.Test.YtddipbpllogbaaaRefW3
namespace Go.Proofs.Ytddipbpllogbaaa
open Go.RowKit
set_option linter.unusedVariables false
set_option linter.unusedSimpArgs false

def atB (R : List RB) (a : V) (e : Int) : Bool := match blkA R a.l with
  | some B => decide (0 ≤ wrap64 a.b) && decide (wrap64 a.b < B.kinds.length + e)
  | none => false
def inR (R : List RB) (a : V) : Bool := decide (a.k = 4) && atB R a 0
def endsR (R : List RB) (a : V) : Bool := atB R a 1
def orderedV (op : Int) : Bool := decide (48 ≤ op ∧ op ≤ 55)
set_option maxRecDepth 100000 in
set_option maxHeartbeats 4000000 in
theorem rin_any {w : World} {base rm cap : Nat} {s : Value} {R : List RB} (h : RefS w base rm s cap R) (k b l : Int) (hl : I64 l) :
    Calls Try.prog 45 #[.pointer (some ⟨rm, 0, none⟩), .agg #[.int .i64 k, .int .u64 b, .int .i64 l]] w fun e w' => e = .returned (.bool (inR R ⟨k, b, l⟩)) ∧ Below w.heap.size w w' := by
  have HZ := Lib.hid (fun W (hb : Below w.heap.size w W) => rsize_any (h.next hb) l hl)
  unfold inR atB
  by_cases ck : k = 4
  · have dk : (k != 4) = false := by simpa using ck
    have ek : decide (k = 4) = true := by simpa using ck
    dsimp only
    rw [ek, Bool.true_and]
    unfold sizeR at HZ
    cases hb : blkA R l with
    | none =>
      rw [hb] at HZ
      clear h hb ck ek
      have hA1 := cell_alloc_if
      have hA2 := frozen_alloc_if
      have hA3 := cell_set_if
      go_enter Try.func45, Try.ntmps45
      go_wp2_with (go_at_call 22; (with_reducible refine (HZ.out _ (by (repeat' (first | (with_reducible exact Below.refl _ _) | (with_reducible assumption) | (with_reducible refine Below.setCell ?_ ?_ _) | (with_reducible refine Below.alloc ?_ ?_ _) | (with_reducible refine Below.drew ?_) | (with_reducible refine below_drewN ?_ _) | (with_reducible refine below_next ?_ (by with_reducible assumption)) | omega | (dsimp only; omega) | (simp only [World.size_alloc, World.size_setCell, World.size_drew, World.heap_drewN]; omega))))).mono ?_); rintro e w' ⟨rfl, rfl⟩)
      go_returns
      exact ⟨by simp [*], by (repeat' (first | (with_reducible exact Below.refl _ _) | (with_reducible assumption) | (with_reducible refine Below.setCell ?_ ?_ _) | (with_reducible refine Below.alloc ?_ ?_ _) | (with_reducible refine Below.drew ?_) | (with_reducible refine below_drewN ?_ _) | (with_reducible refine below_next ?_ (by with_reducible assumption)) | omega | (dsimp only; omega) | (simp only [World.size_alloc, World.size_setCell, World.size_drew, World.heap_drewN]; omega)))⟩
    | some B =>
      rw [hb] at HZ
      dsimp only at HZ ⊢
      rw [Int.add_zero]
      generalize B.kinds.length = m at *
      generalize hxx : wrap64 b = x at *
      clear h hb ck ek
      by_cases c1 : 0 ≤ x
      · have d1 : decide (0 ≤ x) = true := by simpa using c1
        by_cases c2 : x < m
        · have d2 : decide (x < (m : Int)) = true := by simpa using c2
          have hA1 := cell_alloc_if
          have hA2 := frozen_alloc_if
          have hA3 := cell_set_if
          go_enter Try.func45, Try.ntmps45
          go_wp2_with (go_at_call 22; (with_reducible refine (HZ.out _ (by (repeat' (first | (with_reducible exact Below.refl _ _) | (with_reducible assumption) | (with_reducible refine Below.setCell ?_ ?_ _) | (with_reducible refine Below.alloc ?_ ?_ _) | (with_reducible refine Below.drew ?_) | (with_reducible refine below_drewN ?_ _) | (with_reducible refine below_next ?_ (by with_reducible assumption)) | omega | (dsimp only; omega) | (simp only [World.size_alloc, World.size_setCell, World.size_drew, World.heap_drewN]; omega))))).mono ?_); rintro e w' ⟨rfl, rfl⟩)
          go_returns
          exact ⟨by simp [*], by (repeat' (first | (with_reducible exact Below.refl _ _) | (with_reducible assumption) | (with_reducible refine Below.setCell ?_ ?_ _) | (with_reducible refine Below.alloc ?_ ?_ _) | (with_reducible refine Below.drew ?_) | (with_reducible refine below_drewN ?_ _) | (with_reducible refine below_next ?_ (by with_reducible assumption)) | omega | (dsimp only; omega) | (simp only [World.size_alloc, World.size_setCell, World.size_drew, World.heap_drewN]; omega)))⟩
        · have d2 : decide (x < (m : Int)) = false := by simpa using c2
          have hA1 := cell_alloc_if
          have hA2 := frozen_alloc_if
          have hA3 := cell_set_if
          go_enter Try.func45, Try.ntmps45
          go_wp2_with (go_at_call 22; (with_reducible refine (HZ.out _ (by (repeat' (first | (with_reducible exact Below.refl _ _) | (with_reducible assumption) | (with_reducible refine Below.setCell ?_ ?_ _) | (with_reducible refine Below.alloc ?_ ?_ _) | (with_reducible refine Below.drew ?_) | (with_reducible refine below_drewN ?_ _) | (with_reducible refine below_next ?_ (by with_reducible assumption)) | omega | (dsimp only; omega) | (simp only [World.size_alloc, World.size_setCell, World.size_drew, World.heap_drewN]; omega))))).mono ?_); rintro e w' ⟨rfl, rfl⟩)
          go_returns
          exact ⟨by simp [*], by (repeat' (first | (with_reducible exact Below.refl _ _) | (with_reducible assumption) | (with_reducible refine Below.setCell ?_ ?_ _) | (with_reducible refine Below.alloc ?_ ?_ _) | (with_reducible refine Below.drew ?_) | (with_reducible refine below_drewN ?_ _) | (with_reducible refine below_next ?_ (by with_reducible assumption)) | omega | (dsimp only; omega) | (simp only [World.size_alloc, World.size_setCell, World.size_drew, World.heap_drewN]; omega)))⟩
      · have d1 : decide (0 ≤ x) = false := by simpa using c1
        have hA1 := cell_alloc_if
        have hA2 := frozen_alloc_if
        have hA3 := cell_set_if
        go_enter Try.func45, Try.ntmps45
        go_wp2_with (go_at_call 22; (with_reducible refine (HZ.out _ (by (repeat' (first | (with_reducible exact Below.refl _ _) | (with_reducible assumption) | (with_reducible refine Below.setCell ?_ ?_ _) | (with_reducible refine Below.alloc ?_ ?_ _) | (with_reducible refine Below.drew ?_) | (with_reducible refine below_drewN ?_ _) | (with_reducible refine below_next ?_ (by with_reducible assumption)) | omega | (dsimp only; omega) | (simp only [World.size_alloc, World.size_setCell, World.size_drew, World.heap_drewN]; omega))))).mono ?_); rintro e w' ⟨rfl, rfl⟩)
        go_returns
        exact ⟨by simp [*], by (repeat' (first | (with_reducible exact Below.refl _ _) | (with_reducible assumption) | (with_reducible refine Below.setCell ?_ ?_ _) | (with_reducible refine Below.alloc ?_ ?_ _) | (with_reducible refine Below.drew ?_) | (with_reducible refine below_drewN ?_ _) | (with_reducible refine below_next ?_ (by with_reducible assumption)) | omega | (dsimp only; omega) | (simp only [World.size_alloc, World.size_setCell, World.size_drew, World.heap_drewN]; omega)))⟩
  · have dk : (k != 4) = true := by simpa using ck
    have ek : decide (k = 4) = false := by simpa using ck
    dsimp only
    rw [ek, Bool.false_and]
    clear h ck ek
    have hA1 := cell_alloc_if
    have hA2 := frozen_alloc_if
    have hA3 := cell_set_if
    go_enter Try.func45, Try.ntmps45
    go_wp2_with (go_at_call 22; (with_reducible refine (HZ.out _ (by (repeat' (first | (with_reducible exact Below.refl _ _) | (with_reducible assumption) | (with_reducible refine Below.setCell ?_ ?_ _) | (with_reducible refine Below.alloc ?_ ?_ _) | (with_reducible refine Below.drew ?_) | (with_reducible refine below_drewN ?_ _) | (with_reducible refine below_next ?_ (by with_reducible assumption)) | omega | (dsimp only; omega) | (simp only [World.size_alloc, World.size_setCell, World.size_drew, World.heap_drewN]; omega))))).mono ?_); rintro e w' ⟨rfl, rfl⟩)
    go_returns
    exact ⟨by simp [*], by (repeat' (first | (with_reducible exact Below.refl _ _) | (with_reducible assumption) | (with_reducible refine Below.setCell ?_ ?_ _) | (with_reducible refine Below.alloc ?_ ?_ _) | (with_reducible refine Below.drew ?_) | (with_reducible refine below_drewN ?_ _) | (with_reducible refine below_next ?_ (by with_reducible assumption)) | omega | (dsimp only; omega) | (simp only [World.size_alloc, World.size_setCell, World.size_drew, World.heap_drewN]; omega)))⟩
set_option maxRecDepth 100000 in
set_option maxHeartbeats 4000000 in
theorem rends_any {w : World} {base rm cap : Nat} {s : Value} {R : List RB} (h : RefS w base rm s cap R) (k b l : Int) (hl : I64 l) :
    Calls Try.prog 47 #[.pointer (some ⟨rm, 0, none⟩), .agg #[.int .i64 k, .int .u64 b, .int .i64 l]] w fun e w' => e = .returned (.bool (endsR R ⟨k, b, l⟩)) ∧ Below w.heap.size w w' := by
  have HZ := Lib.hid (fun W (hb : Below w.heap.size w W) => rsize_any (h.next hb) l hl)
  unfold endsR atB
  unfold sizeR at HZ
  dsimp only
  cases hb : blkA R l with
  | none =>
    rw [hb] at HZ
    clear h hb
    have hA1 := cell_alloc_if
    have hA2 := frozen_alloc_if
    have hA3 := cell_set_if
    go_enter Try.func47, Try.ntmps47
    go_wp2_with (go_at_call 22; (with_reducible refine (HZ.out _ (by (repeat' (first | (with_reducible exact Below.refl _ _) | (with_reducible assumption) | (with_reducible refine Below.setCell ?_ ?_ _) | (with_reducible refine Below.alloc ?_ ?_ _) | (with_reducible refine Below.drew ?_) | (with_reducible refine below_drewN ?_ _) | (with_reducible refine below_next ?_ (by with_reducible assumption)) | omega | (dsimp only; omega) | (simp only [World.size_alloc, World.size_setCell, World.size_drew, World.heap_drewN]; omega))))).mono ?_); rintro e w' ⟨rfl, rfl⟩)
    go_returns
    exact ⟨by simp [*], by (repeat' (first | (with_reducible exact Below.refl _ _) | (with_reducible assumption) | (with_reducible refine Below.setCell ?_ ?_ _) | (with_reducible refine Below.alloc ?_ ?_ _) | (with_reducible refine Below.drew ?_) | (with_reducible refine below_drewN ?_ _) | (with_reducible refine below_next ?_ (by with_reducible assumption)) | omega | (dsimp only; omega) | (simp only [World.size_alloc, World.size_setCell, World.size_drew, World.heap_drewN]; omega)))⟩
  | some B =>
    rw [hb] at HZ
    dsimp only at HZ ⊢
    generalize B.kinds.length = m at *
    generalize hxx : wrap64 b = x at *
    clear h hb
    by_cases c1 : 0 ≤ x
    · have d1 : decide (0 ≤ x) = true := by simpa using c1
      by_cases c2 : x ≤ m
      · have d2 : decide (x ≤ (m : Int)) = true := by simpa using c2
        have d3 : decide (x < (m : Int) + 1) = true := by simp; omega
        rw [d1, d3]
        clear d3
        have hA1 := cell_alloc_if
        have hA2 := frozen_alloc_if
        have hA3 := cell_set_if
        go_enter Try.func47, Try.ntmps47
        go_wp2_with (go_at_call 22; (with_reducible refine (HZ.out _ (by (repeat' (first | (with_reducible exact Below.refl _ _) | (with_reducible assumption) | (with_reducible refine Below.setCell ?_ ?_ _) | (with_reducible refine Below.alloc ?_ ?_ _) | (with_reducible refine Below.drew ?_) | (with_reducible refine below_drewN ?_ _) | (with_reducible refine below_next ?_ (by with_reducible assumption)) | omega | (dsimp only; omega) | (simp only [World.size_alloc, World.size_setCell, World.size_drew, World.heap_drewN]; omega))))).mono ?_); rintro e w' ⟨rfl, rfl⟩)
        go_returns
        exact ⟨by simp [*], by (repeat' (first | (with_reducible exact Below.refl _ _) | (with_reducible assumption) | (with_reducible refine Below.setCell ?_ ?_ _) | (with_reducible refine Below.alloc ?_ ?_ _) | (with_reducible refine Below.drew ?_) | (with_reducible refine below_drewN ?_ _) | (with_reducible refine below_next ?_ (by with_reducible assumption)) | omega | (dsimp only; omega) | (simp only [World.size_alloc, World.size_setCell, World.size_drew, World.heap_drewN]; omega)))⟩
      · have d2 : decide (x ≤ (m : Int)) = false := by simpa using c2
        have d3 : decide (x < (m : Int) + 1) = false := by simp; omega
        rw [d3]
        clear d3
        have hA1 := cell_alloc_if
        have hA2 := frozen_alloc_if
        have hA3 := cell_set_if
        go_enter Try.func47, Try.ntmps47
        go_wp2_with (go_at_call 22; (with_reducible refine (HZ.out _ (by (repeat' (first | (with_reducible exact Below.refl _ _) | (with_reducible assumption) | (with_reducible refine Below.setCell ?_ ?_ _) | (with_reducible refine Below.alloc ?_ ?_ _) | (with_reducible refine Below.drew ?_) | (with_reducible refine below_drewN ?_ _) | (with_reducible refine below_next ?_ (by with_reducible assumption)) | omega | (dsimp only; omega) | (simp only [World.size_alloc, World.size_setCell, World.size_drew, World.heap_drewN]; omega))))).mono ?_); rintro e w' ⟨rfl, rfl⟩)
        go_returns
        exact ⟨by simp [*], by (repeat' (first | (with_reducible exact Below.refl _ _) | (with_reducible assumption) | (with_reducible refine Below.setCell ?_ ?_ _) | (with_reducible refine Below.alloc ?_ ?_ _) | (with_reducible refine Below.drew ?_) | (with_reducible refine below_drewN ?_ _) | (with_reducible refine below_next ?_ (by with_reducible assumption)) | omega | (dsimp only; omega) | (simp only [World.size_alloc, World.size_setCell, World.size_drew, World.heap_drewN]; omega)))⟩
    · have d1 : decide (0 ≤ x) = false := by simpa using c1
      rw [d1]
      have hA1 := cell_alloc_if
      have hA2 := frozen_alloc_if
      have hA3 := cell_set_if
      go_enter Try.func47, Try.ntmps47
      go_wp2_with (go_at_call 22; (with_reducible refine (HZ.out _ (by (repeat' (first | (with_reducible exact Below.refl _ _) | (with_reducible assumption) | (with_reducible refine Below.setCell ?_ ?_ _) | (with_reducible refine Below.alloc ?_ ?_ _) | (with_reducible refine Below.drew ?_) | (with_reducible refine below_drewN ?_ _) | (with_reducible refine below_next ?_ (by with_reducible assumption)) | omega | (dsimp only; omega) | (simp only [World.size_alloc, World.size_setCell, World.size_drew, World.heap_drewN]; omega))))).mono ?_); rintro e w' ⟨rfl, rfl⟩)
      go_returns
      exact ⟨by simp [*], by (repeat' (first | (with_reducible exact Below.refl _ _) | (with_reducible assumption) | (with_reducible refine Below.setCell ?_ ?_ _) | (with_reducible refine Below.alloc ?_ ?_ _) | (with_reducible refine Below.drew ?_) | (with_reducible refine below_drewN ?_ _) | (with_reducible refine below_next ?_ (by with_reducible assumption)) | omega | (dsimp only; omega) | (simp only [World.size_alloc, World.size_setCell, World.size_drew, World.heap_drewN]; omega)))⟩
set_option maxRecDepth 100000 in
set_option maxHeartbeats 4000000 in
theorem ordered_any (op : Int) (hi : I64 op) (w : World) :
    Calls Try.prog 46 #[.int .i64 op] w fun e w' => e = .returned (.bool (orderedV op)) ∧ w = w' := by
  obtain ⟨x, hx⟩ : ∃ x, wrap64 (op - 30) = x := ⟨_, rfl⟩
  have e : orderedV op = (decide (18 ≤ x) && decide (x ≤ 21) || (decide (22 ≤ x) && decide (x ≤ 25))) := by
    subst hx
    obtain ⟨h1, h2⟩ := hi
    unfold orderedV wrap64
    rw [← Bool.decide_and, ← Bool.decide_and, ← Bool.decide_or, decide_eq_decide]
    omega
  rw [e]
  clear e
  go_enter Try.func46, Try.ntmps46
  by_cases c1 : 18 ≤ x
  · have d1 : decide (18 ≤ x) = true := by simpa using c1
    by_cases c2 : x ≤ 21
    · have d2 : decide (x ≤ 21) = true := by simpa using c2
      go_wp2
      go_returns
      exact ⟨by simp [*], rfl⟩
    · have d2 : decide (x ≤ 21) = false := by simpa using c2
      have d3 : decide (22 ≤ x) = true := by simp; omega
      by_cases c4 : x ≤ 25
      · have d4 : decide (x ≤ 25) = true := by simpa using c4
        go_wp2
        go_returns
        exact ⟨by simp [*], rfl⟩
      · have d4 : decide (x ≤ 25) = false := by simpa using c4
        go_wp2
        go_returns
        exact ⟨by simp [*], rfl⟩
  · have d1 : decide (18 ≤ x) = false := by simpa using c1
    have d3 : decide (22 ≤ x) = false := by simp; omega
    go_wp2
    go_returns
    exact ⟨by simp [*], rfl⟩

end Go.Proofs.Ytddipbpllogbaaa
