/-
  The program's memory: find.
-/
import Derived.Test.YtddipbpllogbaaaMemW1
namespace Go.Proofs.Ytddipbpllogbaaa
open Go.RowKit
set_option linter.unusedVariables false
set_option linter.unusedSimpArgs false

def findV (M : Int → Option Bk) (chunk : Int) (a : V) : Value :=
  match findA M chunk a with
  | some (B, off) => .tuple #[.pointer (some ⟨B.b, 0, none⟩), .int .i64 off]
  | none => .tuple #[.pointer none, .int .i64 0]
set_option maxRecDepth 100000 in
set_option maxHeartbeats 4000000 in
theorem find_no {w : World} {base pm bm nb last cap : Nat} {M : Int → Option Bk} (h : MemS w base pm bm nb last cap M) (chunk k b l : Int) (hn : k ≠ 4 ∨ sizeV chunk = 0) :
    Calls Try.prog 32 #[.pointer (some ⟨pm, 0, none⟩), .int .i64 chunk, .agg #[.int .i64 k, .int .u64 b, .int .i64 l]] w fun e w' => e = .returned (.tuple #[.pointer none, .int .i64 0]) ∧ Below w.heap.size w w' := by
  have HS := Lib.hid (size_any chunk)
  clear h
  by_cases c : k = 4
  · subst c
    have hs : sizeV chunk = 0 := by rcases hn with h | h; · exact absurd rfl h
                                    · exact h
    rw [hs] at HS
    clear hn
    have hA1 := cell_alloc_if
    have hA2 := frozen_alloc_if
    have hA3 := cell_set_if
    go_enter Try.func32, Try.ntmps32
    go_wp2_with (go_at_call 24; (with_reducible refine (HS.out _).mono ?_); rintro e w' ⟨rfl, rfl⟩)
    go_returns
    exact ⟨rfl, by (repeat' (first | (with_reducible exact Below.refl _ _) | (with_reducible assumption) | (with_reducible refine Below.setCell ?_ ?_ _) | (with_reducible refine Below.alloc ?_ ?_ _) | (with_reducible refine Below.drew ?_) | (with_reducible refine below_drewN ?_ _) | (with_reducible refine below_next ?_ (by with_reducible assumption)) | omega | (dsimp only; omega) | (simp only [World.size_alloc, World.size_setCell, World.size_drew, World.heap_drewN]; omega)))⟩
  · have d : (k != 4) = true := by simpa using c
    clear hn
    have hA1 := cell_alloc_if
    have hA2 := frozen_alloc_if
    have hA3 := cell_set_if
    go_enter Try.func32, Try.ntmps32
    go_wp2_with (go_at_call 24; (with_reducible refine (HS.out _).mono ?_); rintro e w' ⟨rfl, rfl⟩)
    go_returns
    exact ⟨rfl, by (repeat' (first | (with_reducible exact Below.refl _ _) | (with_reducible assumption) | (with_reducible refine Below.setCell ?_ ?_ _) | (with_reducible refine Below.alloc ?_ ?_ _) | (with_reducible refine Below.drew ?_) | (with_reducible refine below_drewN ?_ _) | (with_reducible refine below_next ?_ (by with_reducible assumption)) | omega | (dsimp only; omega) | (simp only [World.size_alloc, World.size_setCell, World.size_drew, World.heap_drewN]; omega)))⟩

set_option maxRecDepth 100000 in
set_option maxHeartbeats 4000000 in
theorem find_none {w : World} {base pm bm nb last cap : Nat} {M : Int → Option Bk} (h : MemS w base pm bm nb last cap M) (chunk b l : Int) (hl : I64 l) (hn : sizeV chunk ≠ 0) (hM : M l = none) :
    Calls Try.prog 32 #[.pointer (some ⟨pm, 0, none⟩), .int .i64 chunk, .agg #[.int .i64 4, .int .u64 b, .int .i64 l]] w fun e w' => e = .returned (.tuple #[.pointer none, .int .i64 0]) ∧ Below w.heap.size w w' := by
  have hs := size_any chunk
  have d : (sizeV chunk == 0) = false := by simpa using hn
  have h1 := h.next ((Below.refl _ _).alloc (Nat.le_refl _) (.cells #[.int .i64 4, .int .u64 b, .int .i64 l] 32))
  have hrun := (h1.next (Below.refl _ _).drew).look l hl
  rw [hM] at hrun
  simp only [Option.map_none, valO] at hrun
  have t0 : w.cell? ⟨pm, 0, none⟩ = some (.map (some bm)) := by rw [Lib.cell_of_heap h.top]; rfl
  have hlt := lt_of_block h.top
  generalize sizeV chunk = n at *
  have HS := Lib.hid hs
  clear h h1 hM hn hs
  have hA1 := cell_alloc_if
  have hA2 := frozen_alloc_if
  have hA3 := cell_set_if
  go_enter Try.func32, Try.ntmps32
  go_wp2_with (go_at_call 24; (with_reducible refine (HS.out _).mono ?_); rintro e w' ⟨rfl, rfl⟩)
  go_region
  go_wp2
  go_returns
  exact ⟨rfl, by (repeat' (first | (with_reducible exact Below.refl _ _) | (with_reducible assumption) | (with_reducible refine Below.setCell ?_ ?_ _) | (with_reducible refine Below.alloc ?_ ?_ _) | (with_reducible refine Below.drew ?_) | (with_reducible refine below_drewN ?_ _) | (with_reducible refine below_next ?_ (by with_reducible assumption)) | omega | (dsimp only; omega) | (simp only [World.size_alloc, World.size_setCell, World.size_drew, World.heap_drewN]; omega)))⟩

set_option maxRecDepth 100000 in
set_option maxHeartbeats 4000000 in
theorem find_some {w : World} {base pm bm nb last cap : Nat} {M : Int → Option Bk} (h : MemS w base pm bm nb last cap M) (chunk b l n : Int) (hl : I64 l) (hn : sizeV chunk = n) (hn1 : n = 1 ∨ n = 2 ∨ n = 4 ∨ n = 8) (B : Bk) (hM : M l = some B) :
    Calls Try.prog 32 #[.pointer (some ⟨pm, 0, none⟩), .int .i64 chunk, .agg #[.int .i64 4, .int .u64 b, .int .i64 l]] w fun e w' => e = .returned (if wrap64 b < 0 ∨ wrap64 b % n ≠ 0 ∨ wrap64 b > (B.cells.length : Int) - n then .tuple #[.pointer none, .int .i64 0] else .tuple #[.pointer (some ⟨B.b, 0, none⟩), .int .i64 (wrap64 b)]) ∧ Below w.heap.size w w' := by
  have HS := Lib.hid (size_any chunk)
  rw [hn] at HS
  have h1 := h.next ((Below.refl _ _).alloc (Nat.le_refl _) (.cells #[.int .i64 4, .int .u64 b, .int .i64 l] 32))
  have hrun := (h1.next (Below.refl _ _).drew).look l hl
  rw [hM] at hrun
  simp only [Option.map_some, valO, ptrVal] at hrun
  have hB := h.at_ l B hM
  have t0 : w.cell? ⟨pm, 0, none⟩ = some (.map (some bm)) := by rw [Lib.cell_of_heap h.top]; rfl
  have b0 : w.cell? ⟨B.b, 0, none⟩ = some (.slice (some ⟨B.g, 0, none⟩) B.cells.length B.cells.length) := by rw [Lib.cell_of_heap hB.own]; rfl
  have hlt := lt_of_block h.top
  have hltb := hB.lt.1
  have hlen := (h.keys l B hM).2.2.2.2.2.2.1
  clear h h1 hM hn hB
  generalize hxx : wrap64 b = x at *
  by_cases c1 : x < 0
  · rw [if_pos (.inl c1)]
    have d1 : decide (x < 0) = true := by simpa using c1
    have hA1 := cell_alloc_if
    have hA2 := frozen_alloc_if
    have hA3 := cell_set_if
    go_enter Try.func32, Try.ntmps32
    go_wp2_with (go_at_call 24; (with_reducible refine (HS.out _).mono ?_); rintro e w' ⟨rfl, rfl⟩)
    go_region
    go_wp2
    all_goals (go_returns; exact ⟨rfl, by (repeat' (first | (with_reducible exact Below.refl _ _) | (with_reducible assumption) | (with_reducible refine Below.setCell ?_ ?_ _) | (with_reducible refine Below.alloc ?_ ?_ _) | (with_reducible refine Below.drew ?_) | (with_reducible refine below_drewN ?_ _) | (with_reducible refine below_next ?_ (by with_reducible assumption)) | omega | (dsimp only; omega) | (simp only [World.size_alloc, World.size_setCell, World.size_drew, World.heap_drewN]; omega)))⟩)
  · have d1 : decide (x < 0) = false := by simpa using c1
    have dn : (n == 0) = false := by simp; omega
    have ht : x.tmod n = x % n := Int.tmod_eq_emod_of_nonneg (by omega)
    by_cases c2 : x % n = 0
    · have d2 : (x.tmod n != 0) = false := by rw [ht]; simpa using c2
      have hw : wrap64 ((B.cells.length : Int) - n) = (B.cells.length : Int) - n := by unfold wrap64; omega
      by_cases c3 : x > (B.cells.length : Int) - n
      · rw [if_pos (.inr (.inr c3))]
        have d3 : decide ((B.cells.length : Int) - n < x) = true := by simpa using c3
        clear ht
        have hA1 := cell_alloc_if
        have hA2 := frozen_alloc_if
        have hA3 := cell_set_if
        go_enter Try.func32, Try.ntmps32
        go_wp2_with (go_at_call 24; (with_reducible refine (HS.out _).mono ?_); rintro e w' ⟨rfl, rfl⟩)
        go_region
        go_wp2
        all_goals (go_returns; exact ⟨rfl, by (repeat' (first | (with_reducible exact Below.refl _ _) | (with_reducible assumption) | (with_reducible refine Below.setCell ?_ ?_ _) | (with_reducible refine Below.alloc ?_ ?_ _) | (with_reducible refine Below.drew ?_) | (with_reducible refine below_drewN ?_ _) | (with_reducible refine below_next ?_ (by with_reducible assumption)) | omega | (dsimp only; omega) | (simp only [World.size_alloc, World.size_setCell, World.size_drew, World.heap_drewN]; omega)))⟩)
      · rw [if_neg (by omega)]
        have d3 : decide ((B.cells.length : Int) - n < x) = false := by simpa using c3
        clear ht
        have hA1 := cell_alloc_if
        have hA2 := frozen_alloc_if
        have hA3 := cell_set_if
        go_enter Try.func32, Try.ntmps32
        go_wp2_with (go_at_call 24; (with_reducible refine (HS.out _).mono ?_); rintro e w' ⟨rfl, rfl⟩)
        go_region
        go_wp2
        all_goals (go_returns; exact ⟨by rw [← hxx]; rfl, by (repeat' (first | (with_reducible exact Below.refl _ _) | (with_reducible assumption) | (with_reducible refine Below.setCell ?_ ?_ _) | (with_reducible refine Below.alloc ?_ ?_ _) | (with_reducible refine Below.drew ?_) | (with_reducible refine below_drewN ?_ _) | (with_reducible refine below_next ?_ (by with_reducible assumption)) | omega | (dsimp only; omega) | (simp only [World.size_alloc, World.size_setCell, World.size_drew, World.heap_drewN]; omega)))⟩)
    · rw [if_pos (.inr (.inl c2))]
      have d2 : (x.tmod n != 0) = true := by rw [ht]; simpa using c2
      clear ht
      have hA1 := cell_alloc_if
      have hA2 := frozen_alloc_if
      have hA3 := cell_set_if
      go_enter Try.func32, Try.ntmps32
      go_wp2_with (go_at_call 24; (with_reducible refine (HS.out _).mono ?_); rintro e w' ⟨rfl, rfl⟩)
      go_region
      go_wp2
      all_goals (go_returns; exact ⟨rfl, by (repeat' (first | (with_reducible exact Below.refl _ _) | (with_reducible assumption) | (with_reducible refine Below.setCell ?_ ?_ _) | (with_reducible refine Below.alloc ?_ ?_ _) | (with_reducible refine Below.drew ?_) | (with_reducible refine below_drewN ?_ _) | (with_reducible refine below_next ?_ (by with_reducible assumption)) | omega | (dsimp only; omega) | (simp only [World.size_alloc, World.size_setCell, World.size_drew, World.heap_drewN]; omega)))⟩)

theorem find_any {w : World} {base pm bm nb last cap : Nat} {M : Int → Option Bk} (h : MemS w base pm bm nb last cap M) (chunk k b l : Int) (hl : I64 l) :
    Calls Try.prog 32 #[.pointer (some ⟨pm, 0, none⟩), .int .i64 chunk, .agg #[.int .i64 k, .int .u64 b, .int .i64 l]] w fun e w' => e = .returned (findV M chunk ⟨k, b, l⟩) ∧ Below w.heap.size w w' := by
  unfold findV findA
  by_cases c : k ≠ 4 ∨ sizeV chunk = 0
  · rw [if_pos c]; exact find_no h chunk k b l c
  · rw [if_neg c]
    have hk : k = 4 := by omega
    have hs : sizeV chunk ≠ 0 := by omega
    subst hk
    dsimp only
    cases hM : M l with
    | none => exact find_none h chunk b l hl hs hM
    | some B =>
      have := find_some h chunk b l (sizeV chunk) hl rfl (by have := sizeV_cases chunk; omega) B hM
      split at this
      · rename_i c2; simp only [if_pos c2]; exact this
      · rename_i c2; simp only [if_neg c2]; rw [Int.toNat_of_nonneg (by omega)]; exact this

end Go.Proofs.Ytddipbpllogbaaa
