/-
  The program's memory: in, near, Eval2.
-/
import Derived.Test.YtddipbpllogbaaaRefW5
import Derived.Test.YtddipbpllogbaaaMemW2
namespace Go.Proofs.Ytddipbpllogbaaa
open Go.RowKit
set_option linter.unusedVariables false
set_option linter.unusedSimpArgs false

def atM (M : Int → Option Bk) (a : V) (e : Int) : Bool := match M a.l with
  | some B => decide (a.b < B.cells.length + e)
  | none => false
def inM (M : Int → Option Bk) (a : V) : Bool := decide (a.k = 4) && atM M a 0
def nearM (M : Int → Option Bk) (a : V) : Bool := atM M a 1
set_option maxRecDepth 100000 in
set_option maxHeartbeats 4000000 in
theorem in_any {w : World} {base pm bm nb last cap : Nat} {M : Int → Option Bk} (h : MemS w base pm bm nb last cap M) (k b l : Int) (hl : I64 l) :
    Calls Try.prog 42 #[.pointer (some ⟨pm, 0, none⟩), .agg #[.int .i64 k, .int .u64 b, .int .i64 l]] w fun e w' => e = .returned (.bool (inM M ⟨k, b, l⟩)) ∧ Below w.heap.size w w' := by
  have h1 := h.next ((Below.refl _ _).alloc (Nat.le_refl _) (.cells #[.int .i64 k, .int .u64 b, .int .i64 l] 32))
  have hrun := (h1.next (Below.refl _ _).drew).look l hl
  have t0 : w.cell? ⟨pm, 0, none⟩ = some (.map (some bm)) := by rw [Lib.cell_of_heap h.top]; rfl
  have hlt := lt_of_block h.top
  unfold inM atM
  dsimp only
  cases hM : M l with
  | none =>
    rw [hM] at hrun
    simp only [Option.map_none, valO] at hrun
    dsimp only
    rw [Bool.and_false]
    clear h h1 hM
    by_cases ck : k = 4
    · have dk : (k == 4) = true := by simpa using ck
      clear ck
      have hA1 := cell_alloc_if
      have hA2 := frozen_alloc_if
      have hA3 := cell_set_if
      go_enter Try.func42, Try.ntmps42
      go_wp2
      go_region
      go_wp2
      refine wp_region_ext (by kernel_rfl) (by kernel_rfl) ?_
      repeat (first | go_big_quiet_skip | (go_big_quiet_want; go_big_quiet_op; first | go_big_quiet_on | (apply Exists.intro; refine ⟨fun W hW => ?_, ?_⟩; (focus (first
        | fail
        | exact rfl | (obtain ⟨hcW, hfW, hzW⟩ := cif (Ext.of hW); (try simp only [World.size_alloc, World.size_setCell, World.size_drew, World.heap_drewN] at hzW); simp [go_sem, *, ↓IntWalk.iteOmega]; (try exact rfl)))); go_big_quiet_on)))
      refine wpQuiet_nil ?_
      intro w' hw'
      have hbl := Ext.of hw'
      obtain ⟨hc, hf, hz⟩ := cif hbl
      (try simp only [World.size_alloc, World.size_setCell, World.size_drew, World.heap_drewN] at hz)
      clear hw'
      go_wp2
      go_returns
      exact ⟨rfl, by (repeat' (first | (with_reducible exact Below.refl _ _) | (with_reducible assumption) | (with_reducible refine Below.setCell ?_ ?_ _) | (with_reducible refine Below.alloc ?_ ?_ _) | (with_reducible refine Below.drew ?_) | (with_reducible refine below_drewN ?_ _) | (with_reducible refine below_next ?_ (by with_reducible assumption)) | omega | (dsimp only; omega) | (simp only [World.size_alloc, World.size_setCell, World.size_drew, World.heap_drewN]; omega)))⟩
    · have dk : (k == 4) = false := by simpa using ck
      clear ck
      have hA1 := cell_alloc_if
      have hA2 := frozen_alloc_if
      have hA3 := cell_set_if
      go_enter Try.func42, Try.ntmps42
      go_wp2
      go_region
      go_wp2
      refine wp_region_ext (by kernel_rfl) (by kernel_rfl) ?_
      repeat (first | go_big_quiet_skip | (go_big_quiet_want; go_big_quiet_op; first | go_big_quiet_on | (apply Exists.intro; refine ⟨fun W hW => ?_, ?_⟩; (focus (first
        | fail
        | exact rfl | (obtain ⟨hcW, hfW, hzW⟩ := cif (Ext.of hW); (try simp only [World.size_alloc, World.size_setCell, World.size_drew, World.heap_drewN] at hzW); simp [go_sem, *, ↓IntWalk.iteOmega]; (try exact rfl)))); go_big_quiet_on)))
      refine wpQuiet_nil ?_
      intro w' hw'
      have hbl := Ext.of hw'
      obtain ⟨hc, hf, hz⟩ := cif hbl
      (try simp only [World.size_alloc, World.size_setCell, World.size_drew, World.heap_drewN] at hz)
      clear hw'
      go_wp2
      go_returns
      exact ⟨rfl, by (repeat' (first | (with_reducible exact Below.refl _ _) | (with_reducible assumption) | (with_reducible refine Below.setCell ?_ ?_ _) | (with_reducible refine Below.alloc ?_ ?_ _) | (with_reducible refine Below.drew ?_) | (with_reducible refine below_drewN ?_ _) | (with_reducible refine below_next ?_ (by with_reducible assumption)) | omega | (dsimp only; omega) | (simp only [World.size_alloc, World.size_setCell, World.size_drew, World.heap_drewN]; omega)))⟩
  | some B =>
    rw [hM] at hrun
    simp only [Option.map_some, valO, ptrVal] at hrun
    have hB := h.at_ l B hM
    have b0 : w.cell? ⟨B.b, 0, none⟩ = some (.slice (some ⟨B.g, 0, none⟩) B.cells.length B.cells.length) := by rw [Lib.cell_of_heap hB.own]; rfl
    have hltb := hB.lt.1
    have hlen := (h.keys l B hM).2.2.2.2.2.2.1
    have hw : IntKind.u64.wrap (B.cells.length : Int) = (B.cells.length : Int) := by rw [IntKind.wrap_u64]; omega
    dsimp only
    rw [Int.add_zero]
    clear h h1 hM hB
    by_cases ck : k = 4
    · have dk : (k == 4) = true := by simpa using ck
      rw [show decide (k = 4) = true by simpa using ck, Bool.true_and]
      clear ck
      by_cases c1 : b < (B.cells.length : Int)
      · have d1 : decide (b < (B.cells.length : Int)) = true := by simpa using c1
        rw [d1]
        have hA1 := cell_alloc_if
        have hA2 := frozen_alloc_if
        have hA3 := cell_set_if
        go_enter Try.func42, Try.ntmps42
        go_wp2
        go_region
        go_wp2
        refine wp_region_ext (by kernel_rfl) (by kernel_rfl) ?_
        repeat (first | go_big_quiet_skip | (go_big_quiet_want; go_big_quiet_op; first | go_big_quiet_on | (apply Exists.intro; refine ⟨fun W hW => ?_, ?_⟩; (focus (first
          | fail
          | exact rfl | (obtain ⟨hcW, hfW, hzW⟩ := cif (Ext.of hW); (try simp only [World.size_alloc, World.size_setCell, World.size_drew, World.heap_drewN] at hzW); simp [go_sem, *, ↓IntWalk.iteOmega]; (try exact rfl)))); go_big_quiet_on)))
        refine wpQuiet_nil ?_
        intro w' hw'
        have hbl := Ext.of hw'
        obtain ⟨hc, hf, hz⟩ := cif hbl
        (try simp only [World.size_alloc, World.size_setCell, World.size_drew, World.heap_drewN] at hz)
        clear hw'
        go_wp2
        go_returns
        exact ⟨rfl, by (repeat' (first | (with_reducible exact Below.refl _ _) | (with_reducible assumption) | (with_reducible refine Below.setCell ?_ ?_ _) | (with_reducible refine Below.alloc ?_ ?_ _) | (with_reducible refine Below.drew ?_) | (with_reducible refine below_drewN ?_ _) | (with_reducible refine below_next ?_ (by with_reducible assumption)) | omega | (dsimp only; omega) | (simp only [World.size_alloc, World.size_setCell, World.size_drew, World.heap_drewN]; omega)))⟩
      · have d1 : decide (b < (B.cells.length : Int)) = false := by simpa using c1
        rw [d1]
        have hA1 := cell_alloc_if
        have hA2 := frozen_alloc_if
        have hA3 := cell_set_if
        go_enter Try.func42, Try.ntmps42
        go_wp2
        go_region
        go_wp2
        refine wp_region_ext (by kernel_rfl) (by kernel_rfl) ?_
        repeat (first | go_big_quiet_skip | (go_big_quiet_want; go_big_quiet_op; first | go_big_quiet_on | (apply Exists.intro; refine ⟨fun W hW => ?_, ?_⟩; (focus (first
          | fail
          | exact rfl | (obtain ⟨hcW, hfW, hzW⟩ := cif (Ext.of hW); (try simp only [World.size_alloc, World.size_setCell, World.size_drew, World.heap_drewN] at hzW); simp [go_sem, *, ↓IntWalk.iteOmega]; (try exact rfl)))); go_big_quiet_on)))
        refine wpQuiet_nil ?_
        intro w' hw'
        have hbl := Ext.of hw'
        obtain ⟨hc, hf, hz⟩ := cif hbl
        (try simp only [World.size_alloc, World.size_setCell, World.size_drew, World.heap_drewN] at hz)
        clear hw'
        go_wp2
        go_returns
        exact ⟨rfl, by (repeat' (first | (with_reducible exact Below.refl _ _) | (with_reducible assumption) | (with_reducible refine Below.setCell ?_ ?_ _) | (with_reducible refine Below.alloc ?_ ?_ _) | (with_reducible refine Below.drew ?_) | (with_reducible refine below_drewN ?_ _) | (with_reducible refine below_next ?_ (by with_reducible assumption)) | omega | (dsimp only; omega) | (simp only [World.size_alloc, World.size_setCell, World.size_drew, World.heap_drewN]; omega)))⟩
    · have dk : (k == 4) = false := by simpa using ck
      rw [show decide (k = 4) = false by simpa using ck, Bool.false_and]
      clear ck
      have hA1 := cell_alloc_if
      have hA2 := frozen_alloc_if
      have hA3 := cell_set_if
      go_enter Try.func42, Try.ntmps42
      go_wp2
      go_region
      go_wp2
      refine wp_region_ext (by kernel_rfl) (by kernel_rfl) ?_
      repeat (first | go_big_quiet_skip | (go_big_quiet_want; go_big_quiet_op; first | go_big_quiet_on | (apply Exists.intro; refine ⟨fun W hW => ?_, ?_⟩; (focus (first
        | fail
        | exact rfl | (obtain ⟨hcW, hfW, hzW⟩ := cif (Ext.of hW); (try simp only [World.size_alloc, World.size_setCell, World.size_drew, World.heap_drewN] at hzW); simp [go_sem, *, ↓IntWalk.iteOmega]; (try exact rfl)))); go_big_quiet_on)))
      refine wpQuiet_nil ?_
      intro w' hw'
      have hbl := Ext.of hw'
      obtain ⟨hc, hf, hz⟩ := cif hbl
      (try simp only [World.size_alloc, World.size_setCell, World.size_drew, World.heap_drewN] at hz)
      clear hw'
      go_wp2
      go_returns
      exact ⟨rfl, by (repeat' (first | (with_reducible exact Below.refl _ _) | (with_reducible assumption) | (with_reducible refine Below.setCell ?_ ?_ _) | (with_reducible refine Below.alloc ?_ ?_ _) | (with_reducible refine Below.drew ?_) | (with_reducible refine below_drewN ?_ _) | (with_reducible refine below_next ?_ (by with_reducible assumption)) | omega | (dsimp only; omega) | (simp only [World.size_alloc, World.size_setCell, World.size_drew, World.heap_drewN]; omega)))⟩
set_option maxRecDepth 100000 in
set_option maxHeartbeats 4000000 in
theorem near_any {w : World} {base pm bm nb last cap : Nat} {M : Int → Option Bk} (h : MemS w base pm bm nb last cap M) (k b l : Int) (hl : I64 l) :
    Calls Try.prog 43 #[.pointer (some ⟨pm, 0, none⟩), .agg #[.int .i64 k, .int .u64 b, .int .i64 l]] w fun e w' => e = .returned (.bool (nearM M ⟨k, b, l⟩)) ∧ Below w.heap.size w w' := by
  have h1 := h.next ((Below.refl _ _).alloc (Nat.le_refl _) (.cells #[.int .i64 k, .int .u64 b, .int .i64 l] 32))
  have hrun := (h1.next (Below.refl _ _).drew).look l hl
  have t0 : w.cell? ⟨pm, 0, none⟩ = some (.map (some bm)) := by rw [Lib.cell_of_heap h.top]; rfl
  have hlt := lt_of_block h.top
  unfold nearM atM
  dsimp only
  cases hM : M l with
  | none =>
    rw [hM] at hrun
    simp only [Option.map_none, valO] at hrun
    dsimp only
    clear h h1 hM
    have hA1 := cell_alloc_if
    have hA2 := frozen_alloc_if
    have hA3 := cell_set_if
    go_enter Try.func43, Try.ntmps43
    go_wp2
    go_region
    go_wp2
    refine wp_region_ext (by kernel_rfl) (by kernel_rfl) ?_
    repeat (first | go_big_quiet_skip | (go_big_quiet_want; go_big_quiet_op; first | go_big_quiet_on | (apply Exists.intro; refine ⟨fun W hW => ?_, ?_⟩; (focus (first
      | fail
      | exact rfl | (obtain ⟨hcW, hfW, hzW⟩ := cif (Ext.of hW); (try simp only [World.size_alloc, World.size_setCell, World.size_drew, World.heap_drewN] at hzW); simp [go_sem, *, ↓IntWalk.iteOmega]; (try exact rfl)))); go_big_quiet_on)))
    refine wpQuiet_nil ?_
    intro w' hw'
    have hbl := Ext.of hw'
    obtain ⟨hc, hf, hz⟩ := cif hbl
    (try simp only [World.size_alloc, World.size_setCell, World.size_drew, World.heap_drewN] at hz)
    clear hw'
    go_wp2
    go_returns
    exact ⟨rfl, by (repeat' (first | (with_reducible exact Below.refl _ _) | (with_reducible assumption) | (with_reducible refine Below.setCell ?_ ?_ _) | (with_reducible refine Below.alloc ?_ ?_ _) | (with_reducible refine Below.drew ?_) | (with_reducible refine below_drewN ?_ _) | (with_reducible refine below_next ?_ (by with_reducible assumption)) | omega | (dsimp only; omega) | (simp only [World.size_alloc, World.size_setCell, World.size_drew, World.heap_drewN]; omega)))⟩
  | some B =>
    rw [hM] at hrun
    simp only [Option.map_some, valO, ptrVal] at hrun
    have hB := h.at_ l B hM
    have b0 : w.cell? ⟨B.b, 0, none⟩ = some (.slice (some ⟨B.g, 0, none⟩) B.cells.length B.cells.length) := by rw [Lib.cell_of_heap hB.own]; rfl
    have hltb := hB.lt.1
    have hlen := (h.keys l B hM).2.2.2.2.2.2.1
    have hw : IntKind.u64.wrap (B.cells.length : Int) = (B.cells.length : Int) := by rw [IntKind.wrap_u64]; omega
    dsimp only
    clear h h1 hM hB
    by_cases c1 : b ≤ (B.cells.length : Int)
    · have d1 : decide (b ≤ (B.cells.length : Int)) = true := by simpa using c1
      rw [show decide (b < (B.cells.length : Int) + 1) = true by simp; omega]
      have hA1 := cell_alloc_if
      have hA2 := frozen_alloc_if
      have hA3 := cell_set_if
      go_enter Try.func43, Try.ntmps43
      go_wp2
      go_region
      go_wp2
      refine wp_region_ext (by kernel_rfl) (by kernel_rfl) ?_
      repeat (first | go_big_quiet_skip | (go_big_quiet_want; go_big_quiet_op; first | go_big_quiet_on | (apply Exists.intro; refine ⟨fun W hW => ?_, ?_⟩; (focus (first
        | fail
        | exact rfl | (obtain ⟨hcW, hfW, hzW⟩ := cif (Ext.of hW); (try simp only [World.size_alloc, World.size_setCell, World.size_drew, World.heap_drewN] at hzW); simp [go_sem, *, ↓IntWalk.iteOmega]; (try exact rfl)))); go_big_quiet_on)))
      refine wpQuiet_nil ?_
      intro w' hw'
      have hbl := Ext.of hw'
      obtain ⟨hc, hf, hz⟩ := cif hbl
      (try simp only [World.size_alloc, World.size_setCell, World.size_drew, World.heap_drewN] at hz)
      clear hw'
      go_wp2
      go_returns
      exact ⟨rfl, by (repeat' (first | (with_reducible exact Below.refl _ _) | (with_reducible assumption) | (with_reducible refine Below.setCell ?_ ?_ _) | (with_reducible refine Below.alloc ?_ ?_ _) | (with_reducible refine Below.drew ?_) | (with_reducible refine below_drewN ?_ _) | (with_reducible refine below_next ?_ (by with_reducible assumption)) | omega | (dsimp only; omega) | (simp only [World.size_alloc, World.size_setCell, World.size_drew, World.heap_drewN]; omega)))⟩
    · have d1 : decide (b ≤ (B.cells.length : Int)) = false := by simpa using c1
      rw [show decide (b < (B.cells.length : Int) + 1) = false by simp; omega]
      have hA1 := cell_alloc_if
      have hA2 := frozen_alloc_if
      have hA3 := cell_set_if
      go_enter Try.func43, Try.ntmps43
      go_wp2
      go_region
      go_wp2
      refine wp_region_ext (by kernel_rfl) (by kernel_rfl) ?_
      repeat (first | go_big_quiet_skip | (go_big_quiet_want; go_big_quiet_op; first | go_big_quiet_on | (apply Exists.intro; refine ⟨fun W hW => ?_, ?_⟩; (focus (first
        | fail
        | exact rfl | (obtain ⟨hcW, hfW, hzW⟩ := cif (Ext.of hW); (try simp only [World.size_alloc, World.size_setCell, World.size_drew, World.heap_drewN] at hzW); simp [go_sem, *, ↓IntWalk.iteOmega]; (try exact rfl)))); go_big_quiet_on)))
      refine wpQuiet_nil ?_
      intro w' hw'
      have hbl := Ext.of hw'
      obtain ⟨hc, hf, hz⟩ := cif hbl
      (try simp only [World.size_alloc, World.size_setCell, World.size_drew, World.heap_drewN] at hz)
      clear hw'
      go_wp2
      go_returns
      exact ⟨rfl, by (repeat' (first | (with_reducible exact Below.refl _ _) | (with_reducible assumption) | (with_reducible refine Below.setCell ?_ ?_ _) | (with_reducible refine Below.alloc ?_ ?_ _) | (with_reducible refine Below.drew ?_) | (with_reducible refine below_drewN ?_ _) | (with_reducible refine below_next ?_ (by with_reducible assumption)) | omega | (dsimp only; omega) | (simp only [World.size_alloc, World.size_setCell, World.size_drew, World.heap_drewN]; omega)))⟩

end Go.Proofs.Ytddipbpllogbaaa
