/-
  The program's memory: in; Eval2 at pointers of unlike blocks; the fixed examples.
-/
import Derived.Test.YtddipbpllogbaaaMemW5
namespace Go.Proofs.Ytddipbpllogbaaa
open Go.RowKit
set_option linter.unusedVariables false
set_option linter.unusedSimpArgs false

set_option maxRecDepth 100000 in
set_option maxHeartbeats 4000000 in
theorem in_yes {w : World} {base pm bm nb last cap : Nat} {M : Int → Option Bk} (h : MemS w base pm bm nb last cap M) (b l : Int) (hl : I64 l) (B : Bk) (hM : M l = some B) (hb : 0 ≤ b ∧ b < B.cells.length) :
    Calls Try.prog 42 #[.pointer (some ⟨pm, 0, none⟩), .agg #[.int .i64 4, .int .u64 b, .int .i64 l]] w fun e w' => e = .returned (.bool true) ∧ Below w.heap.size w w' := by
  have h1 := h.next ((Below.refl _ _).alloc (Nat.le_refl _) (.cells #[.int .i64 4, .int .u64 b, .int .i64 l] 32))
  have hrun := (h1.next (Below.refl _ _).drew).look l hl
  rw [hM] at hrun
  simp only [Option.map_some, valO, ptrVal] at hrun
  have hB := h.at_ l B hM
  have t0 : w.cell? ⟨pm, 0, none⟩ = some (.map (some bm)) := by rw [Lib.cell_of_heap h.top]; rfl
  have b0 : w.cell? ⟨B.b, 0, none⟩ = some (.slice (some ⟨B.g, 0, none⟩) B.cells.length B.cells.length) := by rw [Lib.cell_of_heap hB.own]; rfl
  have hlt := lt_of_block h.top
  have hltb := hB.lt.1
  have hlen := (h.keys l B hM).2.2.2.2.2.2.1
  have d1 : decide (b < (B.cells.length : Int)) = true := by simpa using hb.2
  have hw : IntKind.u64.wrap (B.cells.length : Int) = (B.cells.length : Int) := by rw [IntKind.wrap_u64]; omega
  clear h h1 hM hB
  have hA1 := cell_alloc_if
  have hA2 := frozen_alloc_if
  have hA3 := cell_set_if
  go_enter Try.func42, Try.ntmps42
  go_wp2
  go_region
  go_wp2
  go_quiet (fail)
  go_wp2
  all_goals (go_returns; exact ⟨rfl, by (repeat' (first | (with_reducible exact Below.refl _ _) | (with_reducible assumption) | (with_reducible refine Below.setCell ?_ ?_ _) | (with_reducible refine Below.alloc ?_ ?_ _) | (with_reducible refine Below.drew ?_) | (with_reducible refine below_drewN ?_ _) | (with_reducible refine below_next ?_ (by with_reducible assumption)) | omega | (dsimp only; omega) | (simp only [World.size_alloc, World.size_setCell, World.size_drew, World.heap_drewN]; omega)))⟩)

set_option maxRecDepth 100000 in
set_option maxHeartbeats 4000000 in
theorem eval2_unlike {w : World} {base pm bm nb last cap : Nat} {M : Int → Option Bk} (h : MemS w base pm bm nb last cap M) (b1 l1 b2 l2 : Int) (hl1 : I64 l1) (hl2 : I64 l2) (hne : l1 ≠ l2) (B C : Bk) (hM1 : M l1 = some B) (hb1 : 0 ≤ b1 ∧ b1 < B.cells.length) (hM2 : M l2 = some C) (hb2 : 0 ≤ b2 ∧ b2 < C.cells.length) :
    Calls Try.prog 19 #[.pointer (some ⟨pm, 0, none⟩), .int .i64 46, .agg #[.int .i64 4, .int .u64 b1, .int .i64 l1], .agg #[.int .i64 4, .int .u64 b2, .int .i64 l2]] w fun e w' => e = .returned (.tuple #[.agg #[.int .i64 1, .int .u64 0, .int .i64 0], .bool true]) ∧ Below w.heap.size w w' := by
  have H1 := Lib.hid (fun W (hW : Ext w W) => in_yes (h.next (Ext.of hW)) b1 l1 hl1 B hM1 hb1)
  have H2 := Lib.hid (fun W (hW : Ext w W) => in_yes (h.next (Ext.of hW)) b2 l2 hl2 C hM2 hb2)
  have d : (l1 != l2) = true := by simpa using hne
  clear h hM1 hM2
  have hA1 := cell_alloc_if
  have hA2 := frozen_alloc_if
  have hA3 := cell_set_if
  go_enter Try.func19, Try.ntmps19
  go_wp2_with (first
    | (go_at_call 42; (with_reducible refine (H1.out _ (by unfold Ext; (repeat' (first | (with_reducible exact Below.refl _ _) | (with_reducible assumption) | (with_reducible refine Below.setCell ?_ ?_ _) | (with_reducible refine Below.alloc ?_ ?_ _) | (with_reducible refine Below.drew ?_) | (with_reducible refine below_drewN ?_ _) | (with_reducible refine below_next ?_ (by with_reducible assumption)) | omega | (dsimp only; omega) | (simp only [World.size_alloc, World.size_setCell, World.size_drew, World.heap_drewN]; omega))))).mono ?_); rintro e w' ⟨rfl, hbl⟩; obtain ⟨hc, hf, hz⟩ := cif hbl; (try simp only [World.size_alloc, World.size_setCell, World.size_drew, World.heap_drewN] at hz))
    | (go_at_call 42; (with_reducible refine (H2.out _ (by unfold Ext; (repeat' (first | (with_reducible exact Below.refl _ _) | (with_reducible assumption) | (with_reducible refine Below.setCell ?_ ?_ _) | (with_reducible refine Below.alloc ?_ ?_ _) | (with_reducible refine Below.drew ?_) | (with_reducible refine below_drewN ?_ _) | (with_reducible refine below_next ?_ (by with_reducible assumption)) | omega | (dsimp only; omega) | (simp only [World.size_alloc, World.size_setCell, World.size_drew, World.heap_drewN]; omega))))).mono ?_); rintro e w' ⟨rfl, hbl⟩; obtain ⟨hc, hf, hz⟩ := cif hbl; (try simp only [World.size_alloc, World.size_setCell, World.size_drew, World.heap_drewN] at hz))
    | (go_at_call 25; (with_reducible refine (intOf_any _ _).mono ?_); rintro e w' ⟨rfl, hbl⟩; obtain ⟨hc, hf, hz⟩ := cif hbl; (try simp only [World.size_alloc, World.size_setCell, World.size_drew, World.heap_drewN] at hz)))
  all_goals (((try simp only [Exit.inBlock, Exit.then]); go_light; refine bodyPost_ret (by simp [results, Try.results19, go_sem, *, ↓IntWalk.iteOmega]; try rfl) rfl ?_); exact ⟨rfl, by (repeat' (first | (with_reducible exact Below.refl _ _) | (with_reducible assumption) | (with_reducible refine Below.setCell ?_ ?_ _) | (with_reducible refine Below.alloc ?_ ?_ _) | (with_reducible refine Below.drew ?_) | (with_reducible refine below_drewN ?_ _) | (with_reducible refine below_next ?_ (by with_reducible assumption)) | omega | (dsimp only; omega) | (simp only [World.size_alloc, World.size_setCell, World.size_drew, World.heap_drewN]; omega)))⟩)

end Go.Proofs.Ytddipbpllogbaaa
