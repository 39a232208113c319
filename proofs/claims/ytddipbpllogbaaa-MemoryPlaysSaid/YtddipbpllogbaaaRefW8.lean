/-
  The reference's memory: a block's cell, read and set.
-/
import Derived.Test.YtddipbpllogbaaaRefDefs
namespace Go.Proofs.Ytddipbpllogbaaa
open Go.RowKit
set_option linter.unusedVariables false
set_option linter.unusedSimpArgs false

/-- A block as a value. -/
def RB.val (B : RB) : Value := .agg #[.slice (some ⟨B.g, 0, none⟩) B.kinds.length B.kinds.length, .slice (some ⟨B.b, 0, none⟩) B.kinds.length B.kinds.length, .map (some B.p), .bool true, .bool B.fixed]
def rcell (B : RB) (off : Nat) : PC := if B.kinds.getD off 0 = 2 then (B.pcs off).getD pZ else ⟨B.kinds.getD off 0, B.bytes.getD off 0, ⟨0, 0, 0⟩, 0⟩
theorem zcell : ∀ w : World, (zeroValue 78).run Try.prog w = .ok (.agg #[.int .i64 0, .int .u8 0, .int .i64 0, .int .u64 0, .int .i64 0, .int .i64 0]) w := fun w => by kernel_rfl
theorem RBAt.next {w w' : World} {B : RB} (h : RBAt w B) (hb : Below w.heap.size w w') : RBAt w' B := h.block fun i hi => hb.block i (by
  have := h.lt
  rcases hi with rfl | rfl | rfl
  · exact this.1
  · exact this.2.1
  · exact this.2.2)
theorem RBAt.look {w : World} {B : RB} (h : RBAt w B) (k : Int) (hk : (Lit.int .i64 k).wf = true) :
    (Instr.lookup 65 (.map (some B.p)) (.int .i64 k) false).run Try.prog w = .ok (pVal ((B.pcs k).getD pZ)) w := by
  rw [MapF.look pE Try.underlying3 Try.underlying65 zcell h.pcs k hk]
  cases B.pcs k <;> rfl
theorem row8 {w : World} {g : Nat} {l : List Int} (h : w.heap[g]? = some (.cells (l.map (Value.int .u8)).toArray 5 (0, 0))) (i : Nat) (hi : i < l.length) : w.cell? ⟨g, i, none⟩ = some (.int .u8 (l.getD i 0)) := by
  rw [Lib.cell_of_heap h]
  simp [hi]

set_option maxRecDepth 100000 in
set_option maxHeartbeats 4000000 in
theorem cell_any {w : World} (B : RB) (h : RBAt w B) (off : Nat) (ho : off < B.kinds.length) (hl : B.bytes.length = B.kinds.length) (hm : B.kinds.length ≤ 16777216) (hk : ∀ x ∈ B.kinds, 0 ≤ x ∧ x < 3) :
    Calls Try.prog 36 #[.agg #[.slice (some ⟨B.g, 0, none⟩) B.kinds.length B.kinds.length, .slice (some ⟨B.b, 0, none⟩) B.kinds.length B.kinds.length, .map (some B.p), .bool true, .bool B.fixed], .int .i64 off] w fun e w' =>
      e = .returned (.agg #[.int .i64 (rcell B off).k, .int .u8 (rcell B off).b, .int .i64 (rcell B off).p.k, .int .u64 (rcell B off).p.b, .int .i64 (rcell B off).p.l, .int .i64 (rcell B off).i]) ∧ Below w.heap.size w w' := by
  have r1 := row8 h.kinds off ho
  have r2 := row8 h.bytes off (by omega)
  have hlt := h.lt
  have hkk := hk (B.kinds.getD off 0) (by rw [List.getD_eq_getElem?_getD, List.getElem?_eq_getElem ho]; exact List.getElem_mem ho)
  unfold rcell
  generalize B.kinds.getD off 0 = kd at *
  have HLK := Lib.hid (fun W (hb : Below w.heap.size w W) => (h.next hb).look off (i64wf (by unfold I64; omega)))
  by_cases c : kd = 2
  · rw [if_pos c]
    subst c
    obtain ⟨x, hx⟩ : ∃ x, (B.pcs (off : Int)).getD pZ = x := ⟨_, rfl⟩
    have hrun := HLK.out ((w.alloc (.cells #[.slice (some ⟨B.g, 0, none⟩) B.kinds.length B.kinds.length, .slice (some ⟨B.b, 0, none⟩) B.kinds.length B.kinds.length, .map (some B.p), .bool true, .bool B.fixed] 67)).alloc (.cells #[.int .i64 0, .int .u8 0, .int .i64 0, .int .u64 0, .int .i64 0, .int .i64 0] 78)) (by (repeat' (first | (with_reducible exact Below.refl _ _) | (with_reducible assumption) | (with_reducible refine Below.setCell ?_ ?_ _) | (with_reducible refine Below.alloc ?_ ?_ _) | (with_reducible refine Below.drew ?_) | (with_reducible refine below_drewN ?_ _) | (with_reducible refine below_next ?_ (by with_reducible assumption)) | omega | (dsimp only; omega) | (simp only [World.size_alloc, World.size_setCell, World.size_drew, World.heap_drewN]; omega))))
    rw [hx] at hrun ⊢
    obtain ⟨xk, xb, ⟨pk, pb, pl⟩, xi⟩ := x
    unfold pVal at hrun
    dsimp only at hrun ⊢
    clear h hk HLK hx
    have hA1 := cell_alloc_if
    have hA2 := frozen_alloc_if
    have hA3 := cell_set_if
    go_enter Try.func36, Try.ntmps36
    go_wp2
    ((try simp only [Exit.inBlock, Exit.then]); go_light; refine bodyPost_ret (by simp [results, Try.results36, go_sem, *, ↓IntWalk.iteOmega]; try rfl) rfl ?_)
    exact ⟨rfl, by (repeat' (first | (with_reducible exact Below.refl _ _) | (with_reducible assumption) | (with_reducible refine Below.setCell ?_ ?_ _) | (with_reducible refine Below.alloc ?_ ?_ _) | (with_reducible refine Below.drew ?_) | (with_reducible refine below_drewN ?_ _) | (with_reducible refine below_next ?_ (by with_reducible assumption)) | omega | (dsimp only; omega) | (simp only [World.size_alloc, World.size_setCell, World.size_drew, World.heap_drewN]; omega)))⟩
  · rw [if_neg c]
    have d : (kd == 2) = false := by simpa using c
    dsimp only
    generalize B.bytes.getD off 0 = bd at *
    clear h hk HLK c
    have hA1 := cell_alloc_if
    have hA2 := frozen_alloc_if
    have hA3 := cell_set_if
    go_enter Try.func36, Try.ntmps36
    go_wp2
    go_region
    go_wp2
    ((try simp only [Exit.inBlock, Exit.then]); go_light; refine bodyPost_ret (by simp [results, Try.results36, go_sem, *, ↓IntWalk.iteOmega]; try rfl) rfl ?_)
    exact ⟨rfl, by (repeat' (first | (with_reducible exact Below.refl _ _) | (with_reducible assumption) | (with_reducible refine Below.setCell ?_ ?_ _) | (with_reducible refine Below.alloc ?_ ?_ _) | (with_reducible refine Below.drew ?_) | (with_reducible refine below_drewN ?_ _) | (with_reducible refine below_next ?_ (by with_reducible assumption)) | omega | (dsimp only; omega) | (simp only [World.size_alloc, World.size_setCell, World.size_drew, World.heap_drewN]; omega)))⟩

end Go.Proofs.Ytddipbpllogbaaa
