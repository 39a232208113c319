/-
  A value of three cells in a block of its own.
-/
import Derived.Test.YtddipbpllogbaaaMemEnds
namespace Go.Proofs.Ytddipbpllogbaaa
open Go.RowKit
set_option linter.unusedVariables false
set_option linter.unusedSimpArgs false

def Box3 (W : World) (g : Nat) (x y z : Int) : Prop := W.heap[g]? = some (.cells #[.int .i64 x, .int .u64 y, .int .i64 z] 32 (0, 0))
theorem Box3.kept {W W' : World} {g : Nat} {x y z : Int} (h : Box3 W g x y z) (k : KeptT W W') : Box3 W' g x y z := (kept3 k h).1
theorem Box3.next {W W' : World} {g : Nat} {x y z : Int} (h : Box3 W g x y z) (k : Below W.heap.size W W') : Box3 W' g x y z := (kept3 (KeptT.of_below k) h).1
theorem Box3.cells {W : World} {g : Nat} {x y z : Int} (h : Box3 W g x y z) : W.cell? ⟨g, 0, none⟩ = some (.int .i64 x) ∧ W.cell? ⟨g, 1, none⟩ = some (.int .u64 y) ∧ W.cell? ⟨g, 2, none⟩ = some (.int .i64 z) ∧ Box3 W g x y z :=
  ⟨(kept3 (KeptT.refl W) h).2.1, (kept3 (KeptT.refl W) h).2.2.1, (kept3 (KeptT.refl W) h).2.2.2, h⟩
theorem Box3.keptC {W W' : World} {g : Nat} {x y z : Int} (k : KeptT W W') (h : W.cell? ⟨g, 0, none⟩ = some (.int .i64 x) ∧ W.cell? ⟨g, 1, none⟩ = some (.int .u64 y) ∧ W.cell? ⟨g, 2, none⟩ = some (.int .i64 z) ∧ Box3 W g x y z) : Box3 W' g x y z := h.2.2.2.kept k
theorem Box3.made (W : World) (x y z : Int) : Box3 (W.alloc (.cells #[.int .i64 x, .int .u64 y, .int .i64 z] 32)) W.heap.size x y z := heap_alloc_new _ _
theorem Box3.lt {W : World} {g : Nat} {x y z : Int} (h : Box3 W g x y z) : g < W.heap.size := lt_of_block h
theorem Box3.set {W : World} {g : Nat} {x y z : Int} (h : Box3 W g x y z) (x' y' z' : Int) : Box3 (((W.setCell ⟨g, 0, none⟩ (.int .i64 x')).setCell ⟨g, 1, none⟩ (.int .u64 y')).setCell ⟨g, 2, none⟩ (.int .i64 z')) g x' y' z' := by
  unfold Box3
  rw [heap_set_at (heap_set_at (heap_set_at h 0 _) 1 _) 2 _]
  rfl

end Go.Proofs.Ytddipbpllogbaaa
