/-
  An own row of ints whose cells are put in anew (sorted, turned round). No program in sight.
-/
import Derived.Test.YtadcjmfednachaaMat
import Derived.Sort.OwnSortedInts
namespace Go.Proofs.Ytadcjmfednachaa
open Go.RowKit Go.Sort
set_option linter.unusedVariables false

theorem flat_intC (l : List Int) : l.flatMap intC = l.map (Value.int .i64) := by
  induction l with
  | nil => rfl
  | cons a l ih => rw [List.flatMap_cons, ih]; rfl
theorem OwnL.rowAt {e : TypeId} {base g n c : Nat} {w : World} {l : List Int} (h : OwnL e intC 1 base w (.slice (some ⟨g, 0, none⟩) n c) l) :
    ∃ cur, w.heap[g]? = some (.cells cur e (0, 0)) ∧ base ≤ g ∧ l.length ≤ c ∧ c ≤ maxLen ∧ cur.size = c * 1 ∧ cur.toList.take l.length = l.map (Value.int .i64) ∧ n = l.length := by
  obtain ⟨A, c', e1, h2⟩ := h
  injection e1 with e1 e2 e3
  rcases h2.2 with ⟨h1, _⟩ | ⟨g', cap, cur, hv, hb, hg, r1, r2, r3, r4⟩
  · cases h1
  · injection hv with k1 k2 k3
    injection k1 with k1
    injection k1 with k1
    subst k1 k3
    rw [flat_intC, Nat.mul_one] at r4
    exact ⟨cur, hg, hb, r1, r2, r3, r4, e2⟩
theorem OwnL.holds {e : TypeId} {base g n c : Nat} {w : World} {l : List Int} (h : OwnL e intC 1 base w (.slice (some ⟨g, 0, none⟩) n c) l) : Holds (Value.int .i64) w g 0 l.toArray ∧ g < w.heap.size ∧ n = l.length ∧ l.length ≤ c := by
  obtain ⟨cur, hg, _, h1, _, _, h4, h5⟩ := h.rowAt
  exact ⟨holds_of_blockI hg h4, (Array.getElem?_eq_some_iff.1 hg).1, h5, h1⟩
theorem OwnL.laid {e : TypeId} {base g n c : Nat} {w : World} {l ts : List Int} (h : OwnL e intC 1 base w (.slice (some ⟨g, 0, none⟩) n c) l) (hl : ts.length = l.length) (k : Nat) (os : Array Obj) :
    OwnL e intC 1 base (grow (putRow (Value.int .i64) (Sort.ahead w k) g 0 ts.toArray) os) (.slice (some ⟨g, 0, none⟩) n c) ts ∧ w.grownBy (grow (putRow (Value.int .i64) (Sort.ahead w k) g 0 ts.toArray) os) (some g) := by
  obtain ⟨cur, hg, hb, h1, h2, h3, h4, h5⟩ := h.rowAt
  refine ⟨⟨_, _, by rw [h5, hl], ?_⟩, grownBy_sortedI _⟩
  rw [flat_intC, hl, h5]
  exact ownsRow_sortedI hl hb hg h1 h2 h3
theorem grow_none (w : World) : grow w #[] = w := by simp [grow]
end Go.Proofs.Ytadcjmfednachaa
