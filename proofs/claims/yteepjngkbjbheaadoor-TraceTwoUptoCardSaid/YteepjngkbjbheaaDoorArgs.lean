/-
  Slices and strings that came in as arguments, opened, with the bound that the form's reach gives. No program in sight.
-/
import Derived.Test.YteepjngkbjbheaaDoorSlices
import Derived.SizedLaws
namespace Go.Proofs.YteepjngkbjbheaaDoor
open Go.RowKit Go.WideShapes Go.ChangeShapes Go.Deep
set_option linter.unusedVariables false
section
variable {H : Type} {enc : TypeId × Value → H} {P : Program} {w : World} {base : Nat} {spare : Nat → Bool} {held : Bool}

theorem cells_slice {A : Option Addr} {n c : Nat} {s : Value} (h : (Value.slice A n c).cells.toList = [s]) : Value.slice A n c = s := by simp [Value.cells] at h; exact h
/-- The length is the datum's. -/
theorem datum_len {t e : TypeId} {fuel : Nat} {A : Option Addr} {n c : Nat} {x : DataW H × List MemPlace} (ht : P.underlying t = some (.slice e)) (h : DataW.trod enc P w base spare held fuel t [.slice A n c] = some x) :
    n = 0 ∨ ∃ elems sp, x.1 = .slice elems sp ∧ elems.length = n := by
  rcases open_slice ht h with ⟨h0, _⟩ | ⟨a, len, cap, m, k, D, Pl, hcs, hb, hl, hm, hmm, hx, hi⟩
  · simp at h0; exact .inl h0.2.1
  · simp at hcs
    obtain ⟨_, rfl, _⟩ := hcs
    exact .inr ⟨_, _, by rw [hx], by simp⟩

/-- A slice that came in. -/
theorem arg_rdl {α : Type} (f : α → List Value) (Ok : α → Prop) {t e : TypeId} {r : Reach} {b0 : Nat} {v : Value} {d : DataW H} {ps : List MemPlace} (ht : P.underlying t = some (.slice e)) (hsz : 0 < P.cellsOf e)
    (hel : ∀ (n : Nat) (cs : List Value) (y : DataW H × List MemPlace), DataW.trod enc P w base spare held n e cs = some y → ∃ a : α, cs = f a ∧ Ok a)
    (hv : Value.okWide P w r b0 t v) (h : DataW.Trod enc P w base spare held t v d ps) :
    ∃ (A : Option Addr) (c : Nat) (l : List α), v = .slice A l.length c ∧ RdL f (P.cellsOf e) w (.slice A l.length c) l ∧ (∀ a ∈ l, Ok a) ∧ (l.length = 0 ∨ ∃ elems sp, d = .slice elems sp ∧ elems.length = l.length) := by
  obtain ⟨A, n, c, rfl⟩ := okWide_slice ht hv
  obtain ⟨fuel, hf⟩ := h
  obtain ⟨s, l, h1, h2, h3⟩ := open_rdl f Ok ht hsz hel hf
  have hs := cells_slice h1
  subst hs
  obtain ⟨A', c', e1, k1, k2, k3⟩ := h2
  have e1' := e1
  injection e1 with e2 e3 e4
  subst e2 e3 e4
  exact ⟨_, _, l, rfl, ⟨_, _, rfl, k1, k2, k3⟩, h3, datum_len ht (by rw [h1] at hf; exact hf)⟩
/-- How long it can be at most. -/
theorem arg_room {ts : List TypeId} {ds : List (DataW H)} (h : (DataW.weightsEach P ts ds).all (· ≤ reachBytes) = true) {j : Nat} {t e : TypeId} {d : DataW H} {n b : Nat} (ht : ts[j]? = some t) (hd : ds[j]? = some d) (hu : P.underlying t = some (.slice e)) (hb : P.bytesOf e = b)
    (hn : n = 0 ∨ ∃ elems sp, d = .slice elems sp ∧ elems.length = n) : n * b ≤ 140737488351232 := by
  rcases hn with rfl | ⟨elems, sp, rfl, rfl⟩
  · simp
  · have h1 := sized_slice h ht hd hu
    rw [hb] at h1
    have h2 : reachBytes = 140737488351232 := by decide
    rw [h2, Nat.add_mul] at h1
    exact Nat.le_trans (Nat.le_add_right _ _) h1
end
end Go.Proofs.YteepjngkbjbheaaDoor
