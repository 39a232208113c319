/-
  strings.Builder as a text's holder; strings.Join of any row.
-/
import Derived.Test.YteepjngkbjbheaaDoorTraceT5
import Derived.Test.YteepjngkbjbheaaDoorTraceB
import Derived.Test.YteepjngkbjbheaaDoorTraceW6
import Derived.Test.YteepjngkbjbheaaDoorOwn
namespace Go.Proofs.YteepjngkbjbheaaDoor
open Go.RowKit
set_option linter.unusedVariables false
set_option linter.unusedSimpArgs false

/-- A builder that holds a text. -/
abbrev Bld (b : Nat) (D : List UInt8) (w : World) : Prop := Lib.IsBuilder 59 5 b b (Lib.byteCells D) w
theorem bcl (D : List UInt8) : (Lib.byteCells D).length = D.length := by simp [Lib.byteCells]
theorem bca (D : List UInt8) (s : ByteArray) : Lib.byteCells D ++ Lib.strCells s = Lib.byteCells (D ++ s.data.toList) := by simp [Lib.byteCells, Lib.strCells]
theorem Bld.fresh (w : World) : Bld w.heap.size [] (w.alloc (.cells #[.pointer none, .slice none 0 0] 59)) :=
  .inl ⟨Nat.le_refl _, .slice none 0 0, heap_alloc_new _ _, World.ownsRow_nil _ _ _ _, by simp [Value.ownBlock]⟩
theorem Bld.keep {b : Nat} {D : List UInt8} {w w' : World} (h : Bld b D w) (hk : ∀ k, b ≤ k → k < w.heap.size → w'.heap[k]? = w.heap[k]?) : Bld b D w' := by
  have key : ∀ p, Lib.BuilderAt 59 5 b b p (Lib.byteCells D) w → Lib.BuilderAt 59 5 b b p (Lib.byteCells D) w' := by
    rintro p ⟨h1, v, h2, h3, h4⟩
    refine ⟨h1, v, (hk b (Nat.le_refl _) (Array.getElem?_eq_some_iff.1 h2).1).trans h2, ⟨h3.1, ?_⟩, h4⟩
    rcases h3.2 with h5 | ⟨g, cap, cur, h5, h6, h7, h8⟩
    · exact .inl h5
    · exact .inr ⟨g, cap, cur, h5, h6, (hk g h6 (Array.getElem?_eq_some_iff.1 h7).1).trans h7, h8⟩
  rcases h with h | h
  · exact .inl (key _ h)
  · exact .inr (key _ h)
theorem Bld.next {b : Nat} {D : List UInt8} {w w' : World} (h : Bld b D w) (hb : Below w.heap.size w w') : Bld b D w' := h.keep fun k _ hk => hb.block k hk
/-- Blocks of other types than the builder's own. -/
def KeptE (b : Nat) (w w' : World) : Prop := ∀ (k : Nat) (c : Array Value) (T : TypeId), k ≠ b → T ≠ 5 → w.heap[k]? = some (.cells c T (0, 0)) → w'.heap[k]? = some (.cells c T (0, 0))
theorem wstr_any (b : Nat) (D : List UInt8) (s : ByteArray) (w : World) (h : Bld b D w) (hlen : D.length + s.size ≤ 140737488355328) (hBw : b ≤ w.heap.size) :
    Calls Tryd.prog 34 #[.pointer (some ⟨b, 0, none⟩), .string s] w fun e w' => e = .returned (.tuple #[.int .i64 s.size, .nilIface]) ∧ Bld b (D ++ s.data.toList) w' ∧ Below b w w' ∧ KeptE b w w' ∧ w.heap.size ≤ w'.heap.size := by
  refine (writeString_any b b _ s w h (by rw [bcl]; exact hlen) hBw).mono ?_
  rintro e w' ⟨rfl, ⟨h1, h2⟩, h3, h4⟩
  refine ⟨rfl, .inr (by rw [← bca]; exact h1), h2, fun k c T hk hT hc => ?_, h3⟩
  have hlt := (Array.getElem?_eq_some_iff.1 hc).1
  rw [h4 k hlt hk fun v hv hown => ?_]
  · exact hc
  have key : ∀ p, Lib.BuilderAt 59 5 b b p (Lib.byteCells D) w → False := by
    rintro p ⟨_, u, g1, g2, _⟩
    have g3 : w.cell? ⟨b, 1, none⟩ = some u := by rw [Lib.cell_of_heap g1]; rfl
    rw [g3] at hv
    injection hv with hv
    subst hv
    rcases g2.2 with ⟨g5, _⟩ | ⟨g, cap, cur, g5, _, g7, _⟩
    · rw [g5] at hown; simp [Value.ownBlock] at hown
    · rw [g5] at hown
      simp [Value.ownBlock] at hown
      subst hown
      rw [g7] at hc
      injection hc with hc
      injection hc with hc1 hc2 hc3
      exact hT hc2.symm
  rcases h with h | h
  · exact key _ h
  · exact key _ h
theorem bstr_any (b : Nat) (D : List UInt8) (w : World) (h : Bld b D w) (hBw : b ≤ w.heap.size) :
    Calls Tryd.prog 36 #[.pointer (some ⟨b, 0, none⟩)] w fun e w' => e = .returned (.string ⟨D.toArray⟩) ∧ Below b w w' := Tryd.Builder_String_any b b D w h hBw

theorem strC_len (s : ByteArray) : (strC s).length = 1 := rfl
theorem join_any (s : Value) (xs : List (List UInt8)) (w : World) (h : RdL strC 1 w s (xs.map fun l => ⟨l.toArray⟩)) (hl : (commas xs).length ≤ 140737488355328) (hx : xs.length ≤ 140737488355328) :
    Calls Tryd.prog 35 #[s, .string ⟨#[44, 32]⟩] w fun e w' => e = .returned (.string ⟨(commas xs).toArray⟩) ∧ Below w.heap.size w w' := by
  by_cases h0 : xs = []
  · subst h0
    obtain ⟨A, c, rfl, _⟩ := h.empty rfl
    exact (Tryd.strings_Join_none A c _ w).mono fun e w' ⟨h1, h2⟩ => ⟨h1, by rw [h2]; exact Below.refl _ _⟩
  · have hn : 0 < (xs.map fun l => (⟨l.toArray⟩ : ByteArray)).length := by
      cases xs with
      | nil => exact absurd rfl h0
      | cons a l => simp
    obtain ⟨b, off, c, rfl, hc1, hc2, hb, hc⟩ := h.some_ hn
    have e : (xs.map fun l => (⟨l.toArray⟩ : ByteArray)).map (·.data.toList) = xs := by
      rw [List.map_map]
      conv => rhs; rw [← List.map_id xs]
      exact List.map_congr_left fun a _ => by simp
    have e2 : Lib.join ((xs.map fun l => (⟨l.toArray⟩ : ByteArray)).map (·.data.toList)) (⟨#[44, 32]⟩ : ByteArray).data.toList = commas xs := by rw [e]; exact join_commas xs
    have g := Tryd.strings_Join b off c (xs.map fun l => ⟨l.toArray⟩) ⟨#[44, 32]⟩ w (fun j y hy => by have := hc j y hy 0 _ rfl; rw [Nat.mul_one, Nat.add_zero] at this; exact this) hb (by simpa using hx) hc1 (by rw [e2]; exact hl)
    rw [e2] at g
    exact g
end Go.Proofs.YteepjngkbjbheaaDoor
