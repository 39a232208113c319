/-
  How the program's memory (layer 2) lies in the heap, and what it computes, in plain words.
-/
import Derived.Test.YtddipbpllogbaaaMapF
import Derived.Test.YtddipbpllogbaaaMachDefs
import Derived.Test.YtddipbpllogbaaaProg
namespace Go.Proofs.Ytddipbpllogbaaa
open Go.RowKit
set_option linter.unusedVariables false
set_option linter.unusedSimpArgs false

def sizeV (c : Int) : Int := if c = 1 ∨ c = 2 then 1 else if c = 3 ∨ c = 4 then 2 else if c = 5 then 4 else if c = 6 ∨ c = 7 then 8 else 0
def kindV (c : Int) : Int := if 1 ≤ c ∧ c ≤ 5 then 1 else if c = 6 then 2 else if c = 7 then 3 else 0
theorem sizeV_cases (c : Int) : sizeV c = 0 ∨ sizeV c = 1 ∨ sizeV c = 2 ∨ sizeV c = 4 ∨ sizeV c = 8 := by unfold sizeV; grind

/-- A value in a map. -/
def vVal (v : V) : Value := .agg #[.int .i64 v.k, .int .u64 v.b, .int .i64 v.l]
def vRl : List Value → Option (DataW Unit × List MemPlace)
  | [.int .i64 k, .int .u64 b, .int .i64 l] => some (.agg [.lit (.int .i64 k), .lit (.int .u64 b), .lit (.int .i64 l)], [])
  | _ => none
def vR : Value → Option (DataW Unit × List MemPlace)
  | .agg cs => vRl cs.toList
  | _ => none
def vD (v : V) : DataW Unit := .agg [.lit (.int .i64 v.k), .lit (.int .u64 v.b), .lit (.int .i64 v.l)]
theorem vR_inv {v : Value} {a b c : DataW Unit} {ps : List MemPlace} (h : vR v = some (.agg [a, b, c], ps)) : ∃ k b' l : Int, v = .agg #[.int .i64 k, .int .u64 b', .int .i64 l] ∧ a = .lit (.int .i64 k) ∧ b = .lit (.int .u64 b') ∧ c = .lit (.int .i64 l) := by
  unfold vR at h
  split at h
  · rename_i cs
    unfold vRl at h
    split at h
    · rename_i k b l heq
      simp at h
      obtain ⟨⟨h1, h2, h3⟩, _⟩ := h
      refine ⟨k, b, l, ?_, h1.symm, h2.symm, h3.symm⟩
      have : cs = #[.int .i64 k, .int .u64 b, .int .i64 l] := by cases cs; simp at heq; simp [heq]
      rw [this]
    · cases h
  · cases h
theorem vE : Elem vR vVal vD (.agg #[.int .i64 0, .int .u64 0, .int .i64 0]) where
  rd a := rfl
  inv v a ps h := by
    obtain ⟨k, b, l, rfl, h1, h2, h3⟩ := vR_inv h
    simp at h1 h2 h3
    simp [vVal, h1, h2, h3]
  zero := ⟨.agg [.lit (.int .i64 0), .lit (.int .u64 0), .lit (.int .i64 0)], rfl, fun v ps h => by
    obtain ⟨k, b, l, rfl, h1, h2, h3⟩ := vR_inv h
    simp at h1 h2 h3
    subst h1 h2 h3
    rfl⟩

/-- A block of the program's memory: where its record lies, its cells, its pointers' map; what they hold. -/
structure Bk where
  b : Nat
  g : Nat
  pb : Nat
  np : Nat
  cells : List Int
  ptr : Int → Option V
  fixed : Bool

structure BkAt (w : World) (B : Bk) : Prop where
  own : w.heap[B.b]? = some (.cells #[.slice (some ⟨B.g, 0, none⟩) B.cells.length B.cells.length, .map (some B.pb), .bool B.fixed] 63 (0, 0))
  row : w.heap[B.g]? = some (.cells (B.cells.map (Value.int .u16)).toArray 64 (0, 0))
  ptrs : MapF Try.prog 3 vR vD w B.pb B.np B.ptr

/-- The memory at block pm: last: the last number given; M: the blocks that are there. -/
structure MemS (w : World) (base pm bm nb : Nat) (last : Nat) (cap : Nat) (M : Int → Option Bk) : Prop where
  top : w.heap[pm]? = some (.cells #[.map (some bm), .int .i64 last] 58 (0, 0))
  blocks : MapF Try.prog 3 ptrR ptrD w bm nb (fun k => (M k).map (·.b))
  lo : base ≤ pm ∧ base ≤ bm
  nbc : nb ≤ cap ∧ last ≤ cap ∧ cap < 9223372036854775807
  keys : ∀ k B, M k = some B → 1 ≤ k ∧ k ≤ last ∧ base ≤ B.b ∧ base ≤ B.g ∧ base ≤ B.pb ∧ B.pb ≠ bm ∧ B.cells.length ≤ 16777216 ∧ B.np ≤ cap ∧ ∀ x ∈ B.cells, 0 ≤ x ∧ x < 65536
  at_ : ∀ k B, M k = some B → BkAt w B
  apart : ∀ k j B C, M k = some B → M j = some C → k ≠ j → B.b ≠ C.b ∧ B.g ≠ C.g ∧ B.pb ≠ C.pb

/-- What is not of the memory's own kinds stays. -/
def KeptT (w w' : World) : Prop :=
  w.heap.size ≤ w'.heap.size ∧ ∀ (i : Nat) (c : Array Value) (t : TypeId) (fr : Nat × Nat), w.heap[i]? = some (Obj.cells c t fr) → t ≠ 58 → t ≠ 63 → t ≠ 64 → w'.heap[i]? = w.heap[i]?
theorem KeptT.refl (w : World) : KeptT w w := ⟨Nat.le_refl _, fun _ _ _ _ _ _ _ _ => rfl⟩
theorem KeptT.trans {a b c : World} (h : KeptT a b) (k : KeptT b c) : KeptT a c :=
  ⟨Nat.le_trans h.1 k.1, fun i c' t fr hi h1 h2 h3 => by
    have e := h.2 i c' t fr hi h1 h2 h3
    rw [k.2 i c' t fr (by rw [e]; exact hi) h1 h2 h3, e]⟩
theorem lt_of_block {w : World} {i : Nat} {o : Obj} (h : w.heap[i]? = some o) : i < w.heap.size := by
  rcases Nat.lt_or_ge i w.heap.size with h1 | h1
  · exact h1
  · rw [Array.getElem?_eq_none h1] at h; cases h
theorem KeptT.of_below {w w' : World} (h : Below w.heap.size w w') : KeptT w w' := ⟨h.size, fun i c t fr hi _ _ _ => h.block i (lt_of_block hi)⟩
theorem KeptT.cells {w w' : World} (h : KeptT w w') {i : Nat} {c : Array Value} {t : TypeId} {fr : Nat × Nat} (hi : w.heap[i]? = some (.cells c t fr)) (h1 : t ≠ 58 ∧ t ≠ 63 ∧ t ≠ 64) : w'.heap[i]? = some (.cells c t fr) :=
  (h.2 i c t fr hi h1.1 h1.2.1 h1.2.2).trans hi

section
variable {w w' : World} {base pm bm nb last cap : Nat} {M : Int → Option Bk}
theorem BkAt.block {B : Bk} (h : BkAt w B) (hb : ∀ i, i = B.b ∨ i = B.g ∨ i = B.pb → w'.heap[i]? = w.heap[i]?) : BkAt w' B :=
  ⟨(hb _ (.inl rfl)).trans h.own, (hb _ (.inr (.inl rfl))).trans h.row, h.ptrs.block (hb _ (.inr (.inr rfl)))⟩
theorem BkAt.lt {B : Bk} (h : BkAt w B) : B.b < w.heap.size ∧ B.g < w.heap.size ∧ B.pb < w.heap.size := ⟨lt_of_block h.own, lt_of_block h.row, h.ptrs.lt⟩
theorem BkAt.next {B : Bk} (h : BkAt w B) (hb : Below w.heap.size w w') : BkAt w' B := h.block fun i hi => hb.block i (by
  have := h.lt
  rcases hi with rfl | rfl | rfl
  · exact this.1
  · exact this.2.1
  · exact this.2.2)
theorem MemS.next (h : MemS w base pm bm nb last cap M) (hb : Below w.heap.size w w') : MemS w' base pm bm nb last cap M where
  top := (hb.block pm (lt_of_block h.top)).trans h.top
  blocks := h.blocks.next hb
  lo := h.lo
  nbc := h.nbc
  keys := h.keys
  at_ k B e := (h.at_ k B e).next hb
  apart := h.apart
theorem MemS.more {c : Nat} (h : MemS w base pm bm nb last cap M) (h1 : cap ≤ c) (h2 : c < 9223372036854775807) : MemS w base pm bm nb last c M where
  top := h.top
  blocks := h.blocks
  lo := h.lo
  nbc := ⟨by have := h.nbc; omega, by have := h.nbc; omega, h2⟩
  keys k B e := by
    obtain ⟨a1, a2, a3, a4, a5, a6, a7, a8, a9⟩ := h.keys k B e
    exact ⟨a1, a2, a3, a4, a5, a6, a7, by omega, a9⟩
  at_ := h.at_
  apart := h.apart
/-- The blocks of a memory are of different kinds. -/
theorem MemS.b_ne_g (h : MemS w base pm bm nb last cap M) {k j : Int} {B C : Bk} (e1 : M k = some B) (e2 : M j = some C) : B.b ≠ C.g := fun e => by
  have h1 := (h.at_ k B e1).own
  rw [e, (h.at_ j C e2).row] at h1
  simp at h1
theorem MemS.b_ne_pm (h : MemS w base pm bm nb last cap M) {k : Int} {B : Bk} (e1 : M k = some B) : B.b ≠ pm := fun e => by
  have h1 := (h.at_ k B e1).own
  rw [e, h.top] at h1
  simp at h1
theorem MemS.g_ne_pm (h : MemS w base pm bm nb last cap M) {k : Int} {B : Bk} (e1 : M k = some B) : B.g ≠ pm := fun e => by
  have h1 := (h.at_ k B e1).row
  rw [e, h.top] at h1
  simp at h1
theorem map_ne {w : World} {i j : Nat} {c : Array Value} {t : TypeId} {fr : Nat × Nat} {es : Array MapEntry} {clock : Nat} (h1 : w.heap[i]? = some (.map es clock)) (h2 : w.heap[j]? = some (.cells c t fr)) : i ≠ j := fun e => by
  rw [e, h2] at h1; simp at h1
end

/-- The block, and the place in it, of a chunk's bytes. -/
def findA (M : Int → Option Bk) (chunk : Int) (at_ : V) : Option (Bk × Nat) :=
  if at_.k ≠ 4 ∨ sizeV chunk = 0 then none
  else match M at_.l with
    | none => none
    | some B => if wrap64 at_.b < 0 ∨ wrap64 at_.b % sizeV chunk ≠ 0 ∨ wrap64 at_.b > (B.cells.length : Int) - sizeV chunk then none else some (B, (wrap64 at_.b).toNat)

end Go.Proofs.Ytddipbpllogbaaa
