/-
  How the reference's memory (layer 2) lies in the heap, and what it holds, in plain words.
-/
import Derived.Test.YtddipbpllogbaaaMemW1
import Derived.WalkKit
namespace Go.Proofs.Ytddipbpllogbaaa
open Go.RowKit
set_option linter.unusedVariables false
set_option linter.unusedSimpArgs false

/-- A cell of the reference's. -/
structure PC where
  k : Int
  b : Int
  p : V
  i : Int
def pVal (c : PC) : Value := .agg #[.int .i64 c.k, .int .u8 c.b, .int .i64 c.p.k, .int .u64 c.p.b, .int .i64 c.p.l, .int .i64 c.i]
def pRl : List Value → Option (DataW Unit × List MemPlace)
  | [.int .i64 k, .int .u8 b, .int .i64 pk, .int .u64 pb, .int .i64 pl, .int .i64 i] => some (.agg [.lit (.int .i64 k), .lit (.int .u8 b), .lit (.int .i64 pk), .lit (.int .u64 pb), .lit (.int .i64 pl), .lit (.int .i64 i)], [])
  | _ => none
def pR : Value → Option (DataW Unit × List MemPlace)
  | .agg cs => pRl cs.toList
  | _ => none
def pD (c : PC) : DataW Unit := .agg [.lit (.int .i64 c.k), .lit (.int .u8 c.b), .lit (.int .i64 c.p.k), .lit (.int .u64 c.p.b), .lit (.int .i64 c.p.l), .lit (.int .i64 c.i)]
theorem pR_inv {v : Value} {c : PC} {ps : List MemPlace} (h : pR v = some (pD c, ps)) : v = pVal c := by
  unfold pR at h
  split at h
  · rename_i cs
    unfold pRl at h
    split at h
    · rename_i k b pk pb pl i heq
      simp [pD] at h
      obtain ⟨⟨h1, h2, h3, h4, h5, h6⟩, _⟩ := h
      have : cs = #[.int .i64 k, .int .u8 b, .int .i64 pk, .int .u64 pb, .int .i64 pl, .int .i64 i] := by cases cs; simp at heq; simp [heq]
      rw [this, h1, h2, h3, h4, h5, h6]
      rfl
    · cases h
  · cases h
def pZ : PC := ⟨0, 0, ⟨0, 0, 0⟩, 0⟩
theorem pE : Elem pR pVal pD (.agg #[.int .i64 0, .int .u8 0, .int .i64 0, .int .u64 0, .int .i64 0, .int .i64 0]) where
  rd c := rfl
  inv v c ps h := pR_inv h
  zero := ⟨pD pZ, rfl, fun v ps h => pR_inv (c := pZ) h⟩

/-- A block of the reference's memory: where its rows and its map lie; what they hold. -/
structure RB where
  g : Nat
  b : Nat
  p : Nat
  np : Nat
  kinds : List Int
  bytes : List Int
  pcs : Int → Option PC
  live : Bool
  fixed : Bool
def RB.cells (B : RB) : List Value :=
  if B.live then [.slice (some ⟨B.g, 0, none⟩) B.kinds.length B.kinds.length, .slice (some ⟨B.b, 0, none⟩) B.kinds.length B.kinds.length, .map (some B.p), .bool true, .bool B.fixed]
  else [.slice none 0 0, .slice none 0 0, .map none, .bool false, .bool B.fixed]
theorem RB.cells_len (B : RB) : B.cells.length = 5 := by unfold RB.cells; split <;> rfl

theorem flat_len (R : List RB) : (R.flatMap RB.cells).length = R.length * 5 := by
  induction R with
  | nil => rfl
  | cons B R ih => rw [List.flatMap_cons, List.length_append, ih, RB.cells_len, List.length_cons]; omega
theorem flat_at : ∀ (R : List RB) (j : Nat) (B : RB), R[j]? = some B → ∀ i, i < 5 → (R.flatMap RB.cells)[j * 5 + i]? = B.cells[i]?
  | [], j, B, h, i, hi => by simp at h
  | C :: R, 0, B, h, i, hi => by
    simp at h
    subst h
    rw [List.flatMap_cons, List.getElem?_append_left (by rw [RB.cells_len]; omega)]
    congr 1
    omega
  | C :: R, j + 1, B, h, i, hi => by
    simp at h
    rw [List.flatMap_cons, List.getElem?_append_right (by rw [RB.cells_len]; omega), RB.cells_len, ← flat_at R j B h i hi]
    congr 1
    omega
theorem flat_set : ∀ (R : List RB) (j : Nat) (B B' : RB), R[j]? = some B → ∀ i (u : Value), i < 5 → B'.cells = B.cells.set i u → (R.set j B').flatMap RB.cells = (R.flatMap RB.cells).set (j * 5 + i) u
  | [], j, B, B', h, i, u, hi, e => by simp at h
  | C :: R, 0, B, B', h, i, u, hi, e => by
    simp at h
    subst h
    rw [List.set_cons_zero, List.flatMap_cons, List.flatMap_cons, e, List.set_append_left _ _ (by rw [RB.cells_len]; omega)]
    congr 2
    omega
  | C :: R, j + 1, B, B', h, i, u, hi, e => by
    simp at h
    rw [List.set_cons_succ, List.flatMap_cons, List.flatMap_cons, List.set_append_right _ _ (by rw [RB.cells_len]; omega), RB.cells_len, flat_set R j B B' h i u hi e]
    congr 2
    omega

structure RBAt (w : World) (B : RB) : Prop where
  kinds : w.heap[B.g]? = some (.cells (B.kinds.map (Value.int .u8)).toArray 5 (0, 0))
  bytes : w.heap[B.b]? = some (.cells (B.bytes.map (Value.int .u8)).toArray 5 (0, 0))
  pcs : MapF Try.prog 3 pR pD w B.p B.np B.pcs

/-- The reference's memory at block rm: s: its slice of blocks. -/
structure RefS (w : World) (base rm : Nat) (s : Value) (cap : Nat) (R : List RB) : Prop where
  top : w.heap[rm]? = some (.cells #[s] 29 (0, 0))
  row : w.ownsRow base 67 5 s R.length (R.flatMap RB.cells)
  lo : base ≤ rm
  len : R.length ≤ cap ∧ cap < 288230376151711744
  keys : ∀ (j : Nat) B, R[j]? = some B → B.live = true → base ≤ B.g ∧ base ≤ B.b ∧ base ≤ B.p ∧ B.g ≠ B.b ∧ B.bytes.length = B.kinds.length ∧ B.kinds.length ≤ 16777216 ∧ B.np ≤ 16 * cap ∧ (∀ x ∈ B.kinds, 0 ≤ x ∧ x < 3) ∧ ∀ x ∈ B.bytes, 0 ≤ x ∧ x < 256
  at_ : ∀ (j : Nat) B, R[j]? = some B → B.live = true → RBAt w B
  apart : ∀ (i j : Nat) B C, R[i]? = some B → R[j]? = some C → B.live = true → C.live = true → i ≠ j → B.g ≠ C.g ∧ B.g ≠ C.b ∧ B.b ≠ C.b ∧ B.p ≠ C.p

/-- The blocks that are the reference's own. -/
def OwnR (rm : Nat) (s : Value) (R : List RB) (i : Nat) : Prop := i = rm ∨ s.ownBlock = some i ∨ ∃ (j : Nat) (B : RB), R[j]? = some B ∧ B.live = true ∧ (i = B.g ∨ i = B.b ∨ i = B.p)
/-- The blocks that are the program's own. -/
def OwnM (pm bm : Nat) (M : Int → Option Bk) (i : Nat) : Prop := i = pm ∨ i = bm ∨ ∃ k B, M k = some B ∧ (i = B.b ∨ i = B.g ∨ i = B.pb)

section
variable {w w' : World} {base rm cap : Nat} {s : Value} {R : List RB}
theorem RBAt.block {B : RB} (h : RBAt w B) (hb : ∀ i, i = B.g ∨ i = B.b ∨ i = B.p → w'.heap[i]? = w.heap[i]?) : RBAt w' B :=
  ⟨(hb _ (.inl rfl)).trans h.kinds, (hb _ (.inr (.inl rfl))).trans h.bytes, h.pcs.block (hb _ (.inr (.inr rfl)))⟩
theorem RBAt.lt {B : RB} (h : RBAt w B) : B.g < w.heap.size ∧ B.b < w.heap.size ∧ B.p < w.heap.size := ⟨lt_of_block h.kinds, lt_of_block h.bytes, h.pcs.lt⟩
theorem row_keep {e : TypeId} {size n : Nat} {v : Value} {xs : List Value} (h : w.ownsRow base e size v n xs) (hk : ∀ i, v.ownBlock = some i → w'.heap[i]? = w.heap[i]?) : w'.ownsRow base e size v n xs := by
  obtain ⟨h1, h2⟩ := h
  refine ⟨h1, ?_⟩
  rcases h2 with h2 | ⟨g, cap, cur, e1, e2, e3, e4⟩
  · exact .inl h2
  · exact .inr ⟨g, cap, cur, e1, e2, (hk g (by rw [e1]; rfl)).trans e3, e4⟩
theorem RefS.lt (h : RefS w base rm s cap R) {i : Nat} (hi : OwnR rm s R i) : i < w.heap.size := by
  rcases hi with rfl | hi | ⟨j, B, hj, hl, hi⟩
  · exact lt_of_block h.top
  · exact (h.row.lt i hi).2
  · have := (h.at_ j B hj hl).lt
    rcases hi with rfl | rfl | rfl
    · exact this.1
    · exact this.2.1
    · exact this.2.2
theorem RefS.keep (h : RefS w base rm s cap R) (hk : ∀ i, OwnR rm s R i → w'.heap[i]? = w.heap[i]?) : RefS w' base rm s cap R where
  top := (hk rm (.inl rfl)).trans h.top
  row := row_keep h.row fun i hi => hk i (.inr (.inl hi))
  lo := h.lo
  len := h.len
  keys := h.keys
  at_ j B hj hl := (h.at_ j B hj hl).block fun i hi => hk i (.inr (.inr ⟨j, B, hj, hl, hi⟩))
  apart := h.apart
theorem RefS.next (h : RefS w base rm s cap R) (hb : Below w.heap.size w w') : RefS w' base rm s cap R := h.keep fun i hi => hb.block i (h.lt hi)
theorem RefS.more {c : Nat} (h : RefS w base rm s cap R) (h1 : cap ≤ c) (h2 : c < 288230376151711744) : RefS w base rm s c R where
  top := h.top
  row := h.row
  lo := h.lo
  len := ⟨Nat.le_trans h.len.1 h1, h2⟩
  keys j B hj hl := by
    obtain ⟨a1, a2, a3, a4, a5, a6, a7, a8⟩ := h.keys j B hj hl
    exact ⟨a1, a2, a3, a4, a5, a6, by omega, a8⟩
  at_ := h.at_
  apart := h.apart
theorem MemS.keep {pm bm nb last : Nat} {M : Int → Option Bk} (h : MemS w base pm bm nb last cap M) (hk : ∀ i, OwnM pm bm M i → w'.heap[i]? = w.heap[i]?) : MemS w' base pm bm nb last cap M where
  top := (hk pm (.inl rfl)).trans h.top
  blocks := h.blocks.block (hk bm (.inr (.inl rfl)))
  lo := h.lo
  nbc := h.nbc
  keys := h.keys
  at_ k B e := (h.at_ k B e).block fun i hi => hk i (.inr (.inr ⟨k, B, e, hi⟩))
  apart := h.apart
theorem MemS.olt {pm bm nb last : Nat} {M : Int → Option Bk} (h : MemS w base pm bm nb last cap M) {i : Nat} (hi : OwnM pm bm M i) : i < w.heap.size := by
  rcases hi with rfl | rfl | ⟨k, B, hk, hi⟩
  · exact lt_of_block h.top
  · exact h.blocks.lt
  · have := (h.at_ k B hk).lt
    rcases hi with rfl | rfl | rfl
    · exact this.1
    · exact this.2.1
    · exact this.2.2

/-- A block's record, read. -/
theorem RefS.read (h : RefS w base rm s cap R) {j : Nat} {B : RB} (hj : R[j]? = some B) :
    ∃ g c, s = .slice (some ⟨g, 0, none⟩) R.length c ∧ base ≤ g ∧ g < w.heap.size ∧ (∀ i, i < 5 → w.cell? ⟨g, j * 5 + i, none⟩ = B.cells[i]?) ∧ (∀ o, w.frozen? ⟨g, o, none⟩ = false) := by
  have hjl : j < R.length := by
    rcases Nat.lt_or_ge j R.length with h1 | h1
    · exact h1
    · rw [List.getElem?_eq_none h1] at hj; cases hj
  obtain ⟨h1, h2⟩ := h.row
  rcases h2 with ⟨_, h2⟩ | ⟨g, c, cur, e1, e2, e3, e4, e5, e6, e7⟩
  · omega
  · refine ⟨g, c, e1, e2, lt_of_block e3, fun i hi => ?_, fun o => Lib.frozen_of_heap e3 o⟩
    rw [Lib.cell_of_heap e3, ← flat_at R j B hj i hi, ← e7, List.getElem?_take, if_pos (by omega)]
    simp
end

/-- The live block of a number. -/
def blkA (R : List RB) (l : Int) : Option RB := if 1 ≤ l then (match R[(l - 1).toNat]? with | some B => if B.live then some B else none | none => none) else none
theorem blkA_some {R : List RB} {l : Int} {B : RB} (h : blkA R l = some B) : ∃ j : Nat, l = (j : Int) + 1 ∧ R[j]? = some B ∧ B.live = true ∧ j < R.length := by
  unfold blkA at h
  split at h
  · split at h
    · rename_i C hC
      split at h
      · injection h with h
        subst h
        refine ⟨(l - 1).toNat, by omega, hC, by assumption, ?_⟩
        rcases Nat.lt_or_ge (l - 1).toNat R.length with h1 | h1
        · exact h1
        · rw [List.getElem?_eq_none h1] at hC; cases hC
      · cases h
    · cases h
  · cases h

end Go.Proofs.Ytddipbpllogbaaa
