/-
  MemoryPlays: both memories in one heap; what a call on one of them leaves of the other.
-/
import Derived.Test.YtddipbpllogbaaaPlaysRel2
import Derived.Test.YtddipbpllogbaaaRefW2
import Derived.Test.YtddipbpllogbaaaMemW5
namespace Go.Proofs.Ytddipbpllogbaaa
open Go.RowKit
set_option linter.unusedVariables false
set_option linter.unusedSimpArgs false

/-- Both memories, apart. -/
structure Two (w : World) (base pm bm nb last cap : Nat) (M : Int → Option Bk) (rm : Nat) (s : Value) (capR : Nat) (R : List RB) : Prop where
  mem : MemS w base pm bm nb last cap M
  ref : RefS w base rm s capR R
  apart : ∀ i, OwnM pm bm M i → ¬ OwnR rm s R i
/-- A block that is neither's. -/
def Free (w : World) (pm bm : Nat) (M : Int → Option Bk) (rm : Nat) (s : Value) (R : List RB) (i : Nat) : Prop := i < w.heap.size ∧ ¬ OwnM pm bm M i ∧ ¬ OwnR rm s R i
section
variable {w w' : World} {base pm bm nb last cap nb' last' cap' rm capR capR' : Nat} {M M' : Int → Option Bk} {s s' : Value} {R R' : List RB}
theorem Two.next (h : Two w base pm bm nb last cap M rm s capR R) (hb : Below w.heap.size w w') : Two w' base pm bm nb last cap M rm s capR R := ⟨h.mem.next hb, h.ref.next hb, h.apart⟩
theorem Free.next {i : Nat} (h : Free w pm bm M rm s R i) (hb : Below w.heap.size w w') : Free w' pm bm M rm s R i := ⟨Nat.lt_of_lt_of_le h.1 hb.size, h.2⟩
/-- New blocks are neither's. -/
theorem Two.fresh (h : Two w base pm bm nb last cap M rm s capR R) (hb : Below w.heap.size w w') {i : Nat} (h1 : w.heap.size ≤ i) (h2 : i < w'.heap.size) : Free w' pm bm M rm s R i :=
  ⟨h2, fun g => by have := h.mem.olt g; omega, fun g => by have := h.ref.lt g; omega⟩
/-- A call on the program's. -/
theorem Two.prog (h : Two w base pm bm nb last cap M rm s capR R) (hl : Left w w' base pm bm nb' last' cap' M') (ho : ∀ i, OwnM pm bm M' i → OwnM pm bm M i ∨ w.heap.size ≤ i) :
    Two w' base pm bm nb' last' cap' M' rm s capR R ∧ ∀ i, Free w pm bm M rm s R i → w'.heap[i]? = w.heap[i]? ∧ Free w' pm bm M' rm s R i := by
  have hfoot : ∀ i, i < w.heap.size → ¬ OwnM pm bm M i → w'.heap[i]? = w.heap[i]? := fun i hi hn => by
    have hn' : ¬ OwnM pm bm M' i := fun g => by
      rcases ho i g with g | g
      · exact hn g
      · omega
    exact hl.foot i hi (fun e => hn (.inl e)) (fun e => hn (.inr (.inl e))) (fun k B hk => ⟨fun e => hn' (.inr (.inr ⟨k, B, hk, .inl e⟩)), fun e => hn' (.inr (.inr ⟨k, B, hk, .inr (.inl e)⟩)), fun e => hn' (.inr (.inr ⟨k, B, hk, .inr (.inr e)⟩))⟩)
  refine ⟨⟨hl.mem, h.ref.keep fun i hi => hfoot i (h.ref.lt hi) (fun g => h.apart i g hi), fun i hi hr => ?_⟩, fun i hi => ⟨hfoot i hi.1 hi.2.1, Nat.lt_of_lt_of_le hi.1 hl.low.size, fun g => ?_, hi.2.2⟩⟩
  · rcases ho i hi with g | g
    · exact h.apart i g hr
    · have := h.ref.lt hr; omega
  · rcases ho i g with g | g
    · exact hi.2.1 g
    · have := hi.1; omega
/-- A call on the reference's. -/
theorem Two.refer (h : Two w base pm bm nb last cap M rm s capR R) (hl : RefLeft w w' base rm s R capR' s' R') :
    Two w' base pm bm nb last cap M rm s' capR' R' ∧ ∀ i, Free w pm bm M rm s R i → w'.heap[i]? = w.heap[i]? ∧ Free w' pm bm M rm s' R' i := by
  refine ⟨⟨h.mem.keep fun i hi => hl.foot i (h.mem.olt hi) (h.apart i hi), hl.mem, fun i hi hr => ?_⟩, fun i hi => ⟨hl.foot i hi.1 hi.2.2, Nat.lt_of_lt_of_le hi.1 hl.low.size, hi.2.1, fun g => ?_⟩⟩
  · rcases hl.own i hr with g | g
    · exact h.apart i hi g
    · have := h.mem.olt hi; omega
  · rcases hl.own i g with g | g
    · exact hi.2.2 g
    · have := hi.1; omega
end
/-- What the program's memory owns behind a call: as before, or new. -/
theorem own_of {w : World} {pm bm : Nat} {M M' : Int → Option Bk} (h : ∀ k B', M' k = some B' → (∃ B, M k = some B ∧ B'.b = B.b ∧ B'.g = B.g ∧ B'.pb = B.pb) ∨ (w.heap.size ≤ B'.b ∧ w.heap.size ≤ B'.g ∧ w.heap.size ≤ B'.pb)) : ∀ i, OwnM pm bm M' i → OwnM pm bm M i ∨ w.heap.size ≤ i := fun i hi => by
  rcases hi with hi | hi | ⟨k, B', hk, hi⟩
  · exact .inl (.inl hi)
  · exact .inl (.inr (.inl hi))
  · rcases h k B' hk with ⟨B, hB, e1, e2, e3⟩ | ⟨e1, e2, e3⟩
    · rw [e1, e2, e3] at hi
      exact .inl (.inr (.inr ⟨k, B, hB, hi⟩))
    · right
      rcases hi with rfl | rfl | rfl <;> assumption
theorem own_free {w : World} {pm bm : Nat} {M : Int → Option Bk} (k : Int) : ∀ i, OwnM pm bm (setK M k none) i → OwnM pm bm M i ∨ w.heap.size ≤ i := own_of fun j B' hj => by
  unfold setK at hj
  split at hj
  · cases hj
  · exact .inl ⟨B', hj, rfl, rfl, rfl⟩
theorem own_fix {w : World} {pm bm : Nat} {M : Int → Option Bk} (k : Int) : ∀ i, OwnM pm bm (match M k with | some B => setK M k (some { B with fixed := true }) | none => M) i → OwnM pm bm M i ∨ w.heap.size ≤ i := own_of fun j B' hj => by
  cases hM : M k with
  | none => rw [hM] at hj; exact .inl ⟨B', hj, rfl, rfl, rfl⟩
  | some B =>
    rw [hM] at hj
    dsimp only at hj
    unfold setK at hj
    split at hj
    · rename_i e
      injection hj with hj
      subst hj e
      exact .inl ⟨B, hM, rfl, rfl, rfl⟩
    · exact .inl ⟨B', hj, rfl, rfl, rfl⟩
theorem own_store {w : World} {pm bm : Nat} {M : Int → Option Bk} (chunk : Int) (a v : V) : ∀ i, OwnM pm bm ((storeA M chunk a v).getD M) i → OwnM pm bm M i ∨ w.heap.size ≤ i := own_of fun j B' hj => by
  unfold storeA at hj
  cases hf : findA M chunk a with
  | none => rw [hf] at hj; exact .inl ⟨B', hj, rfl, rfl, rfl⟩
  | some Bo =>
    obtain ⟨B, off⟩ := Bo
    rw [hf] at hj
    dsimp only at hj
    split at hj
    · simp only [Option.getD_some] at hj
      unfold setK at hj
      split at hj
      · rename_i e
        injection hj with hj
        subst hj e
        have hM := (findA_some hf).2.1
        refine .inl ⟨B, hM, ?_, ?_, ?_⟩ <;> (unfold putB; split <;> rfl)
      · exact .inl ⟨B', hj, rfl, rfl, rfl⟩
    · exact .inl ⟨B', hj, rfl, rfl, rfl⟩
theorem own_alloc {w : World} {pm bm : Nat} {M : Int → Option Bk} (k : Int) (n : Nat) : ∀ i, OwnM pm bm (setK M k (some ⟨w.heap.size + 2, w.heap.size, w.heap.size + 1, 0, List.replicate n 256, fun _ => none, false⟩)) i → OwnM pm bm M i ∨ w.heap.size ≤ i := own_of fun j B' hj => by
  unfold setK at hj
  split at hj
  · injection hj with hj
    subst hj
    exact .inr ⟨by show w.heap.size ≤ w.heap.size + 2; omega, Nat.le_refl _, by show w.heap.size ≤ w.heap.size + 1; omega⟩
  · exact .inl ⟨B', hj, rfl, rfl, rfl⟩

end Go.Proofs.Ytddipbpllogbaaa
