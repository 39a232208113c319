/-
  Before: the program's.
-/
import Derived.Test.YtadcjmfednachaaSolW14
namespace Go.Proofs.Ytadcjmfednachaa
open Go.RowKit Go.WideShapes Go.ChangeShapes Go.Deep
set_option linter.unusedVariables false
set_option linter.unusedSimpArgs false

theorem OwnV.keepF {tI tR : TypeId} {base b0 : Nat} {w w' : World} {vs : List Value} {m : List (List Int)} (h : OwnV tI tR base w b0 vs m) (hb : w'.heap[b0]? = w.heap[b0]?)
    (hr : ∀ (i : Nat) (v : Value) (q : Nat), vs[i]? = some v → v.ownBlock = some q → w'.heap[q]? = w.heap[q]?) : OwnV tI tR base w' b0 vs m :=
  ⟨h.low, hb.trans h.blk, h.len, fun i v l h1 h2 => (h.row i v l h1 h2).keep fun q hq => hr i v q h1 hq, h.off, h.apart⟩
theorem OwnV.turnF {tI tR : TypeId} {base b0 : Nat} {w w' : World} {vs : List Value} {m : List (List Int)} (h : OwnV tI tR base w b0 vs m) {i : Nat} {v : Value} {l' : List Int} (hv : vs[i]? = some v) (hg : w.grownBy w' v.ownBlock)
    (hown : OwnL tI intC 1 base w' v l') : OwnV tI tR base w' b0 vs (m.set i l') :=
  h.turn hv (fun b _ hb hne => hg.block b hb fun e => hne e.symm) hown
/-- Two matrices of the call's own: the one that is filled (at base), the one that is ranged over (at lo ..). -/
structure BefS (base lo hi b1 : Nat) (wr : World) (mo mc : List (List Int)) : Prop where
  lohi : base < lo ∧ lo ≤ b1 ∧ b1 < hi ∧ hi ≤ wr.heap.size
  out : ∃ vs, OwnV 3 28 base wr base vs mo ∧ ∀ (i : Nat) (v : Value) (q : Nat), vs[i]? = some v → v.ownBlock = some q → hi ≤ q
  cln : ∃ us, OwnV 3 28 lo wr b1 us mc ∧ ∀ (i : Nat) (v : Value) (q : Nat), us[i]? = some v → v.ownBlock = some q → q < hi
section
variable {base lo hi b1 : Nat} {wr w' : World} {mo mc : List (List Int)}
theorem BefS.next (h : BefS base lo hi b1 wr mo mc) (hb : Below wr.heap.size wr w') : BefS base lo hi b1 w' mo mc := by
  obtain ⟨a, ⟨vs, o1, o2⟩, ⟨us, c1, c2⟩⟩ := h
  have := hb.size
  exact ⟨⟨a.1, a.2.1, a.2.2.1, by omega⟩, ⟨vs, o1.next hb, o2⟩, ⟨us, c1.next hb, c2⟩⟩
/-- A row of the matrix that is ranged over. -/
theorem BefS.row (h : BefS base lo hi b1 wr mo mc) {i : Nat} {l : List Int} (hl : mc[i]? = some l) :
    ∃ A c, wr.cell? ⟨b1, i, none⟩ = some (.slice A l.length c) ∧ OwnL 3 intC 1 lo wr (.slice A l.length c) l ∧ (∀ q, (Value.slice A l.length c).ownBlock = some q → lo ≤ q ∧ q < hi) ∧
      ∀ (w' : World) (l' : List Int), wr.grownBy w' (Value.slice A l.length c).ownBlock → OwnL 3 intC 1 lo w' (.slice A l.length c) l' → BefS base lo hi b1 w' mo (mc.set i l') := by
  obtain ⟨a, ⟨vs, o1, o2⟩, ⟨us, c1, c2⟩⟩ := h
  obtain ⟨A, c, hv, p, _, how⟩ := c1.at_ hl
  refine ⟨A, c, p, how, fun q hq => ⟨(how.lt hq).1, c2 i _ q hv hq⟩, fun w' l' hg ho => ?_⟩
  have hsz := hg.size
  refine ⟨⟨a.1, a.2.1, a.2.2.1, by omega⟩, ⟨vs, o1.keepF (hg.block _ o1.lt fun e => ?_) fun j v q hj hq => hg.block q (o1.rowLt hj hq).2 fun e => ?_, o2⟩, ⟨us, c1.turnF hv hg ho, c2⟩⟩
  · have := how.lt e.symm; omega
  · have := o2 j v q hj hq
    have := c2 i _ q hv e.symm
    omega
/-- The same with what was turned before, in the same block. -/
theorem BefS.at_ (h : BefS base lo hi b1 wr mo mc) {k : Nat} {l : List Int} (hl : mo[k]? = some l) :
    ∃ A c, wr.cell? ⟨base, k, none⟩ = some (.slice A l.length c) ∧ wr.frozen? ⟨base, k, none⟩ = false ∧ OwnL 3 intC 1 base wr (.slice A l.length c) l ∧ (∀ q, (Value.slice A l.length c).ownBlock = some q → hi ≤ q) ∧ base < wr.heap.size ∧
      ∀ (W2 w6 : World) (A' : Option Addr) (n' c' : Nat) (l' : List Int), Below wr.heap.size wr W2 → W2.grownBy w6 (Value.slice A l.length c).ownBlock → OwnL 3 intC 1 base w6 (.slice A' n' c') l' →
        ((Value.slice A' n' c').ownBlock = (Value.slice A l.length c).ownBlock ∨ ∃ z, (Value.slice A' n' c').ownBlock = some z ∧ wr.heap.size ≤ z) →
        BefS base lo hi b1 (w6.setCell ⟨base, k, none⟩ (.slice A' n' c')) (mo.set k l') mc ∧ (∀ q, q < hi → q ≠ base → (w6.setCell ⟨base, k, none⟩ (.slice A' n' c')).heap[q]? = wr.heap[q]?) ∧
        (∃ u, w6.cell? ⟨base, k, none⟩ = some u) ∧ w6.frozen? ⟨base, k, none⟩ = false := by
  obtain ⟨a, ⟨vs, o1, o2⟩, ⟨us, c1, c2⟩⟩ := h
  obtain ⟨A, c, hv, p, f, how⟩ := o1.at_ hl
  have hb0 := o1.lt
  refine ⟨A, c, p, f, how, fun q hq => o2 k _ q hv hq, hb0, fun W2 w6 A' n' c' l' hb2 hg ho hor => ?_⟩
  have hz2 := hb2.size
  have hz6 := hg.size
  have hkeep : ∀ b, b < wr.heap.size → (Value.slice A l.length c).ownBlock ≠ some b → w6.heap[b]? = wr.heap[b]? := fun b hb hne =>
    (hg.block b (by omega) fun e => hne e.symm).trans (hb2.block b hb)
  have hlow : ∀ q, q < hi → w6.heap[q]? = wr.heap[q]? := fun q hq => hkeep q (by omega) fun e => by have := o2 k _ q hv e; omega
  have hset : ∀ q, q ≠ base → (w6.setCell ⟨base, k, none⟩ (.slice A' n' c')).heap[q]? = w6.heap[q]? := by
    intro q hq
    simp only [World.setCell, Array.getElem?_modify]
    rw [if_neg (Ne.symm hq)]
  have hput := OwnV.put o1 hv (fun b _ hb hne => hkeep b hb hne) (by omega) ho (fun q hq => by
    rcases hor with e | ⟨z, e, hz⟩
    · left; rw [← e]; exact hq
    · right; rw [e] at hq; injection hq with hq; omega)
  have hbb := hlow base (by omega)
  refine ⟨⟨⟨a.1, a.2.1, a.2.2.1, by simp only [World.setCell, Array.size_modify]; omega⟩, ⟨_, hput, fun j v q hj hq => ?_⟩, ⟨us, c1.keepF ?_ fun j v q hj hq => ?_, c2⟩⟩, fun q hq hne => (hset q hne).trans (hlow q hq), ⟨_, (World.cell?_of_block (a := ⟨base, k, none⟩) hbb).trans p⟩, ?_⟩
  · rw [List.getElem?_set] at hj
    by_cases e : k = j
    · subst e
      rw [if_pos rfl, if_pos (List.getElem?_eq_some_iff.1 hv).1] at hj
      injection hj with hj
      subst hj
      rcases hor with e | ⟨z, e, hz⟩
      · exact o2 k _ q hv (e ▸ hq)
      · rw [e] at hq; injection hq with hq; omega
    · rw [if_neg e] at hj
      exact o2 j v q hj hq
  · exact (hset b1 (by omega)).trans (hlow b1 (by omega))
  · have h1 := c1.rowLt hj hq
    exact (hset q (by omega)).trans (hlow q (c2 j v q hj hq))
  · have h3 := hbb.trans o1.blk
    exact Lib.frozen_of_heap h3 _
end
/-- What Compact leaves in the whole row. -/
theorem compact_both {base n c : Nat} {A : Option Addr} {l : List Int} {w : World} (h : OwnL 3 intC 1 base w (.slice A n c) l) (hb : base ≤ w.heap.size) :
    Calls Try.prog 33 #[.slice A n c] w fun e w' => e = .returned (.slice A (Lib.compact l).length c) ∧ OwnL 3 intC 1 base w' (.slice A (Lib.compact l).length c) (Lib.compact l) ∧
      (∃ l', OwnL 3 intC 1 base w' (.slice A n c) l') ∧ w.grownBy w' (Value.slice A n c).ownBlock ∧ Below base w w' := by
  obtain ⟨hn, hm, ha⟩ := own_parts h
  subst hn
  rcases Nat.eq_zero_or_pos l.length with h0 | hp
  · rw [h0] at h ⊢
    refine (Try.slices_Compact_int_empty A c w).mono ?_
    rintro e w' ⟨rfl, rfl⟩
    have hl : l = [] := List.eq_nil_of_length_eq_zero h0
    subst hl
    exact ⟨rfl, h, ⟨_, h⟩, grown_refl _ _, Below.refl _ _⟩
  · obtain ⟨g, rfl, hg⟩ := ha hp
    obtain ⟨h1, h2, _, h3⟩ := h.holds
    have hc := compact_le l
    refine (Try.slices_Compact_int g 0 c l w h1 (by unfold maxLen at hm; omega) h3).mono ?_
    rintro e w' ⟨rfl, k, rfl⟩
    obtain ⟨q1, q2⟩ := h.laid (ts := Lib.compact l ++ List.replicate (l.length - (Lib.compact l).length) 0) (by simp; omega) k #[]
    rw [grow_none] at q1 q2
    have q3 := OwnL.cut intC_len q1 (k := (Lib.compact l).length) (by simp)
    rw [List.take_left'  rfl] at q3
    exact ⟨rfl, q3, ⟨_, q1⟩, q2, grownBy_below q2 hb fun k hk => by injection hk with hk; omega⟩
end Go.Proofs.Ytadcjmfednachaa
