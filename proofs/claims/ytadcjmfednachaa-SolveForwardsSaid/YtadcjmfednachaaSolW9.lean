/-
  The reference's walk: two own rows that are handed on.
-/
import Derived.Test.YtadcjmfednachaaSolW8
namespace Go.Proofs.Ytadcjmfednachaa
open Go.RowKit
set_option linter.unusedVariables false
set_option linter.unusedSimpArgs false

/-! plain -/
theorem foldW_snoc (G : List (List Int)) (n : Nat) (ks : List Int) (k : Int) (st : List Int × List Int) : Sol.foldW G n (ks ++ [k]) st = if k ∈ (Sol.foldW G n ks st).1 then Sol.foldW G n ks st else Sol.walkF G n k (Sol.foldW G n ks st) := by
  unfold Sol.foldW; rw [List.foldl_append]; rfl
theorem walk_len (G : List (List Int)) : ∀ (n : Nat) (i : Int) (st : List Int × List Int), (Sol.walkF G n i st).2.length + st.1.length = st.2.length + (Sol.walkF G n i st).1.length
  | 0, i, st => rfl
  | n + 1, i, st => by
    rw [Sol.walkF_succ]
    have key : ∀ (ks : List Int) (s : List Int × List Int), (Sol.foldW G n ks s).2.length + s.1.length = s.2.length + (Sol.foldW G n ks s).1.length := by
      intro ks
      induction ks with
      | nil => intro s; rfl
      | cons k ks ih =>
        intro s
        rw [Sol.foldW_cons]
        split
        · exact ih s
        · have h1 := ih (Sol.walkF G n k s)
          have h2 := walk_len G n k s
          omega
    have := key (Sol.rowI G i) (st.1 ++ [i], st.2)
    simp only [List.length_append, List.length_cons, List.length_nil] at this ⊢
    omega
theorem marks_of (n : Nat) (sl : List Int) : Sol.Marks n ((List.range n).map fun (k : Nat) => decide ((k : Int) ∈ sl)) sl := by
  refine ⟨by simp, fun k hk => ?_⟩
  unfold Sol.InR at hk
  rw [List.getD_eq_getElem?_getD, List.getElem?_map, List.getElem?_range (by omega)]
  simp only [Option.map_some, Option.getD_some, decide_eq_true_eq]
  rw [show ((k.toNat : Nat) : Int) = k by omega]
theorem walk_seen {G : List (List Int)} (hG : Sol.Cln G) (n : Nat) (i : Int) (sl left : List Int) (hs : Sol.Seen G sl) (hi : Sol.InR G.length i) (hn : i ∉ sl) (hl : G.length ≤ sl.length + n) :
    Sol.Seen G (Sol.walkF G n i (sl, left)).1 ∧ sl.length ≤ (Sol.walkF G n i (sl, left)).1.length := by
  obtain ⟨h1, h2, _⟩ := Sol.sim G hG n i sl left hs hi hn hl _ [] (marks_of G.length (sl ++ [i]))
  exact ⟨h1, h2⟩
theorem Seen.add {G : List (List Int)} {sl : List Int} {i : Int} (hs : Sol.Seen G sl) (hi : Sol.InR G.length i) (hn : i ∉ sl) : Sol.Seen G (sl ++ [i]) := by
  refine ⟨List.nodup_append.2 ⟨hs.1, by simp, ?_⟩, fun k hk => ?_⟩
  · intro a ha b hb
    simp at hb; subst hb
    exact fun e => hn (e ▸ ha)
  · rw [List.mem_append, List.mem_singleton] at hk
    rcases hk with hk | rfl
    · exact hs.2 k hk
    · exact hi

/-! two own rows, from a world on -/
structure TwoS (tI : TypeId) (base : Nat) (w wr : World) (o2 o3 : Option Nat) (v2 v3 : Value) (a b : List Int) : Prop where
  low : Below base w wr
  old : ∀ k, base ≤ k → k < w.heap.size → o2 ≠ some k → o3 ≠ some k → wr.heap[k]? = w.heap[k]?
  own2 : OwnL tI intC 1 base wr v2 a
  own3 : OwnL tI intC 1 base wr v3 b
  or2 : ∀ q, v2.ownBlock = some q → o2 = some q ∨ w.heap.size ≤ q
  or3 : ∀ q, v3.ownBlock = some q → o3 = some q ∨ w.heap.size ≤ q
  ne : ∀ q, v2.ownBlock = some q → v3.ownBlock ≠ some q
section
variable {tI : TypeId} {base : Nat} {w wr wr' W2 w6 : World} {o2 o3 : Option Nat} {v2 v3 v2' v3' : Value} {a b a' b' : List Int} {x : Int}
theorem TwoS.refl (h2 : OwnL tI intC 1 base w v2 a) (h3 : OwnL tI intC 1 base w v3 b) (hn : ∀ q, v2.ownBlock = some q → v3.ownBlock ≠ some q) : TwoS tI base w w v2.ownBlock v3.ownBlock v2 v3 a b :=
  ⟨Below.refl _ _, fun _ _ _ _ _ => rfl, h2, h3, fun _ h => .inl h, fun _ h => .inl h, hn⟩
theorem TwoS.next (h : TwoS tI base w wr o2 o3 v2 v3 a b) (hb : Below wr.heap.size wr wr') (hbase : base ≤ wr.heap.size) : TwoS tI base w wr' o2 o3 v2 v3 a b :=
  ⟨h.low.trans (hb.mono hbase), fun k h1 h2 h3 h4 => (hb.block k (Nat.lt_of_lt_of_le h2 h.low.size)).trans (h.old k h1 h2 h3 h4), h.own2.next hb, h.own3.next hb, h.or2, h.or3, h.ne⟩
theorem TwoS.app2 (h : TwoS tI base w wr o2 o3 v2 v3 a b) (hb : Below wr.heap.size wr W2) (hbase : base ≤ wr.heap.size) (hown : OwnL tI intC 1 base w6 v2' a') (hg : W2.grownBy w6 v2.ownBlock) (hB : Below base W2 w6)
    (hor : v2'.ownBlock = v2.ownBlock ∨ ∃ z, v2'.ownBlock = some z ∧ wr.heap.size ≤ z) : TwoS tI base w w6 o2 o3 v2' v3 a' b := by
  have z0 := h.low.size
  have z1 := hb.size
  refine ⟨(h.low.trans (hb.mono hbase)).trans hB, fun k h1 h2 h3 h4 => ?_, hown, ?_, fun q hq => ?_, h.or3, fun q hq => ?_⟩
  · rw [hg.block k (by omega) (fun e => ?_), hb.block k (by omega)]
    · exact h.old k h1 h2 h3 h4
    · rcases h.or2 k e.symm with h5 | h5
      · exact h3 h5
      · omega
  · refine (h.own3.next hb).keep fun q hq => hg.block q ((h.own3.next hb).lt hq).2 fun e => h.ne q e.symm hq
  · rcases hor with e | ⟨z, e, hz⟩
    · exact h.or2 q (e ▸ hq)
    · rw [e] at hq; injection hq with hq; right; omega
  · rcases hor with e | ⟨z, e, hz⟩
    · exact h.ne q (e ▸ hq)
    · rw [e] at hq
      injection hq with hq
      intro e2
      have := (h.own3.lt e2).2
      omega
theorem TwoS.app3 (h : TwoS tI base w wr o2 o3 v2 v3 a b) (hb : Below wr.heap.size wr W2) (hbase : base ≤ wr.heap.size) (hown : OwnL tI intC 1 base w6 v3' b') (hg : W2.grownBy w6 v3.ownBlock) (hB : Below base W2 w6)
    (hor : v3'.ownBlock = v3.ownBlock ∨ ∃ z, v3'.ownBlock = some z ∧ wr.heap.size ≤ z) : TwoS tI base w w6 o2 o3 v2 v3' a b' := by
  have z0 := h.low.size
  have z1 := hb.size
  refine ⟨(h.low.trans (hb.mono hbase)).trans hB, fun k h1 h2 h3 h4 => ?_, ?_, hown, h.or2, fun q hq => ?_, fun q hq => ?_⟩
  · rw [hg.block k (by omega) (fun e => ?_), hb.block k (by omega)]
    · exact h.old k h1 h2 h3 h4
    · rcases h.or3 k e.symm with h5 | h5
      · exact h4 h5
      · omega
  · refine (h.own2.next hb).keep fun q hq => hg.block q ((h.own2.next hb).lt hq).2 fun e => h.ne q hq e.symm
  · rcases hor with e | ⟨z, e, hz⟩
    · exact h.or3 q (e ▸ hq)
    · rw [e] at hq; injection hq with hq; right; omega
  · rcases hor with e | ⟨z, e, hz⟩
    · rw [e]; exact h.ne q hq
    · rw [e]
      intro e2
      injection e2 with e2
      have := (h.own2.lt hq).2
      omega
theorem TwoS.trans (h : TwoS tI base w wr o2 o3 v2 v3 a b) (k : TwoS tI base wr wr' v2.ownBlock v3.ownBlock v2' v3' a' b') : TwoS tI base w wr' o2 o3 v2' v3' a' b' := by
  have z0 := h.low.size
  refine ⟨h.low.trans k.low, fun q h1 h2 h3 h4 => ?_, k.own2, k.own3, fun q hq => ?_, fun q hq => ?_, k.ne⟩
  · rw [k.old q h1 (by omega) (fun e => ?_) (fun e => ?_)]
    · exact h.old q h1 h2 h3 h4
    · rcases h.or2 q e with h5 | h5
      · exact h3 h5
      · omega
    · rcases h.or3 q e with h5 | h5
      · exact h4 h5
      · omega
  · rcases k.or2 q hq with h5 | h5
    · exact h.or2 q h5
    · right; omega
  · rcases k.or3 q hq with h5 | h5
    · exact h.or3 q h5
    · right; omega
/-- A third row beside them stays. -/
theorem TwoS.third {vf : Value} {f : List Int} (k : TwoS tI base wr wr' v2.ownBlock v3.ownBlock v2' v3' a' b') (hf : OwnL tI intC 1 base wr vf f) (h2 : ∀ q, vf.ownBlock = some q → v2.ownBlock ≠ some q ∧ v3.ownBlock ≠ some q) :
    OwnL tI intC 1 base wr' vf f ∧ ∀ q, vf.ownBlock = some q → v2'.ownBlock ≠ some q ∧ v3'.ownBlock ≠ some q := by
  refine ⟨hf.keep fun q hq => k.old q (hf.lt hq).1 (hf.lt hq).2 (h2 q hq).1 (h2 q hq).2, fun q hq => ⟨fun e => ?_, fun e => ?_⟩⟩
  · rcases k.or2 q e with h5 | h5
    · exact (h2 q hq).1 h5
    · have := (hf.lt hq).2; omega
  · rcases k.or3 q e with h5 | h5
    · exact (h2 q hq).2 h5
    · have := (hf.lt hq).2; omega
end
/-- What walk leaves. -/
def WalkP (base : Nat) (w : World) (v2 v3 : Value) (r : List Int × List Int) (e : Ending) (w' : World) : Prop :=
  ∃ A2 c2 A3 c3, e = .returned (.tuple #[.slice A2 r.1.length c2, .slice A3 r.2.length c3]) ∧ TwoS 3 base w w' v2.ownBlock v3.ownBlock (.slice A2 r.1.length c2) (.slice A3 r.2.length c3) r.1 r.2
end Go.Proofs.Ytadcjmfednachaa
