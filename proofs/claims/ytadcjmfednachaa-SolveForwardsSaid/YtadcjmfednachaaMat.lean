/-
  Slices of slices of ints: read; and those of the call's own, whose rows grow one by one. No program in sight.
-/
import Derived.Test.YtadcjmfednachaaStep
namespace Go.Proofs.Ytadcjmfednachaa
open Go.RowKit Go.WideShapes Go.ChangeShapes Go.Deep
set_option linter.unusedVariables false

def intC (n : Int) : List Value := [.int .i64 n]
def valC (v : Value) : List Value := [v]
theorem intC_len (n : Int) : (intC n).length = 1 := rfl
theorem valC_len (v : Value) : (valC v).length = 1 := rfl
theorem intC_one (l : List Int) : ∀ a ∈ l, ∀ u ∈ intC a, u.oneCell' = true := by
  intro a _ u hu; simp [intC] at hu; subst hu; rfl

/-- The slice s reads as rows of ints. -/
def RdV (w : World) (s : Value) (vs : List Value) (m : List (List Int)) : Prop :=
  RdL valC 1 w s vs ∧ vs.length = m.length ∧ ∀ (i : Nat) (v : Value) (l : List Int), vs[i]? = some v → m[i]? = some l → RdL intC 1 w v l
def RdM (w : World) (s : Value) (m : List (List Int)) : Prop := ∃ vs, RdV w s vs m
section
variable {w w' : World} {s : Value} {vs : List Value} {m : List (List Int)}
theorem RdV.next (h : RdV w s vs m) (hb : Below w.heap.size w w') : RdV w' s vs m := ⟨h.1.next hb, h.2.1, fun i v l h1 h2 => (h.2.2 i v l h1 h2).next hb⟩
theorem RdM.next (h : RdM w s m) (hb : Below w.heap.size w w') : RdM w' s m := by obtain ⟨vs, h⟩ := h; exact ⟨vs, h.next hb⟩
theorem RdM.form (h : RdM w s m) : ∃ A c, s = .slice A m.length c := by
  obtain ⟨vs, h1, h2, _⟩ := h
  obtain ⟨A, c, e⟩ := h1.form
  exact ⟨A, c, by rw [e, h2]⟩
theorem RdM.len (h : RdM w s m) : m.length ≤ maxLen := by
  obtain ⟨vs, h1, h2, _⟩ := h
  rw [← h2]; exact h1.len
theorem RdM.nil (w : World) : RdM w (.slice none 0 0) [] := ⟨[], RdL.nil _ _ _, rfl, fun i v l h => by simp at h⟩
/-- A row. -/
theorem RdM.row (h : RdM w s m) {i : Nat} {l : List Int} (hl : m[i]? = some l) :
    ∃ b off c A' c', s = .slice (some ⟨b, off, none⟩) m.length c ∧ b < w.heap.size ∧ w.cell? ⟨b, off + i, none⟩ = some (.slice A' l.length c') ∧ RdL intC 1 w (.slice A' l.length c') l := by
  obtain ⟨vs, h1, h2, h3⟩ := h
  have hi : i < m.length := (List.getElem?_eq_some_iff.1 hl).1
  obtain ⟨b, off, c, e, _, _, hb, hc⟩ := h1.some_ (by omega)
  have hv : vs[i]? = some vs[i] := List.getElem?_eq_getElem (by omega)
  have hr := h3 i _ l hv hl
  obtain ⟨A', c', e'⟩ := hr.form
  refine ⟨b, off, c, A', c', by rw [e, h2], hb, ?_, by rw [← e']; exact hr⟩
  have := hc i _ hv 0 _ rfl
  rw [Nat.mul_one, Nat.add_zero] at this
  rw [this, e']
theorem RdM.take {A : Option Addr} {n c : Nat} (h : RdM w (.slice A n c) m) (k : Nat) (hk : k ≤ m.length) : RdM w (.slice A k c) (m.take k) := by
  obtain ⟨vs, h1, h2, h3⟩ := h
  refine ⟨vs.take k, h1.take k (by omega), by simp [h2], fun i v l hv hl => ?_⟩
  rw [List.getElem?_take] at hv hl
  split at hv
  · rename_i hik
    rw [if_pos hik] at hl
    exact h3 i v l hv hl
  · cases hv
end

/-- A matrix of the call's own: its rows' values lie in block b0; each row has a block of its own. -/
structure OwnV (tI tR : TypeId) (base : Nat) (w : World) (b0 : Nat) (vs : List Value) (m : List (List Int)) : Prop where
  low : base ≤ b0
  blk : w.heap[b0]? = some (.cells vs.toArray tR (0, 0))
  len : vs.length = m.length
  row : ∀ (i : Nat) (v : Value) (l : List Int), vs[i]? = some v → m[i]? = some l → OwnL tI intC 1 base w v l
  off : ∀ (i : Nat) (v : Value) (q : Nat), vs[i]? = some v → v.ownBlock = some q → q ≠ b0
  apart : ∀ (i j : Nat) (v v' : Value) (q : Nat), vs[i]? = some v → vs[j]? = some v' → v.ownBlock = some q → v'.ownBlock = some q → i = j
def OwnM (tI tR : TypeId) (base : Nat) (w : World) (b0 : Nat) (m : List (List Int)) : Prop := ∃ vs, OwnV tI tR base w b0 vs m
section
variable {tI tR : TypeId} {base b0 : Nat} {w w' : World} {vs : List Value} {m : List (List Int)}
theorem OwnV.lt (h : OwnV tI tR base w b0 vs m) : b0 < w.heap.size := (Array.getElem?_eq_some_iff.1 h.blk).1
theorem OwnV.rowLt (h : OwnV tI tR base w b0 vs m) {i : Nat} {v : Value} {q : Nat} (hv : vs[i]? = some v) (hq : v.ownBlock = some q) : base ≤ q ∧ q < w.heap.size := by
  have hi : i < vs.length := (List.getElem?_eq_some_iff.1 hv).1
  have hi2 : i < m.length := by rw [← h.len]; exact hi
  have hm : m[i]? = some m[i] := List.getElem?_eq_getElem hi2
  exact (h.row i v _ hv hm).lt hq
theorem OwnV.keep (h : OwnV tI tR base w b0 vs m) (hk : ∀ b, base ≤ b → b < w.heap.size → w'.heap[b]? = w.heap[b]?) : OwnV tI tR base w' b0 vs m :=
  ⟨h.low, (hk b0 h.low h.lt).trans h.blk, h.len, fun i v l h1 h2 => (h.row i v l h1 h2).keep fun b hb => hk b (h.rowLt h1 hb).1 (h.rowLt h1 hb).2, h.off, h.apart⟩
theorem OwnV.next (h : OwnV tI tR base w b0 vs m) (hb : Below w.heap.size w w') : OwnV tI tR base w' b0 vs m := h.keep fun b _ hlt => hb.block b hlt
theorem OwnM.next (h : OwnM tI tR base w b0 m) (hb : Below w.heap.size w w') : OwnM tI tR base w' b0 m := by obtain ⟨vs, h⟩ := h; exact ⟨vs, h.next hb⟩
theorem OwnV.rdv (h : OwnV tI tR base w b0 vs m) (hm : m.length ≤ maxLen) : RdV w (.slice (some ⟨b0, 0, none⟩) m.length m.length) vs m := by
  refine ⟨⟨_, _, by rw [h.len], by rw [h.len]; exact Nat.le_refl _, hm, fun _ => ⟨b0, 0, rfl, h.lt, fun k a ha j v hv => ?_⟩⟩, h.len, fun i v l h1 h2 => (h.row i v l h1 h2).rdl intC_len⟩
  have hj : j = 0 := by
    rcases Nat.eq_zero_or_pos j with h0 | h0
    · exact h0
    · rw [List.getElem?_eq_none (by show 1 ≤ j; omega)] at hv; cases hv
  subst hj
  have hva : v = a := by simpa [valC] using hv.symm
  subst hva
  rw [Lib.cell_of_heap h.blk]
  simpa using ha
theorem OwnM.rdm (h : OwnM tI tR base w b0 m) (hm : m.length ≤ maxLen) : RdM w (.slice (some ⟨b0, 0, none⟩) m.length m.length) m := by obtain ⟨vs, h⟩ := h; exact ⟨vs, h.rdv hm⟩
/-- Nothing in it yet. -/
theorem OwnV.made {n : Nat} (hb : base ≤ b0) (h : w.heap[b0]? = some (.cells (Array.replicate n (.slice none 0 0)) tR (0, 0))) : OwnV tI tR base w b0 (List.replicate n (.slice none 0 0)) (List.replicate n []) := by
  have hr : ∀ (i : Nat) (v : Value), (List.replicate n (Value.slice none 0 0))[i]? = some v → v = .slice none 0 0 := by
    intro i v hv
    rw [List.getElem?_replicate] at hv
    split at hv
    · exact (Option.some.inj hv).symm
    · cases hv
  refine ⟨hb, by rw [h]; simp, by simp, fun i v l h1 h2 => ?_, fun i v q h1 h2 => ?_, fun i j v v' q h1 _ h3 => ?_⟩
  · rw [hr i v h1]
    rw [List.getElem?_replicate] at h2
    split at h2
    · cases h2; exact OwnL.nil _ _ _ _ _
    · cases h2
  · rw [hr i v h1] at h2; cases h2
  · rw [hr i v h1] at h3; cases h3
/-- One row is turned into another, in its block or in a new one, and put in. -/
theorem OwnV.put (h : OwnV tI tR base w b0 vs m) {i : Nat} {v v' : Value} {l' : List Int} (hv : vs[i]? = some v) (hk : ∀ b, base ≤ b → b < w.heap.size → v.ownBlock ≠ some b → w'.heap[b]? = w.heap[b]?) (hs : w.heap.size ≤ w'.heap.size)
    (hown : OwnL tI intC 1 base w' v' l') (hor : ∀ q, v'.ownBlock = some q → v.ownBlock = some q ∨ w.heap.size ≤ q) :
    OwnV tI tR base (w'.setCell ⟨b0, i, none⟩ v') b0 (vs.set i v') (m.set i l') := by
  have hlt := h.lt
  have hib : i < vs.length := (List.getElem?_eq_some_iff.1 hv).1
  have hvb : v.ownBlock ≠ some b0 := fun e => h.off i v b0 hv e rfl
  have hnb : ∀ q, v'.ownBlock = some q → q ≠ b0 := by
    intro q hq
    rcases hor q hq with h1 | h1
    · exact h.off i v q hv h1
    · omega
  have hne : ∀ b, b ≠ b0 → (w'.setCell ⟨b0, i, none⟩ v').heap[b]? = w'.heap[b]? := by
    intro b hb
    simp only [World.setCell, Array.getElem?_modify]
    rw [if_neg (Ne.symm hb)]
  have hget : ∀ (j : Nat) (x : Value), (vs.set i v')[j]? = some x → (j = i ∧ x = v') ∨ (j ≠ i ∧ vs[j]? = some x) := by
    intro j x hx
    rw [List.getElem?_set] at hx
    by_cases e : i = j
    · rw [if_pos e, if_pos hib] at hx
      exact .inl ⟨e.symm, (Option.some.inj hx).symm⟩
    · rw [if_neg e] at hx
      exact .inr ⟨fun h => e h.symm, hx⟩
  refine ⟨h.low, ?_, by simp [h.len], fun j x l h1 h2 => ?_, fun j x q h1 h2 => ?_, fun j j' x x' q h1 h2 h3 h4 => ?_⟩
  · simp only [World.setCell, Array.getElem?_modify, if_true, (hk b0 h.low hlt hvb).trans h.blk]
    simp
  · rw [List.getElem?_set] at h2
    rcases hget j x h1 with ⟨rfl, rfl⟩ | ⟨hj, h1⟩
    · rw [if_pos rfl] at h2
      split at h2
      · cases h2
        exact hown.keep fun b hb => hne b (hnb b hb)
      · cases h2
    · rw [if_neg (Ne.symm hj)] at h2
      refine (h.row j x l h1 h2).keep fun b hb => ?_
      have h3 := h.rowLt h1 hb
      rw [hne b (h.off j x b h1 hb), hk b h3.1 h3.2 fun e => hj (h.apart j i x v b h1 hv hb e)]
  · rcases hget j x h1 with ⟨rfl, rfl⟩ | ⟨hj, h1⟩
    · exact hnb q h2
    · exact h.off j x q h1 h2
  · rcases hget j x h1 with ⟨e1, e2⟩ | ⟨hj, k1⟩
    · rcases hget j' x' h2 with ⟨e3, e4⟩ | ⟨hj', k2⟩
      · rw [e1, e3]
      · have h5 := h.rowLt k2 h4
        rw [e2] at h3
        rcases hor q h3 with h6 | h6
        · exact absurd (h.apart j' i x' v q k2 hv h4 h6) hj'
        · omega
    · rcases hget j' x' h2 with ⟨e3, e4⟩ | ⟨hj', k2⟩
      · have h5 := h.rowLt k1 h3
        rw [e4] at h4
        rcases hor q h4 with h6 | h6
        · exact absurd (h.apart j i x v q k1 hv h3 h6) hj
        · omega
      · exact h.apart j j' x x' q k1 k2 h3 h4
/-- One row is turned within its block. -/
theorem OwnV.turn (h : OwnV tI tR base w b0 vs m) {i : Nat} {v : Value} {l' : List Int} (hv : vs[i]? = some v) (hk : ∀ b, base ≤ b → b < w.heap.size → v.ownBlock ≠ some b → w'.heap[b]? = w.heap[b]?)
    (hown : OwnL tI intC 1 base w' v l') : OwnV tI tR base w' b0 vs (m.set i l') := by
  have hlt := h.lt
  have hvb : v.ownBlock ≠ some b0 := fun e => h.off i v b0 hv e rfl
  refine ⟨h.low, (hk b0 h.low hlt hvb).trans h.blk, by simp [h.len], fun j x l h1 h2 => ?_, h.off, h.apart⟩
  rw [List.getElem?_set] at h2
  by_cases hj : i = j
  · subst hj
    rw [if_pos rfl] at h2
    split at h2
    · cases h2
      rw [hv] at h1
      cases h1
      exact hown
    · cases h2
  · rw [if_neg hj] at h2
    refine (h.row j x l h1 h2).keep fun b hb => ?_
    have h3 := h.rowLt h1 hb
    exact hk b h3.1 h3.2 fun e => hj (h.apart j i x v b h1 hv hb e).symm
/-- A row of it. -/
theorem OwnV.at_ (h : OwnV tI tR base w b0 vs m) {i : Nat} {l : List Int} (hl : m[i]? = some l) :
    ∃ A c, vs[i]? = some (.slice A l.length c) ∧ w.cell? ⟨b0, i, none⟩ = some (.slice A l.length c) ∧ w.frozen? ⟨b0, i, none⟩ = false ∧ OwnL tI intC 1 base w (.slice A l.length c) l := by
  have hi : i < vs.length := by rw [h.len]; exact (List.getElem?_eq_some_iff.1 hl).1
  have hv : vs[i]? = some vs[i] := List.getElem?_eq_getElem hi
  have hr := h.row i _ l hv hl
  obtain ⟨A, c, e⟩ := hr.form
  rw [e] at hv hr
  refine ⟨A, c, hv, ?_, Lib.frozen_of_heap h.blk _, hr⟩
  rw [Lib.cell_of_heap h.blk]
  simpa using hv
end
/-- A row made whole. -/
theorem block_full {w : World} {base g n size : Nat} {e : TypeId} {xs : List Value} (h : w.ownsRow base e size (.slice (some ⟨g, 0, none⟩) n n) n xs) : w.heap[g]? = some (.cells xs.toArray e (0, 0)) := by
  rcases h.2 with ⟨h1, _⟩ | ⟨g', cap, cur, hv, hb, hg, r1, r2, r3, r4⟩
  · cases h1
  · injection hv with h1 h2 h3
    injection h1 with h1
    injection h1 with h1
    subst h1 h3
    rw [hg]
    have : cur.toList = xs := by
      rw [← r4, List.take_of_length_le]
      rw [Array.length_toList, r3]
      exact Nat.le_refl _
    rw [← this]
theorem made_rep (z : Value) (h : z.cells = #[z]) (n : Nat) : (madeCells z.cells (n * 1)).toList = List.replicate n z := by
  rw [h, Nat.mul_one, toList_madeCells_one]
theorem below_drewN {B : Nat} {a w : World} (h : Below B a w) (n : Nat) : Below B a (w.drewN n) := h.trans ⟨rfl, rfl, rfl, Nat.le_refl _, fun _ _ => rfl⟩
theorem ownsRow_cut {w : World} {base g n cap size : Nat} {e : TypeId} {xs : List Value} (h : w.ownsRow base e size (.slice (some ⟨g, 0, none⟩) n cap) n xs) {k : Nat} (hk : k ≤ n) :
    w.ownsRow base e size (.slice (some ⟨g, 0, none⟩) k cap) k (xs.take (k * size)) := by
  have h0 := h.1
  rcases h.2 with ⟨h1, _⟩ | ⟨g', cap', cur, hv, hb, hg, r1, r2, r3, r4⟩
  · cases h1
  · injection hv with e1 e2 e3
    subst e3
    injection e1 with e1
    injection e1 with e1
    subst e1
    have hks : k * size ≤ n * size := Nat.mul_le_mul_right _ hk
    refine ⟨by rw [List.length_take]; omega, .inr ⟨g, cap, cur, rfl, hb, hg, by omega, r2, r3, ?_⟩⟩
    rw [← r4, List.take_take, Nat.min_eq_left hks]
section
variable {α : Type} {e : TypeId} {f : α → List Value} {sz base : Nat} {w w' : World} {s : Value} {l : List α}
theorem OwnL.addr {A : Option Addr} {n c : Nat} (h : OwnL e f sz base w (.slice A n c) l) (hn : 0 < l.length) : ∃ g, A = some ⟨g, 0, none⟩ ∧ base ≤ g ∧ g < w.heap.size ∧ n = l.length := by
  obtain ⟨A', c', e1, h2⟩ := h
  injection e1 with e1 e2 e3
  rcases h2.2 with ⟨h1, _⟩ | ⟨g, cap, cur, hv, hb, hg, _⟩
  · exact absurd h1 (by rw [e2]; intro h3; injection h3 with _ h4 _; omega)
  · injection hv with e4 e5 e6
    exact ⟨g, e4, hb, (Array.getElem?_eq_some_iff.1 hg).1, e2⟩
theorem OwnL.cut {g n c : Nat} (hf : ∀ a, (f a).length = sz) (h : OwnL e f sz base w (.slice (some ⟨g, 0, none⟩) n c) l) {k : Nat} (hk : k ≤ l.length) : OwnL e f sz base w (.slice (some ⟨g, 0, none⟩) k c) (l.take k) := by
  obtain ⟨A', c', e1, h2⟩ := h
  injection e1 with e1 e2 e3
  subst e2 e1 e3
  have hl : (l.take k).length = k := by rw [List.length_take]; omega
  refine ⟨_, _, by rw [hl], ?_⟩
  have h3 := ownsRow_cut h2 hk
  rw [hl]
  have h4 : (l.flatMap f).take (k * sz) = (l.take k).flatMap f := by
    clear h2 h3 hl
    induction l generalizing k with
    | nil => simp
    | cons a l ih =>
      cases k with
      | zero => simp
      | succ k =>
        simp only [List.flatMap_cons, List.take_succ_cons]
        have hlen : (f a).length ≤ (k + 1) * sz := by rw [hf, Nat.add_mul]; omega
        rw [List.take_append, List.take_of_length_le hlen, hf, Nat.add_mul, Nat.one_mul, Nat.add_sub_cancel, ih (by simpa using hk)]
  rw [← h4]
  exact h3
end
/-- A row of Booleans of the call's own. -/
def BoolR (tB : TypeId) (w : World) (b0 : Nat) (l : List Bool) : Prop := w.heap[b0]? = some (.cells (l.map Value.bool).toArray tB (0, 0))
def boolC (b : Bool) : List Value := [.bool b]
section
variable {tB : TypeId} {w w' : World} {b0 : Nat} {l : List Bool}
theorem BoolR.lt (h : BoolR tB w b0 l) : b0 < w.heap.size := (Array.getElem?_eq_some_iff.1 h).1
theorem BoolR.block (h : BoolR tB w b0 l) (hb : w'.heap[b0]? = w.heap[b0]?) : BoolR tB w' b0 l := hb.trans h
theorem BoolR.next (h : BoolR tB w b0 l) (hb : Below w.heap.size w w') : BoolR tB w' b0 l := h.block (hb.block _ h.lt)
theorem BoolR.at_ (h : BoolR tB w b0 l) {i : Nat} (hi : i < l.length) : w.cell? ⟨b0, i, none⟩ = some (.bool (l.getD i false)) ∧ w.frozen? ⟨b0, i, none⟩ = false := by
  refine ⟨?_, Lib.frozen_of_heap h _⟩
  rw [Lib.cell_of_heap h]
  simp [List.getElem?_eq_getElem hi]
theorem BoolR.set (h : BoolR tB w b0 l) (i : Nat) (x : Bool) : BoolR tB (w.setCell ⟨b0, i, none⟩ (.bool x)) b0 (l.set i x) := by
  unfold BoolR at *
  simp only [World.setCell, Array.getElem?_modify, if_true, h]
  simp [List.map_set]
theorem BoolR.rdl (h : BoolR tB w b0 l) (hl : l.length ≤ maxLen) : RdL boolC 1 w (.slice (some ⟨b0, 0, none⟩) l.length l.length) l := by
  refine ⟨_, _, rfl, Nat.le_refl _, hl, fun _ => ⟨b0, 0, rfl, h.lt, fun k a ha j v hv => ?_⟩⟩
  have hj : j = 0 := by
    rcases Nat.eq_zero_or_pos j with h0 | h0
    · exact h0
    · rw [List.getElem?_eq_none (by show 1 ≤ j; omega)] at hv; cases hv
  subst hj
  have hva : v = .bool a := by simpa [boolC] using hv.symm
  subst hva
  rw [Lib.cell_of_heap h]
  simp [ha]
end
end Go.Proofs.Ytadcjmfednachaa
