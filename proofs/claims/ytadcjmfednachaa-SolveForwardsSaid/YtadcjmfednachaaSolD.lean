/-
  A row of the call's own that is cut at its head and grows at its end: a queue.
  The work list: its state, what puts a node onto it.
  The work list, walked: over any closure that looks at a node.
  The sets of an answer while they grow; what the closures of Backward and Forward read.
-/
import Derived.Test.YtadcjmfednachaaSolW25
import Derived.Test.YtadcjmfednachaaSolW17
namespace Go.Proofs.Ytadcjmfednachaa
open Go.RowKit
set_option linter.unusedVariables false
set_option linter.unusedSimpArgs false

def OwnQ (e : TypeId) (base : Nat) (w : World) (v : Value) (l : List Int) : Prop :=
  ∃ A c, v = .slice A l.length c ∧ l.length ≤ c ∧ c ≤ maxLen ∧ ((A = none ∧ c = 0) ∨ ∃ g off cur, A = some ⟨g, off, none⟩ ∧ base ≤ g ∧ w.heap[g]? = some (.cells cur e (0, 0)) ∧ off + c ≤ cur.size ∧ ∀ (j : Nat) (y : Int), l[j]? = some y → cur[off + j]? = some (.int .i64 y))
section
variable {e : TypeId} {base : Nat} {w w' : World} {v : Value} {l : List Int}
theorem OwnL.queue {A : Option Addr} {n c : Nat} (h : OwnL e intC 1 base w (.slice A n c) l) : OwnQ e base w (.slice A n c) l := by
  obtain ⟨A', c', e1, h2⟩ := h
  injection e1 with e1 e2 e3
  subst e1 e2 e3
  rcases h2.2 with ⟨h1, h0⟩ | ⟨g, cap, cur, hv, hb, hg, r1, r2, r3, r4⟩
  · injection h1 with k1 k2 k3
    subst k1 k3
    exact ⟨none, 0, rfl, by omega, Nat.zero_le _, .inl ⟨rfl, rfl⟩⟩
  · injection hv with k1 k2 k3
    subst k1 k3
    refine ⟨_, _, rfl, r1, r2, .inr ⟨g, 0, cur, rfl, hb, hg, by omega, fun j y hy => ?_⟩⟩
    rw [flat_intC, Nat.mul_one] at r4
    have hj : j < l.length := (List.getElem?_eq_some_iff.1 hy).1
    have h5 : (cur.toList.take l.length)[j]? = (l.map (Value.int .i64))[j]? := by rw [r4]
    rw [List.getElem?_take_of_lt hj, List.getElem?_map, hy] at h5
    rw [Nat.zero_add, ← Array.getElem?_toList, h5]; rfl
theorem OwnQ.lt (h : OwnQ e base w v l) {b : Nat} (hb : v.ownBlock = some b) : base ≤ b ∧ b < w.heap.size := by
  obtain ⟨A, c, rfl, _, _, h3⟩ := h
  rcases h3 with ⟨rfl, _⟩ | ⟨g, off, cur, rfl, h4, h5, _⟩
  · cases hb
  · injection hb with hb
    subst hb
    exact ⟨h4, (Array.getElem?_eq_some_iff.1 h5).1⟩
theorem OwnQ.keep (h : OwnQ e base w v l) (hk : ∀ b, v.ownBlock = some b → w'.heap[b]? = w.heap[b]?) : OwnQ e base w' v l := by
  obtain ⟨A, c, rfl, h1, h2, h3⟩ := h
  refine ⟨A, c, rfl, h1, h2, h3.imp id ?_⟩
  rintro ⟨g, off, cur, rfl, h4, h5, h6⟩
  exact ⟨g, off, cur, rfl, h4, (hk g rfl).trans h5, h6⟩
theorem OwnQ.next (h : OwnQ e base w v l) (hb : Below w.heap.size w w') : OwnQ e base w' v l := h.keep fun b hq => hb.block b (h.lt hq).2
theorem OwnQ.rdl (h : OwnQ e base w v l) : RdL intC 1 w v l := by
  obtain ⟨A, c, rfl, h1, h2, h3⟩ := h
  refine ⟨A, c, rfl, h1, h2, fun hp => ?_⟩
  rcases h3 with ⟨_, h0⟩ | ⟨g, off, cur, rfl, h4, h5, _, h6⟩
  · omega
  · refine ⟨g, off, rfl, (Array.getElem?_eq_some_iff.1 h5).1, fun k a ha j u hu => ?_⟩
    match j, hu with
    | 0, hu =>
      simp [intC] at hu
      subst hu
      rw [Lib.cell_of_heap h5, Nat.mul_one, Nat.add_zero]
      exact h6 k a ha
/-- The head is cut off. -/
theorem OwnQ.tail {A : Option Addr} {n c : Nat} {y : Int} {q : List Int} (h : OwnQ e base w (.slice A n c) (y :: q)) : OwnQ e base w (.slice (fromA A c 1 1) (n - 1) (c - 1)) q := by
  obtain ⟨A', c', e1, h1, h2, h3⟩ := h
  injection e1 with e1 e2 e3
  subst e1 e2 e3
  rw [List.length_cons] at h1
  rcases h3 with ⟨_, h0⟩ | ⟨g, off, cur, rfl, h4, h5, h6, h7⟩
  · omega
  · unfold fromA
    by_cases hc : c = 1
    · subst hc
      rw [if_pos rfl]
      have hq : q = [] := List.eq_nil_of_length_eq_zero (by omega)
      subst hq
      exact ⟨_, 0, rfl, by simp, by omega, .inr ⟨g, off, cur, rfl, h4, h5, by omega, fun j y hy => by simp at hy⟩⟩
    · rw [if_neg hc]
      refine ⟨some ⟨g, off + 1, none⟩, c - 1, by simp [add_at], by omega, by omega, .inr ⟨g, off + 1, cur, rfl, h4, h5, by omega, fun j z hz => ?_⟩⟩
      have := h7 (j + 1) z (by simpa using hz)
      rw [show off + 1 + j = off + (j + 1) by omega]
      exact this
/-- One is put at the end. -/
theorem OwnQ.app {P : Program} {t : TypeId} {i : TypeInfo} {ty : TypeId} {y : Int} {ad : Addr} {c1 : Nat} (h : OwnQ e base w v l) (ht : P.underlying t = some (.slice e)) (hi : P.info? e = some i) (hz : i.zero = some (.int .i64 0)) (hsize : i.size = 1) (hby : i.bytes = 8)
    (hy : w.cell? ad = some (.int .i64 y)) (had : ad.add 0 = ad) (hl : l.length ≤ 1048576) (hbase : base ≤ w.heap.size) :
    ∃ A' c' w', (Builtin.append_ #[t, t] ty #[v, .slice (some ad) 1 c1]).run P w = .ok (.slice A' (l.length + 1) c') w' ∧ OwnQ e base w' (.slice A' (l.length + 1) c') (l ++ [y]) ∧ w.grownBy w' v.ownBlock ∧
      ((Value.slice A' (l.length + 1) c').ownBlock = v.ownBlock ∨ ∃ z, (Value.slice A' (l.length + 1) c').ownBlock = some z ∧ w.heap.size ≤ z) := by
  have hnews : ∀ (j : Nat) (u : Value), [Value.int .i64 y][j]? = some u → w.cell? (ad.add j) = some u := by
    intro j u hu
    match j, hu with
    | 0, hu => simp at hu; subst hu; rw [had]; exact hy
  have fin : ∀ (v' : Value) (w' : World), w'.ownsRow w.heap.size e 1 v' (l.length + 1) (l.map (Value.int .i64) ++ [.int .i64 y]) → w.grownBy w' none →
      ∃ A' c', v' = .slice A' (l.length + 1) c' ∧ OwnQ e base w' (.slice A' (l.length + 1) c') (l ++ [y]) ∧ w.grownBy w' v.ownBlock ∧ ((Value.slice A' (l.length + 1) c').ownBlock = v.ownBlock ∨ ∃ z, (Value.slice A' (l.length + 1) c').ownBlock = some z ∧ w.heap.size ≤ z) := by
    intro v' w' ho hg
    have hlt := ho.lt
    rcases ho.2 with ⟨_, h0⟩ | ⟨g, cap, cur, rfl, hb, hgg, _⟩
    · omega
    · refine ⟨_, _, rfl, ?_, hg.but _, .inr ⟨g, rfl, hb⟩⟩
      have hO : OwnL e intC 1 w.heap.size w' (.slice (some ⟨g, 0, none⟩) (l.length + 1) cap) (l ++ [y]) := ⟨some ⟨g, 0, none⟩, cap, by simp, by rw [flat_intC]; simpa using ho⟩
      have hQ := hO.queue
      obtain ⟨A3, c3, e3, k1, k2, k3⟩ := hQ
      refine ⟨A3, c3, e3, k1, k2, k3.imp id ?_⟩
      rintro ⟨g3, o3, cu3, q1, q2, q3⟩
      exact ⟨g3, o3, cu3, q1, by omega, q3⟩
  obtain ⟨A, c, rfl, h1, h2, h3⟩ := h
  rcases h3 with ⟨rfl, rfl⟩ | ⟨g, off, cur, rfl, h4, h5, h6, h7⟩
  · have hl0 : l = [] := List.eq_nil_of_length_eq_zero (by omega)
    subst hl0
    obtain ⟨v', w', r1, r2, r3, _⟩ := run_append_own (P := P) w w.heap.size t ty e i _ 1 8 ht hi hz hsize hby rfl (by decide) (.slice none 0 0) 0 [] (World.ownsRow_nil _ _ _ _) ad 1 c1 [.int .i64 y] rfl hnews (by simp [Value.oneCell']) (by decide) (by decide) (Nat.le_refl _)
    obtain ⟨A', c', rfl, k1, k2, k3⟩ := fin v' w' (by simpa using r2) r3
    exact ⟨A', c', w', r1, k1, k2, k3⟩
  · rcases Nat.lt_or_ge c (l.length + 1) with hgr | hroom
    · have holds : ∀ (j : Nat) (u : Value), (l.map (Value.int .i64))[j]? = some u → w.cell? ((⟨g, off, none⟩ : Addr).add j) = some u := by
        intro j u hu
        rw [List.getElem?_map] at hu
        cases hj : l[j]? with
        | none => rw [hj] at hu; cases hu
        | some z =>
          rw [hj] at hu
          simp at hu
          subst hu
          rw [add_at, Lib.cell_of_heap h5]
          exact h7 j z hj
      obtain ⟨v', w', r1, r2, r3⟩ := run_append_arg_grows (P := P) w t ty e i _ 1 8 ht hi hz hsize hby rfl (by decide) ⟨g, off, none⟩ l.length c (l.map (Value.int .i64)) (by simp) holds ad 1 c1 [.int .i64 y] rfl hnews hgr (by unfold maxLen; omega) (by omega)
      obtain ⟨A', c', rfl, k1, k2, k3⟩ := fin v' w' r2 r3
      exact ⟨A', c', w', r1, k1, k2, k3⟩
    · have hspare : ∀ j, j < [Value.int .i64 y].length → (w.cell? ⟨g, off + l.length * i.size + j, none⟩).isSome = true := fun j hj => by
        simp at hj
        subst hj
        rw [Lib.cell_of_heap h5, hsize, Nat.mul_one]
        have : off + l.length + 0 < cur.size := by omega
        simp; omega
      have hrun := run_append_room_cells (P := P) w t ty e i ht hi g off l.length c ad 1 c1 [.int .i64 y] (by simp [hsize]) hnews (by simp [Value.oneCell']) hroom hspare (fun j _ => Lib.frozen_of_heap h5 _)
      have hset : w.setCells g (off + l.length * i.size) [Value.int .i64 y] = w.setCell ⟨g, off + l.length, none⟩ (.int .i64 y) := by rw [hsize, Nat.mul_one]; rfl
      rw [hset] at hrun
      have hne : ∀ b, b ≠ g → (w.setCell ⟨g, off + l.length, none⟩ (.int .i64 y)).heap[b]? = w.heap[b]? := by
        intro b hb
        simp only [World.setCell, Array.getElem?_modify]
        rw [if_neg (Ne.symm hb)]
      refine ⟨_, _, _, hrun, ⟨_, _, by simp, by simpa using hroom, h2, .inr ⟨g, off, cur.setIfInBounds (off + l.length) (.int .i64 y), rfl, h4, ?_, by simpa using h6, fun j z hz => ?_⟩⟩, ⟨rfl, rfl, rfl, by simp [World.setCell], fun b hb hn => hne b fun e => hn (by rw [e]; rfl)⟩, .inl rfl⟩
      · simp only [World.setCell, Array.getElem?_modify, if_true, h5]
        simp
      · rw [Array.getElem?_setIfInBounds]
        by_cases hj : j < l.length
        · rw [List.getElem?_append_left hj] at hz
          rw [if_neg (by omega)]
          exact h7 j z hz
        · have hje : j = l.length := by
            have := (List.getElem?_eq_some_iff.1 hz).1
            simp at this
            omega
          subst hje
          rw [List.getElem?_append_right (Nat.le_refl _), Nat.sub_self] at hz
          simp at hz
          subst hz
          rw [if_pos rfl, if_pos (by omega)]
end
end Go.Proofs.Ytadcjmfednachaa

namespace Go.Proofs.Ytadcjmfednachaa
open Go.RowKit
set_option linter.unusedVariables false
set_option linter.unusedSimpArgs false

/-- Which nodes wait, and the queue: each in a box of its own. -/
structure WorkS (base : Nat) (w : World) (p1 p2 bw N : Nat) (vq : Value) (st : List Bool × List Int) : Prop where
  box1 : w.heap[p1]? = some (.cells #[.slice (some ⟨bw, 0, none⟩) N N] 25 (0, 0))
  box2 : w.heap[p2]? = some (.cells #[vq] 28 (0, 0))
  row : BoolR 4 w bw st.1
  len : st.1.length = N
  q : OwnQ 3 base w vq st.2
  ne : base ≤ p1 ∧ base ≤ p2 ∧ base ≤ bw ∧ p1 ≠ p2 ∧ p1 ≠ bw ∧ p2 ≠ bw ∧ vq.ownBlock ≠ some p1 ∧ vq.ownBlock ≠ some p2 ∧ vq.ownBlock ≠ some bw
section
variable {base p1 p2 bw N : Nat} {w w' w6 W2 : World} {vq v' : Value} {st : List Bool × List Int}
theorem WorkS.next (h : WorkS base w p1 p2 bw N vq st) (hb : Below w.heap.size w w') : WorkS base w' p1 p2 bw N vq st :=
  ⟨(hb.block _ (Array.getElem?_eq_some_iff.1 h.box1).1).trans h.box1, (hb.block _ (Array.getElem?_eq_some_iff.1 h.box2).1).trans h.box2, h.row.next hb, h.len, h.q.next hb, h.ne⟩
theorem WorkS.lt (h : WorkS base w p1 p2 bw N vq st) : p1 < w.heap.size ∧ p2 < w.heap.size ∧ bw < w.heap.size := ⟨(Array.getElem?_eq_some_iff.1 h.box1).1, (Array.getElem?_eq_some_iff.1 h.box2).1, h.row.lt⟩
theorem setC_other (w : World) (b o : Nat) (v : Value) {q : Nat} (hq : q ≠ b) : (w.setCell ⟨b, o, none⟩ v).heap[q]? = w.heap[q]? := by
  simp only [World.setCell, Array.getElem?_modify]
  rw [if_neg (Ne.symm hq)]
/-- A node is marked or unmarked. -/
theorem WorkS.mark (h : WorkS base w p1 p2 bw N vq st) (i : Nat) (x : Bool) : WorkS base (w.setCell ⟨bw, i, none⟩ (.bool x)) p1 p2 bw N vq (st.1.set i x, st.2) := by
  obtain ⟨n1, n2, n3, n4, n5, n6, n7, n8, n9⟩ := h.ne
  exact ⟨(setC_other w bw i _ n5).trans h.box1, (setC_other w bw i _ n6).trans h.box2, h.row.set i x, by simp [h.len], h.q.keep fun b hb => setC_other w bw i _ (fun e => n9 (by rw [← e]; exact hb)), h.ne⟩
/-- The queue is another. -/
theorem WorkS.turn (h : WorkS base w p1 p2 bw N vq st) {l : List Int} (hg : w.grownBy w6 vq.ownBlock) (hq : OwnQ 3 base w6 v' l) (hor : v'.ownBlock = none ∨ v'.ownBlock = vq.ownBlock ∨ ∃ z, v'.ownBlock = some z ∧ w.heap.size ≤ z) : WorkS base (w6.setCell ⟨p2, 0, none⟩ v') p1 p2 bw N v' (st.1, l) := by
  obtain ⟨n1, n2, n3, n4, n5, n6, n7, n8, n9⟩ := h.ne
  obtain ⟨l1, l2, l3⟩ := h.lt
  have key : ∀ b, b < w.heap.size → vq.ownBlock ≠ some b → v'.ownBlock ≠ some b := by
    intro b hb hn e
    rcases hor with h | h | ⟨z, h, hz⟩
    · rw [h] at e; cases e
    · exact hn (h ▸ e)
    · rw [h] at e; injection e with e; omega
  have k2 := key p2 l2 n8
  have kb : ∀ b, b < w.heap.size → vq.ownBlock ≠ some b → w6.heap[b]? = w.heap[b]? := fun b hb hn => hg.block b hb fun e => hn e.symm
  refine ⟨(setC_other w6 p2 0 _ n4).trans ((kb p1 l1 n7).trans h.box1), ?_, h.row.block ((setC_other w6 p2 0 _ (Ne.symm n6)).trans (kb bw l3 n9)), h.len, hq.keep fun b hb => setC_other w6 p2 0 _ (fun e => k2 (by rw [← e]; exact hb)), n1, n2, n3, n4, n5, n6, key p1 l1 n7, k2, key bw l3 n9⟩
  simp only [World.setCell, Array.getElem?_modify, if_true, (kb p2 l2 n8).trans h.box2]
  simp
end
theorem wpList_appQ {P : Program} {ops : Array Oper} {rest : List Oper} {o : Oper} {a : Act} {Q : Exit → Act → World → Prop} {w : World} {e : TypeId} {base : Nat} (hgd : o.guard = none) (s x : Operand) (t : TypeId)
    (ho : o.op = .call { callee := .builtin .append, args := #[s, x], argTypes := #[t, t] }) (i : TypeInfo) (ht : P.underlying t = some (.slice e)) (hi : P.info? e = some i) (hz : i.zero = some (.int .i64 0)) (hsize : i.size = 1) (hby : i.bytes = 8)
    (v : Value) (l : List Int) (hs : a.eval s = v) (h : OwnQ e base w v l) (ad : Addr) (c1 : Nat) (y : Int) (hx : a.eval x = .slice (some ad) 1 c1) (hy : w.cell? ad = some (.int .i64 y)) (had : ad.add 0 = ad) (hl : l.length ≤ 1048576) (hbase : base ≤ w.heap.size)
    (hK : ∀ A' c' w', OwnQ e base w' (.slice A' (l.length + 1) c') (l ++ [y]) → w.grownBy w' v.ownBlock → ((Value.slice A' (l.length + 1) c').ownBlock = v.ownBlock ∨ ∃ z, (Value.slice A' (l.length + 1) c').ownBlock = some z ∧ w.heap.size ≤ z) → wpList P ops Q rest (a.put o.dst (.slice A' (l.length + 1) c')) w') : wpList P ops Q (o :: rest) a w := by
  refine wpList_plain hgd fun K' hK' => ?_
  obtain ⟨A', c', w', hrun, r1, r2, r3⟩ := h.app (P := P) (ty := o.type) (c1 := c1) ht hi hz hsize hby hy had hl hbase
  unfold Oper.wp
  simp [execOp, ho, resolve, invoke, builtin, hs, hx, hrun, Result.andThen]
  exact hK' _ _ (hK A' c' w' r1 r2 r3)
theorem WorkS.keep {base p1 p2 bw N : Nat} {w w' : World} {vq : Value} {st : List Bool × List Int} (h : WorkS base w p1 p2 bw N vq st) (hk : ∀ b, base ≤ b → b < w.heap.size → w'.heap[b]? = w.heap[b]?) : WorkS base w' p1 p2 bw N vq st := by
  obtain ⟨l1, l2, l3⟩ := h.lt
  exact ⟨(hk _ h.ne.1 l1).trans h.box1, (hk _ h.ne.2.1 l2).trans h.box2, h.row.block (hk _ h.ne.2.2.1 l3), h.len, h.q.keep fun b hb => hk b (h.q.lt hb).1 (h.q.lt hb).2, h.ne⟩
/-- What a call that puts a node on leaves: blocks but those of the list are as they were. -/
def AddWP (base : Nat) (w : World) (p1 p2 bw N : Nat) (vq : Value) (st : List Bool × List Int) (e : Ending) (w' : World) : Prop := e = .returned (.tuple #[]) ∧ (∃ v', WorkS base w' p1 p2 bw N v' st ∧ ∀ b, b < w.heap.size → b ≠ p2 → b ≠ bw → vq.ownBlock ≠ some b → w'.heap[b]? = w.heap[b]? ∧ v'.ownBlock ≠ some b) ∧ Below base w w'
set_option maxRecDepth 100000 in
set_option maxHeartbeats 4000000 in
theorem addW_any (base p1 p2 bw N k : Nat) (vq : Value) (st : List Bool × List Int) (w : World) (h : WorkS base w p1 p2 bw N vq st) (hk : k < N) (hN : N ≤ 1048576) (hq : st.2.length ≤ 1048576) (hbase : base ≤ w.heap.size) :
    Calls Try.prog 45 #[.int .i64 k, .pointer (some ⟨p1, 0, none⟩), .pointer (some ⟨p2, 0, none⟩)] w (AddWP base w p1 p2 bw N vq (Sol.addW st k)) := by
  obtain ⟨i0, hi0, hz0, hz1, hz2⟩ := info_parts int_info
  obtain ⟨A0, c0, rfl, _⟩ := h.q
  obtain ⟨wt, ql⟩ := st
  have HS := Lib.hid h
  have hlen : wt.length = N := h.len
  obtain ⟨q1, q2⟩ := h.row.at_ (i := k) (by rw [hlen]; exact hk)
  have r1 := (cells_of_block h.box1).1 0
  have r2 := (cells_of_block h.box2).1 0
  have rf2 := (cells_of_block h.box2).2
  simp at r1 r2
  obtain ⟨n1, n2, n3, n4, n5, n6, n7, n8, n9⟩ := h.ne
  obtain ⟨l1, l2, l3⟩ := h.lt
  obtain ⟨x, hx⟩ : ∃ x, x = wt.getD k false := ⟨_, rfl⟩
  dsimp only at q1 hq
  rw [← hx] at q1
  have HX := Lib.hid hx
  clear h n7 n8 n9 hx
  cases x with
  | true =>
    have HA : Hid (Sol.addW (wt, ql) (k : Int) = (wt, ql)) := Lib.hid (by unfold Sol.addW; rw [if_pos (by rw [Int.toNat_natCast]; exact HX.out.symm)])
    have hA1 := cell_alloc_if
    have hA2 := frozen_alloc_if
    have hA3 := cell_set_if
    go_enter Try.func45, Try.ntmps45
    go_wp2
    refine bodyPost_end (v := .tuple #[]) (by simp [results, Try.results45]) rfl ?_
    rw [HA.out]
    exact ⟨rfl, ⟨_, HS.out, fun b _ _ _ hv => ⟨rfl, hv⟩⟩, Below.refl _ _⟩
  | false =>
    have HA : Hid (Sol.addW (wt, ql) (k : Int) = (wt.set k true, ql ++ [(k : Int)])) := Lib.hid (by unfold Sol.addW; rw [if_neg (by rw [Int.toNat_natCast]; simpa using HX.out.symm), Int.toNat_natCast])
    have HM := Lib.hid (HS.out.mark k true)
    have hbm : Below base w (w.setCell ⟨bw, k, none⟩ (.bool true)) := (Below.refl _ _).setCell n3 _
    have hA1 := cell_alloc_if
    have hA2 := frozen_alloc_if
    have hA3 := cell_set_if
    go_enter Try.func45, Try.ntmps45
    go_wp2_with (at_builtin; refine wpList_appQ rfl _ _ 28 rfl i0 Try.underlying28 hi0 hz0 hz1 hz2 (.slice A0 ql.length c0) ql rfl (HM.out.q.next (by (repeat' (first | (with_reducible exact Below.refl _ _) | (with_reducible assumption) | (with_reducible refine Below.setCell ?_ ?_ _) | (with_reducible refine Below.alloc ?_ ?_ _) | (with_reducible refine Below.drew ?_) | (with_reducible refine below_drewN ?_ _) | (with_reducible refine below_next ?_ (by with_reducible assumption)) | omega | (dsimp only; omega) | (simp only [World.size_alloc, World.size_setCell, World.size_drew, World.heap_drewN]; omega))))) ⟨w.heap.size, 0, none⟩ 1 (k : Int) rfl ?c1 rfl (by omega) ?c2 ?_)
    case c2 => omega
    intro A9 c9 w9 hq9 hg9 hor9
    have HM2 := Lib.hid (HM.out.next (w' := (w.setCell ⟨bw, k, none⟩ (.bool true)).alloc (.cells #[.int .i64 k] 3)) (by (repeat' (first | (with_reducible exact Below.refl _ _) | (with_reducible assumption) | (with_reducible refine Below.setCell ?_ ?_ _) | (with_reducible refine Below.alloc ?_ ?_ _) | (with_reducible refine Below.drew ?_) | (with_reducible refine below_drewN ?_ _) | (with_reducible refine below_next ?_ (by with_reducible assumption)) | omega | (dsimp only; omega) | (simp only [World.size_alloc, World.size_setCell, World.size_drew, World.heap_drewN]; omega)))))
    have hT := HM2.out.turn hg9 hq9 (.inr (hor9.imp id fun ⟨z, e, hz⟩ => ⟨z, e, by simpa using hz⟩))
    have HT := Lib.hid hT
    have hb2 : w9.heap[p2]? = w.heap[p2]? := by
      rw [hg9.block p2 (by simp; omega) (fun e => HM2.out.ne.2.2.2.2.2.2.2.1 e.symm)]
      rw [heap_alloc_old' _ _ (by simpa using l2)]
      exact setC_other w bw k _ n6
    have r9 : w9.cell? ⟨p2, 0, none⟩ = some (.slice A0 ql.length c0) := (World.cell?_of_block (a := ⟨p2, 0, none⟩) hb2).trans r2
    have rf9 : w9.frozen? ⟨p2, 0, none⟩ = false := Lib.frozen_of_heap (hb2.trans HS.out.box2) _
    have hB : Below base w (w9.setCell ⟨p2, 0, none⟩ (.slice A9 (ql.length + 1) c9)) := ((hbm.alloc (by simpa using hbase) _).grown hg9 (by simp; omega) (fun q hq => (HS.out.q.lt hq).1)).setCell n2 _
    have HKB : Hid (∀ b, b < w.heap.size → b ≠ p2 → b ≠ bw → (Value.slice A0 ql.length c0).ownBlock ≠ some b → (w9.setCell ⟨p2, 0, none⟩ (.slice A9 (ql.length + 1) c9)).heap[b]? = w.heap[b]? ∧ (Value.slice A9 (ql.length + 1) c9).ownBlock ≠ some b) := Lib.hid fun b hb e2 eb hv => by
      refine ⟨((setC_other w9 p2 0 _ e2).trans (hg9.block b (by simp; omega) fun e => hv e.symm)).trans ((heap_alloc_old' _ _ (by simpa using hb)).trans (setC_other w bw k _ eb)), fun e => ?_⟩
      rcases hor9 with h | ⟨z, h, hz⟩
      · exact hv (h ▸ e)
      · rw [h] at e; injection e with e; omega
    clear hq9 hg9 hor9 hb2 hT
    go_wp2
    refine bodyPost_end (v := .tuple #[]) (by simp [results, Try.results45]) rfl ?_
    rw [HA.out]
    exact ⟨rfl, ⟨_, HT.out, HKB.out⟩, hB⟩
end Go.Proofs.Ytadcjmfednachaa

namespace Go.Proofs.Ytadcjmfednachaa
open Go.RowKit
set_option linter.unusedVariables false
set_option linter.unusedSimpArgs false

/-- What a look does: the state it stands for is turned, the nodes to be looked at again are a row of the call's own. -/
def LookP {σ : Type} (base B : Nat) (Rep : σ → World → Prop) (W : World) (r : σ × List Int) (e : Ending) (w' : World) : Prop :=
  ∃ A c, e = .returned (.slice A r.2.length c) ∧ OwnL 3 intC 1 W.heap.size w' (.slice A r.2.length c) r.2 ∧ Rep r.1 w' ∧ Below base W w' ∧ ∀ b, B ≤ b → b < W.heap.size → w'.heap[b]? = W.heap[b]?
/-- What stands behind the work. -/
def WorkP {σ : Type} (base N : Nat) (Rep : σ → World → Prop) (I : σ → Prop) (closed : σ → Int → Prop) (w : World) (e : Ending) (w' : World) : Prop :=
  e = .returned (.tuple #[]) ∧ ∃ s, Rep s w' ∧ I s ∧ (∀ k, Sol.InR N k → closed s k) ∧ Below base w w'
set_option maxRecDepth 100000 in
set_option maxHeartbeats 4000000 in
theorem work_any {σ : Type} (base N : Nat) (f : Nat) (bound : Array Value) (Rep : σ → World → Prop) (I : σ → Prop) (closed : σ → Int → Prop) (room : σ → Nat) (look : σ → Int → σ × List Int) (s0 : σ) (w : World) (hk : Sol.LookOk N I closed room look) (hN : N ≤ 1048576) (hbase : base ≤ w.heap.size)
    (hRep : ∀ s W W', Below w.heap.size W W' → Rep s W → Rep s W') (h0 : Rep s0 w) (hI : I s0)
    (he : ∀ args w, (callFunc f args).run Try.prog w = .ok (.enter f args) w)
    (hl : ∀ s (i : Nat) W, I s → i < N → Rep s W → w.heap.size ≤ W.heap.size → Calls Try.prog f (#[.int .i64 i] ++ bound) W (LookP base w.heap.size Rep W (look s i))) :
    Calls Try.prog 36 #[.int .i64 N, .func (.func f) #[] bound] w (WorkP base N Rep I closed w) := by
  obtain ⟨j0, hj0, hy0, hy1, hy2⟩ := info_parts bool_info
  have HK := Lib.hid hk
  have HL := Lib.hid hl
  have HREP := Lib.hid hRep
  have H0 := Lib.hid h0
  have HI := Lib.hid hI
  have hmf : ∀ (fn : Fn) (first cap : Array Value) (w : World), (Instr.makeFunc fn first cap).run Try.prog w = .ok (.func fn first cap) w := fun _ _ _ _ => rfl
  clear hk hl hRep h0 hI
  have hA1 := cell_alloc_if
  have hA2 := frozen_alloc_if
  have hA3 := cell_set_if
  go_enter Try.func36, Try.ntmps36
  go_wp2_with (refine wpList_make_full _ rfl (.tmp 11) (.tmp 11) 25 rfl w.heap.size 4 j0 _ 1 Try.underlying25 hj0 hy0 hy1 .i64 .i64 N N N rfl rfl rfl rfl ?m1 ?m2 ?m3 ?_)
  case m1 => rw [hy2]; omega
  case m2 => unfold maxLen; omega
  try (case m3 => exact Nat.le_refl _)
  intro w1 hrow hg1
  rw [toList_madeCells_one] at hrow
  have hblk := block_full hrow
  have hbw1 : Below w.heap.size w w1 := (Below.refl _ _).grown hg1 (Nat.le_refl _) (fun k hk => by cases hk)
  have hlt1 : w.heap.size < w1.heap.size := (Array.getElem?_eq_some_iff.1 hblk).1
  have hbr : BoolR 4 w1 w.heap.size (List.replicate N false) := by unfold BoolR; rw [hblk]; simp
  have HBR := Lib.hid hbr
  clear hrow hg1 hblk hbr
  go_wp2
  have HW0 : Hid (WorkS w.heap.size ((w1.alloc (.cells #[.slice (some ⟨w.heap.size, 0, none⟩) N N] 25)).alloc (.cells #[.slice none 0 0] 28)) w1.heap.size (w1.heap.size + 1) w.heap.size N (.slice none 0 0) (List.replicate N false, [])) := Lib.hid (by
    have e1 := heap_alloc_new w1 (.cells #[.slice (some ⟨w.heap.size, 0, none⟩) N N] 25)
    have hz : (w1.alloc (.cells #[.slice (some ⟨w.heap.size, 0, none⟩) N N] 25)).heap.size = w1.heap.size + 1 := by simp
    have e2 := heap_alloc_new (w1.alloc (.cells #[.slice (some ⟨w.heap.size, 0, none⟩) N N] 25)) (.cells #[.slice none 0 0] 28)
    rw [hz] at e2
    exact ⟨(heap_alloc_old' _ _ (by omega)).trans e1, e2, HBR.out.next (by (repeat' (first | (with_reducible exact Below.refl _ _) | (with_reducible assumption) | (with_reducible refine Below.setCell ?_ ?_ _) | (with_reducible refine Below.alloc ?_ ?_ _) | (with_reducible refine Below.drew ?_) | (with_reducible refine below_drewN ?_ _) | (with_reducible refine below_next ?_ (by with_reducible assumption)) | omega | (dsimp only; omega) | (simp only [World.size_alloc, World.size_setCell, World.size_drew, World.heap_drewN]; omega)))), by simp, (OwnL.nil _ _ _ _ _).queue, by omega, by omega, Nat.le_refl _, by omega, by omega, by omega, by simp [Value.ownBlock], by simp [Value.ownBlock], by simp [Value.ownBlock]⟩)
  have hbw3 : Below w.heap.size w ((w1.alloc (.cells #[.slice (some ⟨w.heap.size, 0, none⟩) N N] 25)).alloc (.cells #[.slice none 0 0] 28)) := (hbw1.alloc (by omega) _).alloc (by simp; omega) _
  clear HBR
  go_loopw [15] (fun i wr => ∃ (j : Nat) (vq : Value) (st : Sol.StW), j ≤ N ∧ i = .int .i64 j ∧ Below w.heap.size w wr ∧ Hid (WorkS w.heap.size wr w1.heap.size (w1.heap.size + 1) w.heap.size N vq st) ∧ Hid (Sol.QInv N st) ∧ Hid ((Sol.downTo N j).foldl Sol.addW (List.replicate N false, []) = st)) (fun i _ => N - (intOf i).toNat)
  case atStart => exact ⟨0, _, _, by omega, rfl, hbw3, HW0, Lib.hid (Sol.QInv.start N), Lib.hid rfl⟩
  case round =>
    clear hbw3 HW0
    obtain ⟨j, vq, st, hj, rfl, hXb, HWS, HQ, HFS⟩ := hrel
    have hXz := hXb.size
    by_cases hlt : j < N
    · have hkk : (N : Int) - 1 - j = ((N - 1 - j : Nat) : Int) := by omega
      have hkN : N - 1 - j < N := by omega
      obtain ⟨kN, hkn⟩ : ∃ kN, kN = N - 1 - j := ⟨_, rfl⟩
      rw [← hkn] at hkk hkN
      have HAD := Lib.hid (addW_any w.heap.size w1.heap.size (w1.heap.size + 1) w.heap.size N kN vq st wr HWS.out hkN hN (by have := HQ.out.len; omega) hXz)
      have HQ2 := Lib.hid (HQ.out.add (k := (kN : Int)) (by unfold Sol.InR; omega)).1
      have HF2 : Hid ((Sol.downTo N (j + 1)).foldl Sol.addW (List.replicate N false, []) = Sol.addW st kN) := Lib.hid (by
        unfold Sol.downTo
        rw [List.range_succ, List.map_append, List.foldl_append]
        have h := HFS.out
        unfold Sol.downTo at h
        rw [h, List.map_cons, List.map_nil, List.foldl_cons, List.foldl_nil, hkk])
      have HKK := Lib.hid hkk
      clear hkn hkk
      go_wp2_with (go_at_call 45; rw [HKK.out]; (with_reducible refine HAD.out.mono ?_); rintro e w7 ⟨rfl, ⟨vq7, hws7, _⟩, hb7⟩; have HW7 := Lib.hid hws7; clear hws7)
      have hbw7 : Below w.heap.size w w7 := hXb.trans hb7
      go_roundw
      case rel => exact ⟨j + 1, vq7, _, by omega, by go_num, hbw7, HW7, HQ2, HF2⟩
      case measure => simp [intOf]; omega
    · obtain rfl : j = N := by omega
      obtain ⟨ha1, ha2⟩ := Sol.QInv.all j
      rw [HFS.out] at ha1 ha2
      have HWI : Hid (Sol.WInv j I closed s0 st) := Lib.hid ⟨HI.out, ha1, fun k hk hn => absurd (ha2 k hk) hn⟩
      have HR0 : Hid (Rep s0 wr) := Lib.hid (HREP.out s0 w wr hXb H0.out)
      have hbb : Below base w wr := hXb.mono hbase
      have hwl : w.heap.size < wr.heap.size := by have := HWS.out.lt; omega
      clear ha1 ha2 HFS HQ hXb hXz
      go_wp2
      go_loopg [8] (Sol.msrW j room s0 st.2 + 1) (fun gk v8 wr => ∃ (s : σ) (vq : Value) (st : Sol.StW), Below base w wr ∧ w.heap.size < wr.heap.size ∧ Hid (WorkS w.heap.size wr w1.heap.size (w1.heap.size + 1) w.heap.size j vq st) ∧ Hid (Sol.WInv j I closed s st) ∧ Hid (Rep s wr) ∧ Hid (Sol.msrW j room s st.2 < gk))
      case atStart => exact ⟨s0, vq, st, hbb, hwl, HWS, HWI, HR0, Lib.hid (by omega)⟩
      case round =>
        clear hbb hwl HWS HWI HR0
        obtain ⟨s, vq, st, hXb, hXl, HWS, HWI, HRS, HMS⟩ := hrel
        have hXz := hXb.size
        obtain ⟨wt, ql⟩ := st
        obtain ⟨A0, c0, rfl, _⟩ := HWS.out.q
        have r2 := (cells_of_block HWS.out.box2).1 0
        have rf2 := (cells_of_block HWS.out.box2).2
        have r1 := (cells_of_block HWS.out.box1).1 0
        simp at r1 r2
        obtain ⟨l1, l2, l3⟩ := HWS.out.lt
        cases ql with
        | nil =>
          have HC : Hid (∀ k, Sol.InR j k → closed s k) := Lib.hid fun k hk => HWI.out.shut k hk (by simp)
          simp only [List.length_nil] at *
          go_wp2
          refine bodyPost_end (v := .tuple #[]) (by simp [results, Try.results36]) rfl ?_
          exact ⟨rfl, s, HRS.out, HWI.out.inv, HC.out, hXb⟩
        | cons i0 q =>
          have hir := HWI.out.q.inr i0 (by simp)
          have hir0 := hir
          unfold Sol.InR at hir
          obtain ⟨iN, rfl⟩ : ∃ k : Nat, i0 = (k : Int) := ⟨i0.toNat, by omega⟩
          have hiN : iN < j := by omega
          obtain ⟨b3, off3, e3, _, hb3, p3⟩ := HWS.out.q.rdl.intAt (k := 0) (y := (iN : Int)) rfl
          rw [Nat.add_zero] at p3
          obtain ⟨hlc, hcm⟩ : q.length + 1 ≤ c0 ∧ c0 ≤ 9223372036854775807 := by
            have := HWS.out.q.rdl.lenEq
            simp at this
            exact this
          obtain ⟨A1, hA1e⟩ : ∃ A1, A1 = fromA A0 c0 1 1 := ⟨_, rfl⟩
          have hqt := OwnQ.tail HWS.out.q
          rw [← hA1e] at hqt
          simp only [List.length_cons, Nat.add_sub_cancel] at hqt
          have hsl := fun W => (run_sliceAt_slice (P := Try.prog) (w := W) 28 (.slice A0 (q.length + 1) c0) (some (.int .i64 1)) none none rfl).trans (run_slice_from (P := Try.prog) (T := 28) (e := 3) (sz := 1) rfl (by kernel_rfl) A0 (q.length + 1) c0 1 (by omega) hlc W)
          rw [← hA1e] at hsl
          simp only [Nat.add_sub_cancel] at hsl
          have hob : (Value.slice A1 q.length (c0 - 1)).ownBlock = (Value.slice A0 (q.length + 1) c0).ownBlock := by
            rw [hA1e, e3]
            unfold fromA
            by_cases hc : c0 = 1
            · rw [if_pos hc]; rfl
            · rw [if_neg hc]; simp [add_at, Value.ownBlock]
          have hT1 := HWS.out.turn (grown_refl _ _) hqt (.inr (.inl hob))
          have hT2 := hT1.mark iN false
          have HT2 := Lib.hid hT2
          clear hqt hob hT1 hT2 hA1e hir
          simp only [List.length_cons] at *
          subst e3
          have hbw2 : Below base w ((wr.setCell ⟨w1.heap.size + 1, 0, none⟩ (.slice A1 q.length (c0 - 1))).setCell ⟨w.heap.size, iN, none⟩ (.bool false)) := (hXb.setCell (show base ≤ w1.heap.size + 1 by have := HWS.out.ne.2.1; omega) _).setCell hbase _
          have HR2 : Hid (Rep s ((wr.setCell ⟨w1.heap.size + 1, 0, none⟩ (.slice A1 q.length (c0 - 1))).setCell ⟨w.heap.size, iN, none⟩ (.bool false))) := Lib.hid (HREP.out s wr _ (by refine ((Below.refl _ _).setCell ?_ _).setCell ?_ _ <;> (dsimp only; omega)) HRS.out)
          have HLK := Lib.hid (HL.out s iN _ HWI.out.inv hiN HR2.out (by simp only [World.setCell, Array.size_modify]; omega))
          have hm1 := HWS.out.row.at_ (i := iN) (by show iN < wt.length; have : wt.length = j := HWS.out.len; omega)
          obtain ⟨m1, m2⟩ := hm1
          go_wp2
          obtain ⟨W2, hW2⟩ : ∃ W2, W2 = (wr.setCell ⟨w1.heap.size + 1, 0, none⟩ (.slice A1 q.length (c0 - 1))).setCell ⟨w.heap.size, iN, none⟩ (.bool false) := ⟨_, rfl⟩
          have hz2 : W2.heap.size = wr.heap.size := by rw [hW2]; simp [World.setCell]
          obtain ⟨r, hr⟩ : ∃ r, r = look s (iN : Int) := ⟨_, rfl⟩
          have hin2 := HK.out.inv s (iN : Int) HWI.out.inv hir0
          have hrd := Sol.WInv.round HK.out HWI.out
          have hpop := HWI.out.q.pop
          rw [Int.toNat_natCast] at hrd hpop
          refine HLK.out.mono ?_
          rw [← hW2] at HT2 hbw2 ⊢
          rw [← hr] at hin2 hrd ⊢
          obtain ⟨s2, ks⟩ := r
          rintro e w4 ⟨A4, c4, rfl, how4, hrep4, hb4, hkp4⟩
          dsimp only at how4 hrep4 hin2 hrd ⊢
          have HW4 := Lib.hid (HT2.out.keep hkp4)
          have HO4 := Lib.hid how4
          have HR4 := Lib.hid hrep4
          have HI2 := Lib.hid hin2
          have HRD := Lib.hid hrd
          have HPOP := Lib.hid hpop
          have hXb4 : Below base w w4 := hbw2.trans hb4
          have hz4 := hb4.size
          have hz0 := hXb4.size
          obtain ⟨z1, z2, z3⟩ := HT2.out.lt
          have HT2 := Lib.hid HT2.out
          clear hW2 hr hin2 hrd hpop how4 hrep4 hb4 hkp4 hbw2 HLK HR2 m1 m2 hsl p3 hb3
          have HK0 : Hid (∀ b, W2.heap.size ≤ b → b < w4.heap.size → w4.heap[b]? = w4.heap[b]? ∧ (Value.slice A1 q.length (c0 - 1)).ownBlock ≠ some b) := Lib.hid fun b hb _ => ⟨rfl, fun e => by have := (HT2.out.q.lt e).2; omega⟩
          have hkl : ks.length ≤ 9223372036854775807 := by
            obtain ⟨_, h1, h2⟩ := (HO4.out.rdl intC_len).lenEq
            omega
          clear HT2
          go_wp2
          go_loopw [40] (fun i wr5 => ∃ (jj : Nat) (v5 : Value) (st5 : Sol.StW), jj ≤ ks.length ∧ i = .int .i64 jj ∧ Below w.heap.size w4 wr5 ∧ Hid (WorkS w.heap.size wr5 w1.heap.size (w1.heap.size + 1) w.heap.size j v5 st5) ∧ Hid (Sol.QInv j st5) ∧ Hid ((ks.take jj).foldl Sol.addW (wt.set iN false, q) = st5) ∧ Hid (∀ b, W2.heap.size ≤ b → b < w4.heap.size → wr5.heap[b]? = w4.heap[b]? ∧ v5.ownBlock ≠ some b)) (fun i _ => ks.length - (intOf i).toNat)
          case atStart => exact ⟨0, _, _, by omega, rfl, Below.refl _ _, HW4, HPOP, Lib.hid (by simp), Lib.hid fun b h1 h2 => ⟨rfl, (HK0.out b h1 h2).2⟩⟩
          case round =>
            clear HW4 HPOP HK0 r1 r2 rf2 hXb hXl hXz
            obtain ⟨jj, v5, st5, hj5, rfl, hXb5, HWS5, HQ5, HF5, HKK5⟩ := hrel
            have hX5z := hXb5.size
            by_cases hlt5 : jj < ks.length
            · obtain ⟨x, hx⟩ : ∃ x, ks[jj]? = some x := ⟨_, List.getElem?_eq_getElem hlt5⟩
              have hxr := HI2.out.2 x (List.mem_of_getElem? hx)
              unfold Sol.InR at hxr
              obtain ⟨xN, rfl⟩ : ∃ k : Nat, x = (k : Int) := ⟨x.toNat, by omega⟩
              have hO5 := HO4.out.keep (w' := wr) (fun b hb => (HKK5.out b (HO4.out.lt hb).1 (HO4.out.lt hb).2).1)
              obtain ⟨b5, off5, e5, _, hb5, p5⟩ := (hO5.rdl intC_len).intAt hx
              have HAD := Lib.hid (addW_any w.heap.size w1.heap.size (w1.heap.size + 1) w.heap.size j xN v5 st5 wr HWS5.out (by omega) hN (by have := HQ5.out.len; omega) (by omega))
              have HQ6 := Lib.hid (HQ5.out.add (k := (xN : Int)) (by unfold Sol.InR; omega)).1
              have HF6 : Hid ((ks.take (jj + 1)).foldl Sol.addW (wt.set iN false, q) = Sol.addW st5 xN) := Lib.hid (by rw [List.take_add_one, hx, List.foldl_append, HF5.out]; rfl)
              subst e5
              clear hx hxr hO5
              go_wp2_with (go_at_call 45; (with_reducible refine HAD.out.mono ?_); rintro e w7 ⟨rfl, ⟨v7, hws7, hkk7⟩, hb7⟩; have HW7 := Lib.hid hws7; have HK7 := Lib.hid hkk7; clear hws7 hkk7)
              have HK8 : Hid (∀ b, W2.heap.size ≤ b → b < w4.heap.size → w7.heap[b]? = w4.heap[b]? ∧ v7.ownBlock ≠ some b) := Lib.hid fun b h1 h2 => by
                obtain ⟨k1, k2⟩ := HKK5.out b h1 h2
                obtain ⟨k3, k4⟩ := HK7.out b (by omega) (by omega) (by omega) k2
                exact ⟨k3.trans k1, k4⟩
              have hXb7 := hXb5.trans hb7
              go_roundw
              case rel => exact ⟨jj + 1, v7, _, by omega, by go_num, hXb7, HW7, HQ6, HF6, HK8⟩
              case measure => simp [intOf]; omega
            · obtain rfl : jj = ks.length := by omega
              have hf := HF5.out
              rw [List.take_length] at hf
              obtain ⟨hwi, hms⟩ := HRD.out
              rw [hf] at hwi hms
              have HWI5 := Lib.hid hwi
              have HMS5 : Hid (Sol.msrW j room s2 st5.2 < gk - 1) := Lib.hid (by have := HMS.out; omega)
              have HR5 := Lib.hid (HREP.out s2 w4 wr hXb5 HR4.out)
              have hXb6 : Below base w wr := hXb4.trans (hXb5.mono hbase)
              have hgk : gk - 1 < gk := by have := HMS.out; omega
              clear hf hwi hms
              go_wp2
              go_roundg (gk - 1)
              case measure => exact hgk
              case rel => exact ⟨s2, v5, st5, hXb6, by omega, HWS5, HWI5, HR5, HMS5⟩
end Go.Proofs.Ytadcjmfednachaa

namespace Go.Proofs.Ytadcjmfednachaa
open Go.RowKit Go.Maps
set_option linter.unusedVariables false
set_option linter.unusedSimpArgs false

theorem passL_congr {b1 b2 c xs : List Int} (h : ∀ x, x ∈ b1 ↔ x ∈ b2) : Sol.passL b1 c xs = Sol.passL b2 c xs := by
  unfold Sol.passL
  congr 1
  funext c x
  simp [h]
/-- The sets lie in blocks that were there; those alone are turned. -/
structure InS (base : Nat) (w W : World) (bi : Nat) (os : List (Option Nat)) (a : List (List Int)) : Prop where
  v : SetV base W bi os a
  low : ∀ (i q : Nat), os[i]? = some (some q) → q < w.heap.size
  blo : bi < w.heap.size
  same : ∀ b : Nat, b < w.heap.size → (∀ i : Nat, os[i]? ≠ some (some b)) → W.heap[b]? = w.heap[b]?
  bel : Below base w W
section
variable {base base2 bi bb p N : Nat} {w W W' : World} {os osb : List (Option Nat)} {a ab : List (List Int)}
theorem InS.start (h : SetV base w bi os a) : InS base w w bi os a := ⟨h, fun i q hq => (h.rowLt hq).1, h.lt, fun _ _ _ => rfl, Below.refl _ _⟩
theorem InS.next (h : InS base w W bi os a) (hbase : base ≤ w.heap.size) (hb : Below w.heap.size W W') : InS base w W' bi os a :=
  ⟨h.v.keepF (hb.block bi h.blo) fun i q hq => hb.block q (h.low i q hq), h.low, h.blo, fun b hlt hn => (hb.block b hlt).trans (h.same b hlt hn), h.bel.trans (hb.mono hbase)⟩
theorem InS.turn (h : InS base w W bi os a) (hbase : base ≤ w.heap.size) {i q : Nat} {l' : List Int} (hq : os[i]? = some (some q)) (hg : W.grownBy W' (some q)) (hm : MapL Try.prog 3 W' q l') : InS base w W' bi os (a.set i l') := by
  have hz := h.bel.size
  have hr := h.v.rowLt hq
  refine ⟨h.v.turn hq hg hm, h.low, h.blo, fun b hlt hn => (hg.block b (by omega) fun e => ?_).trans (h.same b hlt hn), h.bel.trans ((Below.refl _ _).grown hg (by omega) fun k hk => ?_)⟩
  · injection e with e
    exact hn i (e ▸ hq)
  · injection hk with hk
    omega
/-- Other sets, made later, are as they were. -/
theorem InS.other (h : InS base w W bi os a) (hb : SetV base2 w bb osb ab) (hos : ∀ (i q : Nat), os[i]? = some (some q) → q < base2) : SetV base2 W bb osb ab :=
  hb.keepF (h.same bb hb.lt fun i e => by have := hos i bb e; have := hb.low; omega) fun i q hq => h.same q (hb.rowLt hq).1 fun j e => by have := hos j q e; have := (hb.rowLt hq).2.1; omega
theorem InS.cell (h : InS base w W bi os a) {x : Value} {T : TypeId} (hp : w.heap[p]? = some (.cells #[x] T (0, 0))) (hne : ∀ (i q : Nat), os[i]? = some (some q) → q ≠ p) : W.cell? ⟨p, 0, none⟩ = some x := by
  have hlt := (Array.getElem?_eq_some_iff.1 hp).1
  rw [Lib.cell_of_heap ((h.same p hlt fun i e => hne i p e rfl).trans hp)]
  rfl
theorem InS.at_ (h : InS base w W bi os a) (hf : Full os N) (hN : a.length = N) {i : Nat} (hi : i < N) : ∃ q, os[i]? = some (some q) ∧ MapL Try.prog 3 W q (a.getD i []) ∧ base ≤ q ∧ q < w.heap.size ∧ W.cell? ⟨bi, i, none⟩ = some (.map (some q)) := by
  obtain ⟨q, hq⟩ := hf i hi
  have hr := h.v.rowLt hq
  have hl : a[i]? = some (a.getD i []) := by rw [List.getD_eq_getElem?_getD, List.getElem?_eq_getElem (by omega)]; rfl
  have h1 := (h.v.row i _ _ hq hl).1
  refine ⟨q, hq, ?_, hr.2.1, h.low i q hq, (h.v.cell hq).1⟩
  rcases h1 with ⟨e, _⟩ | ⟨b, e, h1⟩
  · cases e
  · injection e with e; rw [e]; exact h1
theorem SetV.at_ (h : SetV base2 W bb osb ab) (hf : Full osb N) (hN : ab.length = N) {i : Nat} (hi : i < N) : ∃ o, osb[i]? = some o ∧ MapN W o (ab.getD i []) ∧ (∀ q, o = some q → base2 ≤ q) ∧ W.cell? ⟨bb, i, none⟩ = some (.map o) := by
  obtain ⟨q, hq⟩ := hf i hi
  have hl : ab[i]? = some (ab.getD i []) := by rw [List.getD_eq_getElem?_getD, List.getElem?_eq_getElem (by omega)]; rfl
  refine ⟨some q, hq, (h.row i _ _ hq hl).1, fun q' e => ?_, (h.cell hq).1⟩
  exact ((h.row i _ _ hq hl).2 q' e).1
end
theorem mem_setsOf {N : Nat} {m : List (List Int)} {i : Nat} (hi : i < N) (x : Int) : x ∈ (setsOf N m).getD i [] ↔ x ∈ Sol.rowI m i := by
  unfold setsOf
  rw [List.getD_eq_getElem?_getD, List.getElem?_map, List.getElem?_range hi, Option.map_some, Option.getD_some, Sol.mem_passL]
  simp
/-- pass, of a set into any. -/
theorem pass_go (b bf : Nat) (o : Option Nat) (l lf lb : List Int) (w : World) (h : MapL Try.prog 3 w b l) (hf : MapL Try.prog 3 w bf lf) (hb : MapN w o lb) (he : bf = b → lf = l) (hno : o ≠ some b) (hl : l.length ≤ 1048576) (hf20 : lf.length ≤ 1048576) :
    Calls Try.prog 38 #[.map (some b), .map (some bf), .map o] w (SetP w b (Sol.passL lb l lf) (decide (l.length < (Sol.passL lb l lf).length))) := by
  by_cases hne : bf = b
  · have e := he hne
    subst hne e
    exact pass_self bf o lf lb w hf hb hl
  · exact pass_any b bf o l lf lb w h hf hb hne hno hl hf20
end Go.Proofs.Ytadcjmfednachaa
