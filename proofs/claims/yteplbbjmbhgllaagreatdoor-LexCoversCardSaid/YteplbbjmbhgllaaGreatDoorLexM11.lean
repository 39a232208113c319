/-
  Words for slices that read as rows of cells, and an append whose source is nil, empty or not (after the plain theorems that the guide offers for copying). No program in sight.
  A slice of the call's own that holds a list of whatever is laid out in a fixed number of cells; an append to it. No program in sight.
  A slice of bytes of the call's own: what is appended to it, and the string that is made of it.
  The reference's quoted: a character's or string's token.
-/
import Derived.Below
import Derived.Laws.OwnMore
import Derived.Deep.AppendLies
import Derived.Deep.Draws
import Derived.Laws.Rows
import Derived.Maps.AppendAt
import Derived.RegionTactic
import Derived.OwnWalk
import Derived.Test.YteplbbjmbhgllaaGreatDoorLexM10
import Derived.Lib.AppendStr
import Derived.Laws.BytesArg
import Derived.Laws.IdiomStrings
import Derived.Lib.RuneCountTail
import Derived.Lib.RuneBytes
namespace Go.Proofs.YteplbbjmbhgllaaGreatDoor
open Go.RowKit
set_option linter.unusedVariables false
set_option linter.unusedSimpArgs false

theorem block_of_add (a : Addr) (n : Nat) : (a.add n).block = a.block := by unfold Addr.add; split <;> rfl
theorem add_of_add (a : Addr) (i j : Nat) : (a.add i).add j = a.add (i + j) := by
  unfold Addr.add
  by_cases hi : i = 0 <;> by_cases hj : j = 0 <;> simp [hi, hj, Nat.add_assoc]

def Reads (w : World) (B size : Nat) (A : Option Addr) (n : Nat) (xs : List Value) : Prop :=
  xs.length = n * size ∧ (0 < n → ∃ ad, A = some ad ∧ ad.block < B ∧ ∀ j u, xs[j]? = some u → w.cell? (ad.add j) = some u)

section
variable {w w' : World} {B B' size n : Nat} {A : Option Addr} {xs : List Value}
theorem Reads.none_ : Reads w B size A 0 [] := ⟨by simp, fun h => absurd h (by omega)⟩
theorem Reads.at_ {k : Nat} (h : Reads w B 1 A n xs) (hk : k < n) : ∃ ad u, A = some ad ∧ ad.block < B ∧ xs[k]? = some u ∧ w.cell? (ad.add k) = some u := by
  obtain ⟨ad, e, hb, hc⟩ := h.2 (by omega)
  have hl : k < xs.length := by have := h.1; omega
  exact ⟨ad, xs[k], e, hb, List.getElem?_eq_getElem hl, hc k _ (List.getElem?_eq_getElem hl)⟩
theorem Reads.keep (h : Reads w B size A n xs) (hk : ∀ p : Addr, p.block < B → w'.cell? p = w.cell? p) : Reads w' B size A n xs :=
  ⟨h.1, fun hn => by
    obtain ⟨ad, e, hb, hc⟩ := h.2 hn
    exact ⟨ad, e, hb, fun j u hu => (hk _ (by rw [block_of_add]; exact hb)).trans (hc j u hu)⟩⟩
theorem Reads.more (h : Reads w B size A n xs) (hB : B ≤ B') : Reads w B' size A n xs :=
  ⟨h.1, fun hn => by
    obtain ⟨ad, e, hb, hc⟩ := h.2 hn
    exact ⟨ad, e, by omega, hc⟩⟩
theorem Reads.below (h : Reads w B size A n xs) (hb : Below B w w') : Reads w' B size A n xs := h.keep fun _ hp => hb.cell hp
theorem Reads.drew (h : Reads w B size A n xs) : Reads w.drew B size A n xs := h
theorem Reads.drewN (h : Reads w B size A n xs) (k : Nat) : Reads (w.drewN k) B size A n xs := h
theorem Reads.alloc (h : Reads w B size A n xs) (hB : B ≤ w.heap.size) (o : Obj) : Reads (w.alloc o) B size A n xs := h.keep fun p hp => World.cell?_alloc_lt w o p (by omega)
theorem Reads.setCell (h : Reads w B size A n xs) {p : Addr} (hB : B ≤ p.block) (u : Value) : Reads (w.setCell p u) B size A n xs :=
  h.keep fun q hq => World.cell?_setCell_other w p q u (fun e => by subst e; omega)
theorem Reads.grown (h : Reads w B size A n xs) {row : Option Nat} (hg : w.grownBy w' row) (hB : B ≤ w.heap.size) (hr : ∀ g, row = some g → B ≤ g) : Reads w' B size A n xs :=
  h.keep fun p hp => World.cell?_of_block (hg.block p.block (by omega) (fun e => by have := hr _ e.symm; omega))
theorem Reads.cut (h : Reads w B size A n xs) {k cap : Nat} (hk : k ≤ n) (hc : n ≤ cap) :
    Reads w B size (if cap = k then A else A.map (·.add (k * size))) (n - k) (xs.drop (k * size)) := by
  refine ⟨by rw [List.length_drop, h.1, Nat.sub_mul], fun hn => ?_⟩
  obtain ⟨ad, rfl, hb, hcell⟩ := h.2 (by omega)
  rw [if_neg (by omega)]
  refine ⟨ad.add (k * size), rfl, by rw [block_of_add]; exact hb, fun j u hu => ?_⟩
  rw [add_of_add]
  exact hcell _ u (by rw [← hu, List.getElem?_drop])
theorem Reads.of_own {base : Nat} {e : TypeId} {c : Nat} (h : w.ownsRow base e size (.slice A n c) n xs) : Reads w w.heap.size size A n xs := by
  refine ⟨h.1, fun hn => ?_⟩
  obtain ⟨g, cap, hv, _, hlt⟩ := h.form hn
  have hA : A = some ⟨g, 0, none⟩ := by injection hv
  subst hA
  exact ⟨_, rfl, hlt, h.cells (g := g) rfl⟩
end

section
variable {P : Program} (w : World)

theorem run_append_of_nil (base : Nat) (t ty e : TypeId) (i : TypeInfo) (size : Nat) (ht : P.underlying t = some (.slice e)) (hi : P.info? e = some i)
    (v : Value) (n : Nat) (xs : List Value) (hown : w.ownsRow base e size v n xs) (c : Nat) : (Builtin.append_ #[t, t] ty #[v, .slice none 0 c]).run P w = .ok v w := by
  rcases hown.2 with ⟨rfl, rfl⟩ | ⟨g, cap, cur, rfl, _, _, hnc, _⟩
  · simp [Builtin.append_, run_underlying ht, sizeOf, typeInfo, hi, Builtin.lenOf, Builtin.firstCells]
  · simp [Builtin.append_, run_underlying ht, sizeOf, typeInfo, hi, Builtin.lenOf, Builtin.firstCells, hnc, storeCells]

theorem run_append_any (base : Nat) (t ty e : TypeId) (i : TypeInfo) (z : Value) (size bytes : Nat) (ht : P.underlying t = some (.slice e)) (hi : P.info? e = some i) (hz : i.zero = some z)
    (hsize : i.size = size) (hby : i.bytes = bytes) (hzs : z.cells.size = size) (hsz : 0 < size)
    (v : Value) (n : Nat) (xs : List Value) (hown : w.ownsRow base e size v n xs)
    (B : Nat) (A : Option Addr) (m c : Nat) (news : List Value) (hr : Reads w B size A m news) (h1 : ∀ u ∈ news, u.oneCell' = true)
    (h63 : n + m ≤ maxLen) (hbytes : (n + m) * bytes ≤ 140737488355328) (hbase : base ≤ w.heap.size) :
    ∃ v' w', (Builtin.append_ #[t, t] ty #[v, .slice A m c]).run P w = .ok v' w' ∧ w'.ownsRow base e size v' (n + m) (xs ++ news) ∧ w.grownBy w' v.ownBlock ∧
      (v'.ownBlock = v.ownBlock ∨ v'.ownBlock = some w.heap.size) := by
  rcases A with _ | ad
  · have hm : m = 0 := by
      rcases Nat.eq_zero_or_pos m with h0 | h0
      · exact h0
      · obtain ⟨ad, h, _⟩ := hr.2 h0
        cases h
    subst hm
    have hn : news = [] := List.eq_nil_of_length_eq_zero (by simpa using hr.1)
    subst hn
    exact ⟨v, w, run_append_of_nil w base t ty e i size ht hi v n xs hown c, by simpa using hown, World.grownBy.refl w _, .inl rfl⟩
  · have hcells : ∀ j u, news[j]? = some u → w.cell? (ad.add j) = some u := by
      intro j u hu
      rcases Nat.eq_zero_or_pos m with h0 | h0
      · subst h0
        have hn : news = [] := List.eq_nil_of_length_eq_zero (by simpa using hr.1)
        subst hn
        simp at hu
      · obtain ⟨ad', h, _, hc⟩ := hr.2 h0
        injection h with h
        subst h
        exact hc j u hu
    obtain ⟨v', w', hrun, h2, h3, _, h5⟩ := run_append_own_at (P := P) w base t ty e i z size bytes ht hi hz hsize hby hzs hsz v n xs hown ad m c news hr.1 hcells h1 h63 hbytes hbase
    exact ⟨v', w', hrun, h2, h3, h5⟩

theorem wp_append_any {o : Oper} {a : Act} {K : Act → World → Prop} {Q : Exit → Act → World → Prop} (s x : Operand) (t : TypeId)
    (ho : o.op = .call { callee := .builtin .append, args := #[s, x], argTypes := #[t, t] })
    (base : Nat) (e : TypeId) (i : TypeInfo) (z : Value) (size bytes : Nat) (ht : P.underlying t = some (.slice e)) (hi : P.info? e = some i) (hz : i.zero = some z)
    (hsize : i.size = size) (hby : i.bytes = bytes) (hzs : z.cells.size = size) (hsz : 0 < size)
    (v : Value) (n : Nat) (xs : List Value) (hs : a.eval s = v) (hown : w.ownsRow base e size v n xs)
    (B : Nat) (A : Option Addr) (m c : Nat) (news : List Value) (hx : a.eval x = .slice A m c) (hr : Reads w B size A m news) (h1 : ∀ u ∈ news, u.oneCell' = true)
    (h63 : n + m ≤ maxLen) (hbytes : (n + m) * bytes ≤ 140737488355328) (hbase : base ≤ w.heap.size)
    (h : ∀ v' w', w'.ownsRow base e size v' (n + m) (xs ++ news) → w.grownBy w' v.ownBlock → (v'.ownBlock = v.ownBlock ∨ v'.ownBlock = some w.heap.size) → K (a.put o.dst v') w') : o.wp P a w K Q := by
  obtain ⟨v', w', hrun, h2, h3, h4⟩ := run_append_any (P := P) w base t o.type e i z size bytes ht hi hz hsize hby hzs hsz v n xs hown B A m c news hr h1 h63 hbytes hbase
  unfold Oper.wp execOp
  simp only [ho, resolve, invoke, builtin, Sem.run_bind, Sem.run_pure, Result.andThen_ok, List.map_toArray, List.map_cons, List.map_nil, hs, hx, hrun]
  exact h v' w' h2 h3 h4

theorem wpList_append_any {ops : Array Oper} {rest : List Oper} {o : Oper} {a : Act} {Q : Exit → Act → World → Prop} (hgd : o.guard = none) (s x : Operand) (t : TypeId)
    (ho : o.op = .call { callee := .builtin .append, args := #[s, x], argTypes := #[t, t] })
    (base : Nat) (e : TypeId) (i : TypeInfo) (z : Value) (size bytes : Nat) (ht : P.underlying t = some (.slice e)) (hi : P.info? e = some i) (hz : i.zero = some z)
    (hsize : i.size = size) (hby : i.bytes = bytes) (hzs : z.cells.size = size) (hsz : 0 < size)
    (v : Value) (n : Nat) (xs : List Value) (hs : a.eval s = v) (hown : w.ownsRow base e size v n xs)
    (B : Nat) (A : Option Addr) (m c : Nat) (news : List Value) (hx : a.eval x = .slice A m c) (hr : Reads w B size A m news) (h1 : ∀ u ∈ news, u.oneCell' = true)
    (h63 : n + m ≤ maxLen) (hbytes : (n + m) * bytes ≤ 140737488355328) (hbase : base ≤ w.heap.size)
    (h : ∀ v' w', w'.ownsRow base e size v' (n + m) (xs ++ news) → w.grownBy w' v.ownBlock → (v'.ownBlock = v.ownBlock ∨ v'.ownBlock = some w.heap.size) → wpList P ops Q rest (a.put o.dst v') w') : wpList P ops Q (o :: rest) a w :=
  wpList_plain hgd fun _ hK => wp_append_any w s x t ho base e i z size bytes ht hi hz hsize hby hzs hsz v n xs hs hown B A m c news hx hr h1 h63 hbytes hbase fun v' w' h2 h3 h4 => hK _ _ (h v' w' h2 h3 h4)

theorem step_append_any {ops : Array Oper} {o : Oper} {a : Act} {K : Act → World → Prop} {Q : Exit → Act → World → Prop} {E : Prop} (hgd : o.guard = none) (s x : Operand) (t : TypeId)
    (ho : o.op = .call { callee := .builtin .append, args := #[s, x], argTypes := #[t, t] })
    (base : Nat) (e : TypeId) (i : TypeInfo) (z : Value) (size bytes : Nat) (ht : P.underlying t = some (.slice e)) (hi : P.info? e = some i) (hz : i.zero = some z)
    (hsize : i.size = size) (hby : i.bytes = bytes) (hzs : z.cells.size = size) (hsz : 0 < size)
    (v : Value) (n : Nat) (xs : List Value) (hs : a.eval s = v) (hown : w.ownsRow base e size v n xs)
    (B : Nat) (A : Option Addr) (m c : Nat) (news : List Value) (hx : a.eval x = .slice A m c) (hr : Reads w B size A m news) (h1 : ∀ u ∈ news, u.oneCell' = true)
    (h63 : n + m ≤ maxLen) (hbytes : (n + m) * bytes ≤ 140737488355328) (hbase : base ≤ w.heap.size)
    (h : ∀ v' w', w'.ownsRow base e size v' (n + m) (xs ++ news) → w.grownBy w' v.ownBlock → (v'.ownBlock = v.ownBlock ∨ v'.ownBlock = some w.heap.size) → K (a.put o.dst v') w') :
    if Region.wanted o (yielded ops a.tmps) = true then Oper.wp P o a w K Q else E := by
  have hw : Region.wanted o (yielded ops a.tmps) = true := by simp [Region.wanted, hgd]
  rw [if_pos hw]
  exact wp_append_any w s x t ho base e i z size bytes ht hi hz hsize hby hzs hsz v n xs hs hown B A m c news hx hr h1 h63 hbytes hbase h
end

/-- A slice that reads as a list, as a row of cells. -/
theorem RdL.reads {α : Type} {f : α → List Value} {sz : Nat} {w : World} {A : Option Addr} {n c : Nat} {l : List α} (h : RdL f sz w (.slice A n c) l) (hf : ∀ a, (f a).length = sz) :
    n = l.length ∧ Reads w w.heap.size sz A n (l.flatMap f) := by
  obtain ⟨A', c', e, h1, h2, h3⟩ := h
  injection e with e1 e2 e3
  subst e1 e2 e3
  have hlen : ∀ l : List α, (l.flatMap f).length = l.length * sz := fun l => by
    induction l with
    | nil => simp
    | cons a l ih => simp [List.flatMap_cons, ih, hf, Nat.succ_mul, Nat.add_comm]
  refine ⟨rfl, hlen l, fun hn => ?_⟩
  obtain ⟨b, off, rfl, hlt, hc⟩ := h3 hn
  refine ⟨⟨b, off, none⟩, rfl, hlt, fun j u hu => ?_⟩
  have key : ∀ (l : List α) (j : Nat) (u : Value), (l.flatMap f)[j]? = some u → ∃ k a i, l[k]? = some a ∧ (f a)[i]? = some u ∧ j = k * sz + i := by
    intro l
    induction l with
    | nil => intro j u hu; simp at hu
    | cons a l ih =>
      intro j u hu
      rw [List.flatMap_cons] at hu
      by_cases hj : j < (f a).length
      · rw [List.getElem?_append_left hj] at hu
        exact ⟨0, a, j, rfl, hu, by omega⟩
      · rw [List.getElem?_append_right (by omega)] at hu
        obtain ⟨k, b, i, h1, h2, h3⟩ := ih _ _ hu
        refine ⟨k + 1, b, i, by simpa using h1, h2, ?_⟩
        rw [hf a] at h3 hj
        rw [Nat.succ_mul]; omega
  obtain ⟨k, a, i, h1, h2, rfl⟩ := key l j u hu
  rw [add_at, ← Nat.add_assoc]
  exact hc k a h1 i u h2

/-- What the call made itself reads as the list. -/
theorem flat_at {α : Type} {f : α → List Value} {sz : Nat} (hf : ∀ a, (f a).length = sz) : ∀ (l : List α) (k : Nat) (a : α), l[k]? = some a → ∀ (j : Nat) (v : Value), (f a)[j]? = some v → (l.flatMap f)[k * sz + j]? = some v
  | [], k, a, h, _, _, _ => by simp at h
  | b :: l, 0, a, h, j, v, hv => by
    simp at h; subst h
    have hj : j < (f b).length := by
      rcases Nat.lt_or_ge j (f b).length with h1 | h1
      · exact h1
      · rw [List.getElem?_eq_none h1] at hv; cases hv
    rw [List.flatMap_cons, Nat.zero_mul, Nat.zero_add, List.getElem?_append_left hj]; exact hv
  | b :: l, k + 1, a, h, j, v, hv => by
    rw [List.flatMap_cons, List.getElem?_append_right (by rw [hf b, Nat.succ_mul]; omega), hf b]
    have e : (k + 1) * sz + j - sz = k * sz + j := by rw [Nat.succ_mul]; omega
    rw [e]
    exact flat_at hf l k a (by simpa using h) j v hv

end Go.Proofs.YteplbbjmbhgllaaGreatDoor

namespace Go.Proofs.YteplbbjmbhgllaaGreatDoor
open Go.RowKit Go.WideShapes Go.ChangeShapes Go.Deep
set_option linter.unusedVariables false
set_option linter.unusedSimpArgs false

/-- The slice s is the call's own (blocks from base on), and holds the list l. -/
def OwnL {α : Type} (e : TypeId) (f : α → List Value) (sz : Nat) (base : Nat) (w : World) (s : Value) (l : List α) : Prop :=
  ∃ A c, s = .slice A l.length c ∧ w.ownsRow base e sz s l.length (l.flatMap f)

section
variable {α : Type} {e : TypeId} {f : α → List Value} {sz base : Nat} {w w' : World} {s : Value} {l : List α}
theorem OwnL.nil (e : TypeId) (f : α → List Value) (sz base : Nat) (w : World) : OwnL e f sz base w (.slice none 0 0) [] := ⟨none, 0, rfl, World.ownsRow_nil _ _ _ _⟩
theorem OwnL.form (h : OwnL e f sz base w s l) : ∃ A c, s = .slice A l.length c := by obtain ⟨A, c, h1, _⟩ := h; exact ⟨A, c, h1⟩
theorem OwnL.rdl (hf : ∀ a, (f a).length = sz) (h : OwnL e f sz base w s l) : RdL f sz w s l := by
  obtain ⟨A, c, rfl, h2⟩ := h
  exact RdL.of_own h2 rfl (flat_at hf l)
theorem OwnL.lt (h : OwnL e f sz base w s l) {b : Nat} (hb : s.ownBlock = some b) : base ≤ b ∧ b < w.heap.size := by
  obtain ⟨A, c, h1, h2⟩ := h
  exact World.ownsRow.lt h2 b hb
/-- Its block is as before. -/
theorem OwnL.keep (h : OwnL e f sz base w s l) (hk : ∀ b, s.ownBlock = some b → w'.heap[b]? = w.heap[b]?) : OwnL e f sz base w' s l := by
  obtain ⟨A, c, rfl, h1, h2⟩ := h
  refine ⟨A, c, rfl, h1, ?_⟩
  rcases h2 with h2 | ⟨g, cap, cur, h3, hb, hgg, rest⟩
  · exact .inl h2
  · refine .inr ⟨g, cap, cur, h3, hb, ?_, rest⟩
    rw [hk g (by rw [h3]; rfl)]
    exact hgg
theorem OwnL.next (h : OwnL e f sz base w s l) (hb : Below w.heap.size w w') : OwnL e f sz base w' s l :=
  h.keep fun b hs => hb.block b (h.lt hs).2
theorem OwnL.alloc (h : OwnL e f sz base w s l) (o : Obj) : OwnL e f sz base (w.alloc o) s l := h.next ((Below.refl _ _).alloc (Nat.le_refl _) _)
theorem OwnL.drew (h : OwnL e f sz base w s l) : OwnL e f sz base w.drew s l := h
theorem OwnL.grown {row : Option Nat} (h : OwnL e f sz base w s l) (hg : w.grownBy w' row) (hne : s.ownBlock = none ∨ s.ownBlock ≠ row) : OwnL e f sz base w' s l := by
  obtain ⟨A, c, h1, h2⟩ := h
  exact ⟨A, c, h1, h2.kept hg hne⟩
theorem OwnL.lower {b0 : Nat} (h : OwnL e f sz base w s l) (hb : b0 ≤ base) : OwnL e f sz b0 w s l := by
  obtain ⟨A, c, rfl, h1, h2⟩ := h
  refine ⟨A, c, rfl, h1, ?_⟩
  rcases h2 with h2 | ⟨g, cap, cur, h3, hb', rest⟩
  · exact .inl h2
  · exact .inr ⟨g, cap, cur, h3, Nat.le_trans hb hb', rest⟩
/-- One that was laid as a literal. -/
theorem OwnL.lit (w : World) (cs : Array Value) (l : List α) (b : Nat) (hbk : b = w.heap.size) (hb : base ≤ w.heap.size) (hm : l.length ≤ maxLen) (hs : cs.size = l.length * sz) (hc : cs.toList = l.flatMap f) :
    OwnL e f sz base (w.alloc (.cells cs e)) (.slice (some ⟨b, 0, none⟩) l.length l.length) l := by
  subst hbk
  refine ⟨_, _, rfl, ?_⟩
  rw [← hc]
  exact World.ownsRow_lit w cs l.length hb hm hs
end

/-- What lies below a number reads as before. -/
theorem lowif {B : Nat} {W w1 : World} (hb : Below B W w1) :
    (∀ b o, w1.cell? ⟨b, o, none⟩ = if b < B then W.cell? ⟨b, o, none⟩ else cellElse w1 b o) ∧
    (∀ b o, w1.frozen? ⟨b, o, none⟩ = if b < B then W.frozen? ⟨b, o, none⟩ else frozenElse w1 b o) ∧ W.heap.size ≤ w1.heap.size := by
  refine ⟨fun b o => ?_, fun b o => ?_, hb.size⟩
  · split
    · exact hb.cell (p := ⟨b, o, none⟩) ‹_›
    · rfl
  · split
    · exact hb.frozen (p := ⟨b, o, none⟩) ‹_›
    · rfl

section
variable {α : Type} {P : Program} {w : World} {ops : Array Oper} {rest : List Oper} {o : Oper} {a : Act} {Q : Exit → Act → World → Prop}
/-- What an append does to an own slice. -/
theorem wpList_app {e : TypeId} {f : α → List Value} {sz : Nat} (hgd : o.guard = none) (s x : Operand) (t : TypeId)
    (ho : o.op = .call { callee := .builtin .append, args := #[s, x], argTypes := #[t, t] })
    (base : Nat) (i : TypeInfo) (z : Value) (bytes : Nat) (ht : P.underlying t = some (.slice e)) (hi : P.info? e = some i) (hz : i.zero = some z)
    (hsize : i.size = sz) (hby : i.bytes = bytes) (hzs : z.cells.size = sz) (hsz : 0 < sz) (hf : ∀ a : α, (f a).length = sz)
    (v : Value) (l : List α) (hs : a.eval s = v) (hown : OwnL e f sz base w v l)
    (A : Option Addr) (m c : Nat) (l2 : List α) (hx : a.eval x = .slice A m c) (hr : RdL f sz w (.slice A m c) l2) (h1 : ∀ a ∈ l2, ∀ u ∈ f a, u.oneCell' = true)
    (hb0 : 0 < bytes) (hbytes : (l.length + l2.length) * bytes ≤ 140737488355328) (hbase : base ≤ w.heap.size)
    (h : ∀ A' c' w', OwnL e f sz base w' (.slice A' (l.length + l2.length) c') (l ++ l2) → w.grownBy w' v.ownBlock → Below base w w' →
      ((Value.slice A' (l.length + l2.length) c').ownBlock = v.ownBlock ∨ (Value.slice A' (l.length + l2.length) c').ownBlock = some w.heap.size) →
      wpList P ops Q rest (a.put o.dst (.slice A' (l.length + l2.length) c')) w') : wpList P ops Q (o :: rest) a w := by
  obtain ⟨A0, c0, rfl, h2⟩ := hown
  obtain ⟨rfl, hrr⟩ := hr.reads hf
  refine wpList_append_any w hgd s x t ho base e i z sz bytes ht hi hz hsize hby hzs hsz _ l.length _ hs h2 w.heap.size A _ c (l2.flatMap f) hx hrr (fun u hu => ?_) ?_ hbytes hbase ?_
  · rw [List.mem_flatMap] at hu
    obtain ⟨y, hy, hu⟩ := hu
    exact h1 y hy u hu
  · have := Nat.le_mul_of_pos_right (l.length + l2.length) hb0
    unfold maxLen
    omega
  · intro v' w' k1 k2 k3
    have hB : Below base w w' := (Below.refl _ _).grown k2 hbase (fun k hk => (World.ownsRow.lt h2 k hk).1)
    obtain ⟨A', c', rfl⟩ : ∃ A' c', v' = .slice A' (l.length + l2.length) c' := by
      rcases k1.2 with ⟨hv, h0⟩ | ⟨g, cap, cur, hv, _⟩
      · refine ⟨none, 0, ?_⟩
        have h3 : (l.flatMap f ++ l2.flatMap f).length = (l.length + l2.length) * sz := k1.1
        have h4 : l.length + l2.length = 0 := h0
        rw [hv, h4]
      · exact ⟨_, _, hv⟩
    refine h A' c' w' ⟨A', c', by rw [List.length_append], ?_⟩ k2 hB k3
    rw [List.length_append, List.flatMap_append]
    exact k1
end

/-- Where a slice lies that is cut at its k-th element (of sz cells each). -/
def fromA (A : Option Addr) (c k sz : Nat) : Option Addr := if c = k then A else A.map (·.add (k * sz))
section
variable {P : Program}
theorem run_slice_from {T e : TypeId} {sz : Nat} (hT : P.underlying T = some (.slice e)) (hs : (P.info? e).map (·.size) = some sz) (A : Option Addr) (m c k : Nat) (hk : k ≤ m) (hm : m ≤ c) (w : World) :
    (Instr.slice T (.slice A m c) (some (.int .i64 k)) none none).run P w = .ok (.slice (fromA A c k sz) (m - k) (c - k)) w := by
  cases hi : P.info? e with
  | none => rw [hi] at hs; cases hs
  | some i =>
    rw [hi] at hs
    simp at hs
    have h1 : (0 : Int) ≤ (k : Int) ∧ (k : Int) ≤ (m : Int) := by omega
    simp [Instr.slice, Instr.sliceBounds, Instr.sliceBound, run_underlying hT, sizeOf, typeInfo, hi, hs, asIntOf, fromA, hk]
theorem RdL.from {α : Type} {f : α → List Value} {sz : Nat} {w : World} {A : Option Addr} {m c : Nat} {l : List α} (h : RdL f sz w (.slice A m c) l) (k : Nat) (hk : k ≤ m) :
    RdL f sz w (.slice (fromA A c k sz) (m - k) (c - k)) (l.drop k) := by
  obtain ⟨A', c', e, h1, h2, h3⟩ := h
  injection e with e1 e2 e3
  subst e1 e2 e3
  refine ⟨_, _, by rw [List.length_drop], by rw [List.length_drop]; omega, by omega, fun hn => ?_⟩
  rw [List.length_drop] at hn
  obtain ⟨b, off, rfl, hlt, hc⟩ := h3 (by omega)
  refine ⟨b, off + k * sz, ?_, hlt, fun i a ha j v hv => ?_⟩
  · unfold fromA
    rw [if_neg (by omega)]
    simp [add_at]
  · rw [List.getElem?_drop] at ha
    have := hc (k + i) a ha j v hv
    rw [← this, Nat.add_mul, show off + k * sz + i * sz + j = off + (k * sz + i * sz) + j by omega]
end
end Go.Proofs.YteplbbjmbhgllaaGreatDoor

namespace Go.Proofs.YteplbbjmbhgllaaGreatDoor
open Go.RowKit
set_option linter.unusedVariables false
set_option linter.unusedSimpArgs false

def byC (b : UInt8) : List Value := [.int .u8 (b.toNat : Int)]
abbrev OwnB (base : Nat) (w : World) (v : Value) (D : List UInt8) : Prop := OwnL 5 byC 1 base w v D
theorem byC_flat (D : List UInt8) : D.flatMap byC = D.map fun b => Value.int .u8 (b.toNat : Int) := by
  induction D with
  | nil => rfl
  | cons b D ih => rw [List.flatMap_cons, ih]; rfl
theorem byte_info0 : (Tryz.prog.info? 5).map (fun i => (i.zero, i.size, i.bytes)) = some (some (.int .u8 0), 1, 1) := by kernel_rfl
theorem byte_info : ∃ i : TypeInfo, (Tryz.prog).info? 5 = some i ∧ i.zero = some (.int .u8 0) ∧ i.size = 1 ∧ i.bytes = 1 := by
  have h := byte_info0
  cases hi : Tryz.prog.info? 5 with
  | none => rw [hi] at h; cases h
  | some i =>
    rw [hi] at h
    simp only [Option.map_some, Option.some.injEq, Prod.mk.injEq] at h
    exact ⟨i, rfl, h.1, h.2.1, h.2.2⟩
theorem RdL.oneB {w : World} {b : Nat} {c : Nat} {T : TypeId} (hc : c < 256) (h : w.heap[b]? = some (.cells #[.int .u8 (c : Int)] T (0, 0))) : RdL byC 1 w (.slice (some ⟨b, 0, none⟩) 1 1) [UInt8.ofNat c] := by
  have hx := (cells_of_block h).1
  have e : (UInt8.ofNat c).toNat = c := by simp [UInt8.toNat_ofNat']; omega
  refine ⟨_, _, rfl, Nat.le_refl _, by decide, fun _ => ⟨b, 0, rfl, (Array.getElem?_eq_some_iff.1 h).1, fun i a ha j v hv => ?_⟩⟩
  cases i with
  | succ i => simp at ha
  | zero =>
    simp at ha; subst ha
    rw [Nat.zero_mul, Nat.zero_add, hx]
    unfold byC at hv
    rw [e] at hv
    simpa using hv
set_option maxRecDepth 100000 in
/-- The string of an own slice of bytes. -/
theorem OwnB.conv {base : Nat} {w : World} {v : Value} {D : List UInt8} (h : OwnB base w v D) : (convert 34 9 v).run Tryz.prog w = .ok (.string ⟨D.toArray⟩) w := by
  obtain ⟨A, c, rfl, h1, h2⟩ := h
  rcases h2 with ⟨h3, h4⟩ | ⟨g, cap, cur, h3, hb, hg, hn, hm, hs, ht⟩
  · obtain rfl : D = [] := List.eq_nil_of_length_eq_zero h4
    rw [h3]
    have := run_convert_bytes_nil (P := Tryz.prog) w 34 5 Tryz.underlying34 Tryz.underlying5 0 0 9 Tryz.underlying9
    have e : (⟨([] : List UInt8).toArray⟩ : ByteArray) = ByteArray.empty := ByteArray.ext rfl
    rw [e]
    exact this
  · injection h3 with h3 h4 h5
    subst h3 h5
    refine run_convert_bytes_back w _ _ 5 _ _ D Tryz.underlying34 Tryz.underlying5 Tryz.underlying9 fun j hj => ?_
    have hx := (cells_of_block hg).1
    rw [add_at, Nat.zero_add, hx]
    rw [byC_flat, Nat.mul_one] at ht
    have h6 := congrArg (fun l => l[j]?) ht
    simp only [List.getElem?_take, if_pos hj, List.getElem?_map, List.getElem?_eq_getElem hj] at h6
    rw [← Array.getElem?_toList]
    exact h6
/-- A string is appended. -/
theorem wpList_appS {ops : Array Oper} {rest : List Oper} {o : Oper} {a : Act} {Q : Exit → Act → World → Prop} {w : World} (hgd : o.guard = none) (sl x : Operand)
    (ho : o.op = .call { callee := .builtin .append, args := #[sl, x], argTypes := #[34, 9] })
    (base : Nat) (v : Value) (D : List UInt8) (hs : a.eval sl = v) (hown : OwnB base w v D) (s : ByteArray) (hx : a.eval x = .string s)
    (hbytes : D.length + s.size ≤ 140737488355328) (hbase : base ≤ w.heap.size)
    (h : ∀ v' w', OwnB base w' v' (D ++ s.data.toList) → w.grownBy w' v.ownBlock → Below base w w' → wpList Tryz.prog ops Q rest (a.put o.dst v') w') : wpList Tryz.prog ops Q (o :: rest) a w := by
  obtain ⟨i, hi, hz, hs1, hs2⟩ := byte_info
  obtain ⟨A0, c0, rfl, h2⟩ := hown
  refine Lib.wpList_append_own_string (P := Tryz.prog) w hgd sl x 34 9 ho base 5 i Tryz.underlying34 Tryz.underlying9 hi hz hs1 hs2 _ D.length _ hs h2 s hx (by unfold maxLen; omega) hbytes hbase ?_
  intro v' w' k1 k2 k3
  have hB : Below base w w' := (Below.refl _ _).grown k2 hbase (fun k hk => (World.ownsRow.lt h2 k hk).1)
  refine h v' w' ?_ k2 hB
  have e : D.flatMap byC ++ Lib.strCells s = (D ++ s.data.toList).flatMap byC := by
    rw [List.flatMap_append, byC_flat s.data.toList]; rfl
  rw [e] at k1
  have el : (D ++ s.data.toList).length = D.length + s.size := by rw [List.length_append, szl]
  rcases k1.2 with ⟨hv, h0⟩ | ⟨g, cap, cur, hv, _⟩
  · exact ⟨none, 0, by rw [hv, el, h0], by rw [el]; exact k1⟩
  · exact ⟨_, _, by rw [hv, el], by rw [el]; exact k1⟩
end Go.Proofs.YteplbbjmbhgllaaGreatDoor

namespace Go.Proofs.YteplbbjmbhgllaaGreatDoor
open Go.RowKit
set_option linter.unusedVariables false
set_option linter.unusedSimpArgs false

theorem enc_size (r : Nat) : (Utf8.encode (r : Int)).size = (Lib.encodeRune (r : Int)).length := by
  unfold Lib.encodeRune
  rw [List.length_map]
  by_cases hv : Utf8.valid (r : Int) = true
  · have hv' : r < 55296 ∨ (57344 ≤ r ∧ r ≤ 1114111) := by unfold Utf8.valid at hv; simp at hv; omega
    unfold Utf8.encode
    simp only [hv, if_true, Int.toNat_natCast]
    by_cases h1 : r < 128
    · rw [if_pos h1, Lib.encodeRuneZ_one (by omega) (by omega)]; rfl
    · rw [if_neg h1]
      by_cases h2 : r < 2048
      · rw [if_pos h2, Lib.encodeRuneZ_two (by omega) (by omega)]; rfl
      · rw [if_neg h2]
        by_cases h3 : r < 65536
        · rw [if_pos h3, Lib.encodeRuneZ_three (by omega)]; rfl
        · rw [if_neg h3, Lib.encodeRuneZ_four (by omega) (by omega)]; rfl
  · have hv' : (55296 ≤ r ∧ r ≤ 57343) ∨ 1114111 < r := by unfold Utf8.valid at hv; simp at hv; omega
    unfold Utf8.encode
    simp only [hv, if_false]
    rw [Lib.encodeRuneZ_bad (by omega)]
    rfl
theorem escL_byte {l : Lx.Bs} {c k : Nat} (h : Lx.escL l = some (c, k)) : c < 256 ∧ k ≤ l.length := by
  refine ⟨?_, (Lx.escL_len h).2⟩
  unfold Lx.escL at h
  cases l with
  | nil => cases h
  | cons b r =>
    dsimp only at h
    have hb := b.toNat_lt
    by_cases c1 : b.toNat = 110
    · rw [if_pos c1] at h; injection h with h; injection h with h _; omega
    · rw [if_neg c1] at h
      by_cases c2 : b.toNat = 116
      · rw [if_pos c2] at h; injection h with h; injection h with h _; omega
      · rw [if_neg c2] at h
        by_cases c3 : b.toNat = 114
        · rw [if_pos c3] at h; injection h with h; injection h with h _; omega
        · rw [if_neg c3] at h
          by_cases c4 : b.toNat = 48
          · rw [if_pos c4] at h; injection h with h; injection h with h _; omega
          · rw [if_neg c4] at h
            by_cases c5 : b.toNat = 92 ∨ b.toNat = 39 ∨ b.toNat = 34
            · rw [if_pos c5] at h; injection h with h; injection h with h _; omega
            · rw [if_neg c5] at h
              by_cases c6 : b.toNat = 120
              · rw [if_pos c6] at h
                match r, h with
                | [], h => cases h
                | [_], h => cases h
                | c' :: d' :: r', h =>
                  dsimp only at h
                  cases hc : Lx.hexV c'.toNat with
                  | none => rw [hc] at h; cases h
                  | some x =>
                    cases hd : Lx.hexV d'.toNat with
                    | none => rw [hc, hd] at h; cases h
                    | some y =>
                      rw [hc, hd] at h
                      injection h with h
                      injection h with h _
                      have := (Lx.hexV_lt hc).2
                      have := (Lx.hexV_lt hd).2
                      omega
              · rw [if_neg c6] at h; cases h
def tokZ : Array Value := #[.int .i64 0, .int .i64 0, .int .i64 0, .string ⟨#[]⟩, .int .u64 0, .string ⟨#[]⟩]
/-- What quoted answers. -/
def QuoP (q : Nat) (s : ByteArray) (e : Ending) : Prop := match Lx.quoL q (s.data.toList.drop 1) [] 0 0 with
  | none => ∃ t, IsTok t ∧ e = .returned (.tuple #[t, .bool false])
  | some o => if q = 39 then (if o.n = 1 then e = .returned (.tuple #[tokV 5 (0, 0) (s.extract 0 (s.size - o.rest.length)) o.last .empty, .bool true]) else ∃ t, IsTok t ∧ e = .returned (.tuple #[t, .bool false]))
    else e = .returned (.tuple #[tokV 6 (0, 0) (s.extract 0 (s.size - o.rest.length)) 0 ⟨o.data.toArray⟩, .bool true])
theorem quoP_none {q : Nat} {s : ByteArray} {e : Ending} {t : Value} (h : Lx.quoL q (s.data.toList.drop 1) [] 0 0 = none) (he : e = .returned (.tuple #[t, .bool false])) (ht : IsTok t) : QuoP q s e := by
  unfold QuoP; rw [h]; exact ⟨t, ht, he⟩
theorem quoP_many {s : ByteArray} {e : Ending} {t : Value} {o : Lx.Quo} (h : Lx.quoL 39 (s.data.toList.drop 1) [] 0 0 = some o) (hn : o.n ≠ 1) (he : e = .returned (.tuple #[t, .bool false])) (ht : IsTok t) : QuoP 39 s e := by
  unfold QuoP; rw [h]; dsimp only; rw [if_pos rfl, if_neg hn]; exact ⟨t, ht, he⟩
theorem quoP_char {s : ByteArray} {e : Ending} {D : List UInt8} {last i : Nat} (hi : i < s.size) (h : Lx.quoL 39 (s.data.toList.drop 1) [] 0 0 = some ⟨D, 1, last, s.data.toList.drop (i + 1)⟩)
    (he : e = .returned (.tuple #[tokV 5 (0, 0) (s.extract 0 (i + 1)) last .empty, .bool true])) : QuoP 39 s e := by
  unfold QuoP; rw [h]; dsimp only; rw [if_pos rfl, if_pos rfl, List.length_drop, szl, show s.size - (s.size - (i + 1)) = i + 1 from by omega]; exact he
theorem quoP_text {s : ByteArray} {e : Ending} {D : List UInt8} {n last i : Nat} (hi : i < s.size) (h : Lx.quoL 34 (s.data.toList.drop 1) [] 0 0 = some ⟨D, n, last, s.data.toList.drop (i + 1)⟩)
    (he : e = .returned (.tuple #[tokV 6 (0, 0) (s.extract 0 (i + 1)) 0 ⟨D.toArray⟩, .bool true])) : QuoP 34 s e := by
  unfold QuoP; rw [h]; dsimp only; rw [if_neg (by decide), List.length_drop, szl, show s.size - (s.size - (i + 1)) = i + 1 from by omega]; exact he
end Go.Proofs.YteplbbjmbhgllaaGreatDoor
