/-
  Steps of a region that is taken in any order: a take at a named slot; an append to an own row.
-/
import Derived.Test.YteepjngkbjbheaaDoorOwn
import Derived.Deep.RegionHeld3
import Derived.Test.YteepjngkbjbheaaDoorSlices
namespace Go.Proofs.YteepjngkbjbheaaDoor
open Go.RowKit Go.WideShapes Go.ChangeShapes Go.Deep
set_option linter.unusedVariables false

theorem takeR {P : Program} {md : Region.Mode} {ops : Array Oper} {Q : Exit → Act → World → Prop} {S : World → Prop} {i : Nat} (d : Option Tmp) {oi : Oper} {v : Value} {fuel : Nat} {listed : Array Bool} {a : Act} {w : World} (hi : ops[i]? = some oi) (hd : oi.dst = d)
    (hs : Region.noSelect ops = true) (hf : Region.free md ops listed i = true) (hr : (Region.ready md ops listed).contains i = true)
    (hQ : ∀ c a w, Q (.panic c) (a.put d v) w → Q (.panic c) a w) (hy : YieldsIf P ops S oi v a) (hS : S w)
    (h : wpAnyH P md ops Q S fuel (listed.setIfInBounds i true) (a.put d v) w) : wpAnyH P md ops Q S (fuel + 1) listed a w := by
  subst hd
  exact wpAnyH_take hi hs hf hr hQ hy hS h
theorem append_one {P : Program} {w : World} (base : Nat) (t ty e : TypeId) (i : TypeInfo) (z : Value) (size bytes : Nat) (ht : P.underlying t = some (.slice e)) (hi : P.info? e = some i) (hz : i.zero = some z)
    (hsize : i.size = size) (hby : i.bytes = bytes) (hzs : z.cells.size = size) (hsz : 0 < size)
    (v : Value) (n : Nat) (xs : List Value) (hown : w.ownsRow base e size v n xs)
    (a : Addr) (m c : Nat) (news : List Value) (hl : news.length = m * size) (hnews : ∀ j u, news[j]? = some u → w.cell? (a.add j) = some u) (h1 : ∀ u ∈ news, u.oneCell' = true)
    (h63 : n + m ≤ maxLen) (hbytes : (n + m) * bytes ≤ 140737488355328) (hbase : base ≤ w.heap.size) :
    ∃ v' w', (Builtin.append_ #[t, t] ty #[v, .slice (some a) m c]).run P w = .ok v' w' ∧ w'.ownsRow base e size v' (n + m) (xs ++ news) ∧ w.grownBy w' v.ownBlock ∧ ∀ q, v'.ownBlock = some q → v.ownBlock = some q ∨ w.heap.size ≤ q := by
  obtain ⟨v', w', r1, r2, r3, _⟩ := run_append_own (P := P) w base t ty e i z size bytes ht hi hz hsize hby hzs hsz v n xs hown a m c news hl hnews h1 h63 hbytes hbase
  refine ⟨v', w', r1, r2, r3, fun q hq => ?_⟩
  rcases hown.2 with ⟨rfl, rfl⟩ | ⟨g, cp, cur, rfl, hb, hg, hnc, hcm, hcs, htk⟩
  · obtain rfl : xs = [] := List.eq_nil_of_length_eq_zero (by simpa using hown.1)
    obtain ⟨v2, w2, s1, s2, _⟩ := run_append_own (P := P) w w.heap.size t ty e i z size bytes ht hi hz hsize hby hzs hsz (.slice none 0 0) 0 [] (World.ownsRow_nil _ _ _ _) a m c news hl hnews h1 h63 hbytes (Nat.le_refl _)
    rw [r1] at s1
    injection s1 with s1 s1'
    subst s1 s1'
    exact .inr (s2.lt q hq).1
  · rcases Nat.lt_or_ge cp (n + m) with hgr | hroom
    · have holds : ∀ (j : Nat) (u : Value), xs[j]? = some u → w.cell? ((⟨g, 0, none⟩ : Addr).add j) = some u := hown.cells (g := g) rfl
      obtain ⟨v2, w2, s1, s2, _⟩ := run_append_arg_grows (P := P) w t ty e i z size bytes ht hi hz hsize hby hzs hsz ⟨g, 0, none⟩ n cp xs hown.1 holds a m c news hl hnews hgr h63 hbytes
      rw [r1] at s1
      injection s1 with s1 s1'
      subst s1 s1'
      exact .inr (s2.lt q hq).1
    · subst hsize
      have hspare : ∀ j, j < news.length → (w.cell? ⟨g, 0 + n * i.size + j, none⟩).isSome = true := fun j hj => by
        rw [Lib.cell_of_heap hg, Nat.zero_add]
        have h2 : n * i.size + j < cur.size := by
          rw [hcs]
          have h3 : (n + m) * i.size ≤ cp * i.size := Nat.mul_le_mul_right _ hroom
          rw [Nat.add_mul] at h3
          omega
        simp [h2]
      have s1 := run_append_room_cells (P := P) w t ty e i ht hi g 0 n cp a m c news hl hnews h1 hroom hspare (fun j _ => Lib.frozen_of_heap hg _)
      rw [r1] at s1
      injection s1 with s1 s1'
      rw [s1] at hq
      exact .inl hq

/-- append to an own row, as one step of a region. -/
theorem step_append_one {P : Program} {ops : Array Oper} {o : Oper} {a : Act} {w : World} {K : Act → World → Prop} {Q : Exit → Act → World → Prop} {E : Prop} (base : Nat)
    (hg : o.guard = none) (s x : Operand) (t : TypeId) (hop : o.op = Op.call { callee := Callee.builtin Builtin.append, args := #[s, x], argTypes := #[t, t] })
    (e : TypeId) (i : TypeInfo) (z : Value) (size bytes : Nat) (h1 : P.underlying t = some (.slice e)) (h2 : P.info? e = some i) (h3 : i.zero = some z) (h4 : i.size = size) (h5 : i.bytes = bytes) (h6 : z.cells.size = size) (h7 : 0 < size)
    (v : Value) (n : Nat) (xs : List Value) (hs : a.eval s = v) (hown : w.ownsRow base e size v n xs)
    (ad : Addr) (m c : Nat) (news : List Value) (hx : a.eval x = .slice (some ad) m c) (hn : news.length = m * size) (hc : ∀ j u, news[j]? = some u → w.cell? (ad.add j) = some u) (h1c : ∀ u ∈ news, u.oneCell' = true)
    (b1 : n + m ≤ maxLen) (b2 : (n + m) * bytes ≤ 140737488355328) (hb : base ≤ w.heap.size)
    (hK : ∀ v' w', w'.ownsRow base e size v' (n + m) (xs ++ news) → w.grownBy w' v.ownBlock → (∀ q, v'.ownBlock = some q → v.ownBlock = some q ∨ w.heap.size ≤ q) → K (a.put o.dst v') w') :
    if Region.wanted o (yielded ops a.tmps) = true then Oper.wp P o a w K Q else E := by
  have hw : Region.wanted o (yielded ops a.tmps) = true := by simp [Region.wanted, hg]
  rw [if_pos hw]
  obtain ⟨v', w', hrun, r1, r2, r3⟩ := append_one (P := P) (w := w) base t o.type e i z size bytes h1 h2 h3 h4 h5 h6 h7 v n xs hown ad m c news hn hc h1c b1 b2 hb
  unfold Oper.wp
  simp [execOp, hop, resolve, invoke, builtin, hs, hx, hrun, Result.andThen]
  exact hK v' w' r1 r2 r3
theorem step_app {α : Type} {P : Program} {ops : Array Oper} {o : Oper} {a : Act} {w : World} {K : Act → World → Prop} {Q : Exit → Act → World → Prop} {E : Prop} {e : TypeId} {f : α → List Value} {size : Nat} (base : Nat)
    (hg : o.guard = none) (s x : Operand) (t : TypeId) (hop : o.op = Op.call { callee := Callee.builtin Builtin.append, args := #[s, x], argTypes := #[t, t] })
    (i : TypeInfo) (z : Value) (bytes : Nat) (h1 : P.underlying t = some (.slice e)) (h2 : P.info? e = some i) (h3 : i.zero = some z) (h4 : i.size = size) (h5 : i.bytes = bytes) (h6 : z.cells.size = size) (h7 : 0 < size)
    (v : Value) (l : List α) (hs : a.eval s = v) (hown : OwnL e f size base w v l)
    (ad : Addr) (c : Nat) (y : α) (hx : a.eval x = .slice (some ad) 1 c) (hn : (f y).length = size) (hc : ∀ j u, (f y)[j]? = some u → w.cell? (ad.add j) = some u) (h1c : ∀ u ∈ f y, u.oneCell' = true)
    (b1 : l.length + 1 ≤ maxLen) (b2 : (l.length + 1) * bytes ≤ 140737488355328) (hb : base ≤ w.heap.size)
    (hK : ∀ A' c' w', OwnL e f size base w' (.slice A' (l.length + 1) c') (l ++ [y]) → w.grownBy w' v.ownBlock → Below base w w' → K (a.put o.dst (.slice A' (l.length + 1) c')) w') :
    if Region.wanted o (yielded ops a.tmps) = true then Oper.wp P o a w K Q else E := by
  obtain ⟨A0, c0, rfl, hrow⟩ := hown
  refine step_append_one base hg s x t hop e i z size bytes h1 h2 h3 h4 h5 h6 h7 _ l.length (l.flatMap f) hs hrow ad 1 c (f y) hx (by omega) hc h1c b1 b2 hb ?_
  intro v' w' r1 r2 r3
  have hB : Below base w w' := (Below.refl _ _).grown r2 hb (fun k hk => (World.ownsRow.lt hrow k hk).1)
  obtain ⟨A', c', rfl⟩ : ∃ A' c', v' = .slice A' (l.length + 1) c' := by
    rcases r1.2 with ⟨hv, h0⟩ | ⟨g, cap, cur, hv, _⟩
    · exact absurd h0 (by omega)
    · exact ⟨_, _, hv⟩
  refine hK A' c' w' ⟨A', c', by rw [List.length_append]; rfl, ?_⟩ r2 hB
  rw [List.length_append, List.flatMap_append]
  simpa using r1
end Go.Proofs.YteepjngkbjbheaaDoor
