/-
  A slice of the call's own that holds a list of whatever is laid out in a fixed number of cells; an append to it. No program in sight.
-/
import Derived.Test.YteepjngkbjbheaaDoorWords
namespace Go.Proofs.YteepjngkbjbheaaDoor
open Go.RowKit Go.WideShapes Go.ChangeShapes Go.Deep
set_option linter.unusedVariables false

/-- The slice s is the call's own (blocks from base on), and holds the list l. -/
def OwnL {α : Type} (e : TypeId) (f : α → List Value) (sz : Nat) (base : Nat) (w : World) (s : Value) (l : List α) : Prop :=
  ∃ A c, s = .slice A l.length c ∧ w.ownsRow base e sz s l.length (l.flatMap f)

section
variable {α : Type} {e : TypeId} {f : α → List Value} {sz base : Nat} {w w' : World} {s : Value} {l : List α}
theorem OwnL.nil (e : TypeId) (f : α → List Value) (sz base : Nat) (w : World) : OwnL e f sz base w (.slice none 0 0) [] := ⟨none, 0, rfl, World.ownsRow_nil _ _ _ _⟩
theorem OwnL.form (h : OwnL e f sz base w s l) : ∃ A c, s = .slice A l.length c := by obtain ⟨A, c, h1, _⟩ := h; exact ⟨A, c, h1⟩
theorem OwnL.rdl (hf : ∀ a, (f a).length = sz) (h : OwnL e f sz base w s l) : RdL f sz w s l := by
  obtain ⟨A, c, rfl, h2⟩ := h
  exact RdL.of_own h2 rfl (flat_at hf l)
theorem OwnL.lt (h : OwnL e f sz base w s l) {b : Nat} (hb : s.ownBlock = some b) : base ≤ b ∧ b < w.heap.size := by
  obtain ⟨A, c, h1, h2⟩ := h
  exact World.ownsRow.lt h2 b hb
/-- Its block is as before. -/
theorem OwnL.keep (h : OwnL e f sz base w s l) (hk : ∀ b, s.ownBlock = some b → w'.heap[b]? = w.heap[b]?) : OwnL e f sz base w' s l := by
  obtain ⟨A, c, rfl, h1, h2⟩ := h
  refine ⟨A, c, rfl, h1, ?_⟩
  rcases h2 with h2 | ⟨g, cap, cur, h3, hb, hgg, rest⟩
  · exact .inl h2
  · refine .inr ⟨g, cap, cur, h3, hb, ?_, rest⟩
    rw [hk g (by rw [h3]; rfl)]
    exact hgg
theorem OwnL.next (h : OwnL e f sz base w s l) (hb : Below w.heap.size w w') : OwnL e f sz base w' s l :=
  h.keep fun b hs => hb.block b (h.lt hs).2
theorem OwnL.alloc (h : OwnL e f sz base w s l) (o : Obj) : OwnL e f sz base (w.alloc o) s l := h.next ((Below.refl _ _).alloc (Nat.le_refl _) _)
theorem OwnL.drew (h : OwnL e f sz base w s l) : OwnL e f sz base w.drew s l := h
theorem OwnL.grown {row : Option Nat} (h : OwnL e f sz base w s l) (hg : w.grownBy w' row) (hne : s.ownBlock = none ∨ s.ownBlock ≠ row) : OwnL e f sz base w' s l := by
  obtain ⟨A, c, h1, h2⟩ := h
  exact ⟨A, c, h1, h2.kept hg hne⟩
theorem OwnL.lower {b0 : Nat} (h : OwnL e f sz base w s l) (hb : b0 ≤ base) : OwnL e f sz b0 w s l := by
  obtain ⟨A, c, rfl, h1, h2⟩ := h
  refine ⟨A, c, rfl, h1, ?_⟩
  rcases h2 with h2 | ⟨g, cap, cur, h3, hb', rest⟩
  · exact .inl h2
  · exact .inr ⟨g, cap, cur, h3, Nat.le_trans hb hb', rest⟩
/-- One that was laid as a literal. -/
theorem OwnL.lit (w : World) (cs : Array Value) (l : List α) (b : Nat) (hbk : b = w.heap.size) (hb : base ≤ w.heap.size) (hm : l.length ≤ maxLen) (hs : cs.size = l.length * sz) (hc : cs.toList = l.flatMap f) :
    OwnL e f sz base (w.alloc (.cells cs e)) (.slice (some ⟨b, 0, none⟩) l.length l.length) l := by
  subst hbk
  refine ⟨_, _, rfl, ?_⟩
  rw [← hc]
  exact World.ownsRow_lit w cs l.length hb hm hs
end

/-- What lies below a number reads as before. -/
theorem lowif {B : Nat} {W w1 : World} (hb : Below B W w1) :
    (∀ b o, w1.cell? ⟨b, o, none⟩ = if b < B then W.cell? ⟨b, o, none⟩ else cellElse w1 b o) ∧
    (∀ b o, w1.frozen? ⟨b, o, none⟩ = if b < B then W.frozen? ⟨b, o, none⟩ else frozenElse w1 b o) ∧ W.heap.size ≤ w1.heap.size := by
  refine ⟨fun b o => ?_, fun b o => ?_, hb.size⟩
  · split
    · exact hb.cell (p := ⟨b, o, none⟩) ‹_›
    · rfl
  · split
    · exact hb.frozen (p := ⟨b, o, none⟩) ‹_›
    · rfl

section
variable {α : Type} {P : Program} {w : World} {ops : Array Oper} {rest : List Oper} {o : Oper} {a : Act} {Q : Exit → Act → World → Prop}
/-- What an append does to an own slice. -/
theorem wpList_app {e : TypeId} {f : α → List Value} {sz : Nat} (hgd : o.guard = none) (s x : Operand) (t : TypeId)
    (ho : o.op = .call { callee := .builtin .append, args := #[s, x], argTypes := #[t, t] })
    (base : Nat) (i : TypeInfo) (z : Value) (bytes : Nat) (ht : P.underlying t = some (.slice e)) (hi : P.info? e = some i) (hz : i.zero = some z)
    (hsize : i.size = sz) (hby : i.bytes = bytes) (hzs : z.cells.size = sz) (hsz : 0 < sz) (hf : ∀ a : α, (f a).length = sz)
    (v : Value) (l : List α) (hs : a.eval s = v) (hown : OwnL e f sz base w v l)
    (A : Option Addr) (m c : Nat) (l2 : List α) (hx : a.eval x = .slice A m c) (hr : RdL f sz w (.slice A m c) l2) (h1 : ∀ a ∈ l2, ∀ u ∈ f a, u.oneCell' = true)
    (hb0 : 0 < bytes) (hbytes : (l.length + l2.length) * bytes ≤ 140737488355328) (hbase : base ≤ w.heap.size)
    (h : ∀ A' c' w', OwnL e f sz base w' (.slice A' (l.length + l2.length) c') (l ++ l2) → w.grownBy w' v.ownBlock → Below base w w' →
      ((Value.slice A' (l.length + l2.length) c').ownBlock = v.ownBlock ∨ (Value.slice A' (l.length + l2.length) c').ownBlock = some w.heap.size) →
      wpList P ops Q rest (a.put o.dst (.slice A' (l.length + l2.length) c')) w') : wpList P ops Q (o :: rest) a w := by
  obtain ⟨A0, c0, rfl, h2⟩ := hown
  obtain ⟨rfl, hrr⟩ := hr.reads hf
  refine wpList_append_any w hgd s x t ho base e i z sz bytes ht hi hz hsize hby hzs hsz _ l.length _ hs h2 w.heap.size A _ c (l2.flatMap f) hx hrr (fun u hu => ?_) ?_ hbytes hbase ?_
  · rw [List.mem_flatMap] at hu
    obtain ⟨y, hy, hu⟩ := hu
    exact h1 y hy u hu
  · have := Nat.le_mul_of_pos_right (l.length + l2.length) hb0
    unfold maxLen
    omega
  · intro v' w' k1 k2 k3
    have hB : Below base w w' := (Below.refl _ _).grown k2 hbase (fun k hk => (World.ownsRow.lt h2 k hk).1)
    obtain ⟨A', c', rfl⟩ : ∃ A' c', v' = .slice A' (l.length + l2.length) c' := by
      rcases k1.2 with ⟨hv, h0⟩ | ⟨g, cap, cur, hv, _⟩
      · refine ⟨none, 0, ?_⟩
        have h3 : (l.flatMap f ++ l2.flatMap f).length = (l.length + l2.length) * sz := k1.1
        have h4 : l.length + l2.length = 0 := h0
        rw [hv, h4]
      · exact ⟨_, _, hv⟩
    refine h A' c' w' ⟨A', c', by rw [List.length_append], ?_⟩ k2 hB k3
    rw [List.length_append, List.flatMap_append]
    exact k1
end

/-- Where a slice lies that is cut at its k-th element (of sz cells each). -/
def fromA (A : Option Addr) (c k sz : Nat) : Option Addr := if c = k then A else A.map (·.add (k * sz))
section
variable {P : Program}
theorem run_slice_from {T e : TypeId} {sz : Nat} (hT : P.underlying T = some (.slice e)) (hs : (P.info? e).map (·.size) = some sz) (A : Option Addr) (m c k : Nat) (hk : k ≤ m) (hm : m ≤ c) (w : World) :
    (Instr.slice T (.slice A m c) (some (.int .i64 k)) none none).run P w = .ok (.slice (fromA A c k sz) (m - k) (c - k)) w := by
  cases hi : P.info? e with
  | none => rw [hi] at hs; cases hs
  | some i =>
    rw [hi] at hs
    simp at hs
    have h1 : (0 : Int) ≤ (k : Int) ∧ (k : Int) ≤ (m : Int) := by omega
    simp [Instr.slice, Instr.sliceBounds, Instr.sliceBound, run_underlying hT, sizeOf, typeInfo, hi, hs, asIntOf, fromA, hk]
theorem RdL.from {α : Type} {f : α → List Value} {sz : Nat} {w : World} {A : Option Addr} {m c : Nat} {l : List α} (h : RdL f sz w (.slice A m c) l) (k : Nat) (hk : k ≤ m) :
    RdL f sz w (.slice (fromA A c k sz) (m - k) (c - k)) (l.drop k) := by
  obtain ⟨A', c', e, h1, h2, h3⟩ := h
  injection e with e1 e2 e3
  subst e1 e2 e3
  refine ⟨_, _, by rw [List.length_drop], by rw [List.length_drop]; omega, by omega, fun hn => ?_⟩
  rw [List.length_drop] at hn
  obtain ⟨b, off, rfl, hlt, hc⟩ := h3 (by omega)
  refine ⟨b, off + k * sz, ?_, hlt, fun i a ha j v hv => ?_⟩
  · unfold fromA
    rw [if_neg (by omega)]
    simp [add_at]
  · rw [List.getElem?_drop] at ha
    have := hc (k + i) a ha j v hv
    rw [← this, Nat.add_mul, show off + k * sz + i * sz + j = off + (k * sz + i * sz) + j by omega]
end
end Go.Proofs.YteepjngkbjbheaaDoor
