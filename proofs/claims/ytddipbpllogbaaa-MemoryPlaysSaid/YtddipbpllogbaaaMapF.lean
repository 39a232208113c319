/-
  Maps whose keys are ints, as functions: what the block of a map holds, by key. No program in sight.
-/
import Derived.Test.YtddipbpllogbaaaIf
import Derived.Maps.OwnSet
namespace Go.Proofs.Ytddipbpllogbaaa
open Go.RowKit Go.Maps Go.MapKept
set_option linter.unusedVariables false

/-- How an element of type α lies in a map: as one value, read by R, told by a datum; z: the value where there is none. -/
structure Elem {α : Type} (R : Value → Option (DataW Unit × List MemPlace)) (val : α → Value) (d : α → DataW Unit) (z : Value) : Prop where
  rd : ∀ a, R (val a) = some (d a, [])
  inv : ∀ v a ps, R v = some (d a, ps) → v = val a
  zero : ∃ zd, R z = some (zd, []) ∧ ∀ v ps, R v = some (zd, ps) → v = z

/-- Block b is a map of at most n entries that holds just what f says. -/
def MapF {α : Type} (P : Program) (k : TypeId) (R : Value → Option (DataW Unit × List MemPlace)) (d : α → DataW Unit) (w : World) (b n : Nat) (f : Int → Option α) : Prop :=
  ∃ D : DataW Unit, w.ownsMap P k R b n D ∧ ∀ j : Int, (Lit.int .i64 j).wf = true → Maps.has D (.int .i64 j) = (f j).isSome ∧ ∀ a, f j = some a → ∀ z, D.atKey (.int .i64 j) z = d a

section
variable {α : Type} {P : Program} {k : TypeId} {R : Value → Option (DataW Unit × List MemPlace)} {val : α → Value} {d : α → DataW Unit} {z : Value} {w w' : World} {b n : Nat} {f : Int → Option α}

theorem MapF.block (h : MapF P k R d w b n f) (hb : w'.heap[b]? = w.heap[b]?) : MapF P k R d w' b n f := by
  obtain ⟨D, ⟨es, clock, h1, h2⟩, h3⟩ := h
  exact ⟨D, ⟨es, clock, hb.trans h1, h2⟩, h3⟩
theorem MapF.lt (h : MapF P k R d w b n f) : b < w.heap.size := by obtain ⟨D, h1, _⟩ := h; exact h1.lt
theorem MapF.next (h : MapF P k R d w b n f) (hb : Below w.heap.size w w') : MapF P k R d w' b n f := h.block (hb.block b h.lt)
theorem MapF.drew (h : MapF P k R d w b n f) : MapF P k R d w.drew b n f := h
theorem MapF.obj (h : MapF P k R d w b n f) : ∃ es clock, w.heap[b]? = some (.map es clock) := by
  obtain ⟨D, ⟨es, clock, h1, h2⟩, h3⟩ := h
  exact ⟨es, clock, h1⟩
theorem MapF.made (w : World) : MapF P k R d (w.alloc (.map #[] 0)) w.heap.size 0 (fun _ => none) :=
  ⟨.map [], World.ownsMap_made _ _ _ _, fun j _ => ⟨rfl, fun a h => by cases h⟩⟩
theorem MapF.more {m : Nat} (h : MapF P k R d w b n f) (hm : n ≤ m) : MapF P k R d w b m f := by
  obtain ⟨D, h1, h2⟩ := h
  exact ⟨D, h1.mono hm, h2⟩

/-- What a look gives. -/
def valO (val : α → Value) (z : Value) : Option α → Value
  | some a => val a
  | none => z

theorem MapF.look_ok {t e : TypeId} (E : Elem R val d z) (hk : P.underlying k = some (.int .i64)) (ht : P.underlying t = some (.map k e)) (hz : ∀ w, (zeroValue e).run P w = .ok z w) (h : MapF P k R d w b n f) (j : Int) (hj : (Lit.int .i64 j).wf = true) :
    (Instr.lookup t (.map (some b)) (.int .i64 j) true).run P w = .ok (.tuple #[valO val z (f j), .bool (f j).isSome]) w := by
  obtain ⟨D, h1, h2⟩ := h
  obtain ⟨g1, g2⟩ := h2 j hj
  obtain ⟨zd, e1, e2⟩ := E.zero
  obtain ⟨v, ps, hrun, hv⟩ := h1.look_ok (int_keyed hk) ht (hz w) e1 (keyOf_int_mk hk hj)
  rw [hrun, g1]
  cases hf : f j with
  | none =>
    rw [hf] at g1
    rw [atKey_of_not_has g1] at hv
    rw [e2 v ps hv]
    rfl
  | some a =>
    rw [g2 a hf] at hv
    rw [E.inv v a ps hv]
    rfl
theorem MapF.look {t e : TypeId} (E : Elem R val d z) (hk : P.underlying k = some (.int .i64)) (ht : P.underlying t = some (.map k e)) (hz : ∀ w, (zeroValue e).run P w = .ok z w) (h : MapF P k R d w b n f) (j : Int) (hj : (Lit.int .i64 j).wf = true) :
    (Instr.lookup t (.map (some b)) (.int .i64 j) false).run P w = .ok (valO val z (f j)) w := by
  obtain ⟨D, h1, h2⟩ := h
  obtain ⟨g1, g2⟩ := h2 j hj
  obtain ⟨zd, e1, e2⟩ := E.zero
  obtain ⟨v, ps, hrun, hv⟩ := h1.lookup (int_keyed hk) ht (hz w) e1 (keyOf_int_mk hk hj)
  rw [hrun]
  cases hf : f j with
  | none =>
    rw [hf] at g1
    rw [atKey_of_not_has g1] at hv
    rw [e2 v ps hv]
    rfl
  | some a =>
    rw [g2 a hf] at hv
    rw [E.inv v a ps hv]
    rfl

/-- f, but for one key. -/
def setK (f : Int → Option α) (j : Int) (x : Option α) : Int → Option α := fun i => if i = j then x else f i

theorem MapF.put {D : DataW Unit} (h : ∀ j : Int, (Lit.int .i64 j).wf = true → Maps.has D (.int .i64 j) = (f j).isSome ∧ ∀ a, f j = some a → ∀ z, D.atKey (.int .i64 j) z = d a) (hD : Maps.IsMap D) (j : Int) (a : α) :
    ∀ i : Int, (Lit.int .i64 i).wf = true → Maps.has (D.put (.int .i64 j) (d a)) (.int .i64 i) = (setK f j (some a) i).isSome ∧ ∀ a', setK f j (some a) i = some a' → ∀ z, (D.put (.int .i64 j) (d a)).atKey (.int .i64 i) z = d a' := by
  intro i hi
  unfold setK
  by_cases c : i = j
  · subst c
    rw [if_pos rfl]
    refine ⟨by rw [has_put_same hD (by simp [WideAt.IsKeyLit])]; rfl, fun a' ha z => ?_⟩
    injection ha with ha
    subst ha
    exact atKey_put_same hD (by simp [WideAt.IsKeyLit]) _ _
  · rw [if_neg c]
    have hne : (Lit.int .i64 i) ≠ (Lit.int .i64 j) := by intro h; injection h with _ h; exact c h
    obtain ⟨g1, g2⟩ := h i hi
    exact ⟨by rw [has_put_other hne]; exact g1, fun a' ha z => by rw [atKey_put_other hne]; exact g2 a' ha z⟩
theorem MapF.del {D : DataW Unit} (h : ∀ j : Int, (Lit.int .i64 j).wf = true → Maps.has D (.int .i64 j) = (f j).isSome ∧ ∀ a, f j = some a → ∀ z, D.atKey (.int .i64 j) z = d a) (hD : Maps.IsMap D) (j : Int) :
    ∀ i : Int, (Lit.int .i64 i).wf = true → Maps.has (D.del (.int .i64 j)) (.int .i64 i) = (setK f j none i).isSome ∧ ∀ a', setK f j none i = some a' → ∀ z, (D.del (.int .i64 j)).atKey (.int .i64 i) z = d a' := by
  intro i hi
  unfold setK
  obtain ⟨es, rfl⟩ := hD
  by_cases c : i = j
  · subst c
    rw [if_pos rfl]
    exact ⟨by rw [has_del_same]; rfl, fun a' ha => by cases ha⟩
  · rw [if_neg c]
    have hne : (Lit.int .i64 i) ≠ (Lit.int .i64 j) := by intro h; injection h with _ h; exact c h
    obtain ⟨g1, g2⟩ := h i hi
    exact ⟨by rw [has_del_other hne]; exact g1, fun a' ha z => by rw [atKey_del_other hne]; exact g2 a' ha z⟩

theorem wpList_put {ops : Array Oper} {rest : List Oper} {o : Oper} {a : Act} {Q : Exit → Act → World → Prop} (hg : o.guard = none) (m x v : Operand) (t : TypeId) (hop : o.op = Op.mapUpdate t m x v) (e : TypeId) (E : Elem R val d z) (hk : P.underlying k = some (.int .i64)) (ht : P.underlying t = some (.map k e))
    (h : MapF P k R d w b n f) (hn : n < maxLen) (j : Int) (hj : (Lit.int .i64 j).wf = true) (el : α) (hm : a.eval m = .map (some b)) (hx : a.eval x = .int .i64 j) (hv : a.eval v = val el)
    (hK : ∀ w', MapF P k R d w' b (n + 1) (setK f j (some el)) → w.grownBy w' (some b) → wpList P ops Q rest (a.put o.dst undef) w') : wpList P ops Q (o :: rest) a w := by
  obtain ⟨D, h1, h2⟩ := h
  exact wpList_mapUpdate_own w hg m x v t hop k e (int_keyed hk) ht R b n D hm h1 hn _ _ _ hx hv (keyOf_int_mk hk hj) (d el) [] (E.rd el) fun w' g1 g2 => hK w' ⟨_, g1, MapF.put h2 h1.isMap j el⟩ g2
theorem wpList_del {ops : Array Oper} {rest : List Oper} {o : Oper} {a : Act} {Q : Exit → Act → World → Prop} (hg : o.guard = none) (m x : Operand) (t : TypeId) (hop : o.op = Op.call { callee := Callee.builtin Builtin.delete, args := #[m, x], argTypes := #[t, k] }) (e : TypeId) (hk : P.underlying k = some (.int .i64)) (ht : P.underlying t = some (.map k e))
    (h : MapF P k R d w b n f) (j : Int) (hj : (Lit.int .i64 j).wf = true) (hm : a.eval m = .map (some b)) (hx : a.eval x = .int .i64 j)
    (hK : ∀ w', MapF P k R d w' b n (setK f j none) → w.grownBy w' (some b) → wpList P ops Q rest (a.put o.dst (.tuple #[])) w') : wpList P ops Q (o :: rest) a w := by
  obtain ⟨D, h1, h2⟩ := h
  exact wpList_delete_own w hg m x t k hop e (int_keyed hk) ht R b n D hm h1 _ _ hx (keyOf_int_mk hk hj) fun w' g1 g2 => hK w' ⟨_, g1, MapF.del h2 h1.isMap j⟩ g2.grown
end

/-- A pointer to a block's first cell. -/
def ptrVal (b : Nat) : Value := .pointer (some ⟨b, 0, none⟩)
def ptrR : Value → Option (DataW Unit × List MemPlace)
  | .pointer none => some (.lit (.int .i64 (-1)), [])
  | .pointer (some a) => if a = ⟨a.block, 0, none⟩ then some (.lit (.int .i64 a.block), []) else none
  | _ => none
def ptrD (b : Nat) : DataW Unit := .lit (.int .i64 b)
theorem ptrE : Elem ptrR ptrVal ptrD (.pointer none) where
  rd a := by simp [ptrR, ptrVal, ptrD]
  inv v a ps h := by
    unfold ptrR at h
    split at h
    · simp [ptrD] at h
    · rename_i x
      split at h
      · rename_i hx
        simp [ptrD] at h
        obtain ⟨h, _⟩ := h
        have h' : x.block = a := by omega
        rw [hx, h']; rfl
      · cases h
    · cases h
  zero := ⟨.lit (.int .i64 (-1)), rfl, fun v ps h => by
    unfold ptrR at h
    split at h
    · rfl
    · split at h
      · simp at h
      · cases h
    · cases h⟩

end Go.Proofs.Ytddipbpllogbaaa
