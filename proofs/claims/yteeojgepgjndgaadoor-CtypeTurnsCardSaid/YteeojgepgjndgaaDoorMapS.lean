/-
  Maps whose keys are strings and whose elements are ints, as functions. No program in sight.
-/
import Derived.Test.YteeojgepgjndgaaDoorIf
import Derived.Maps.OwnSet
import Derived.StringKeys
namespace Go.Proofs.YteeojgepgjndgaaDoor
open Go.RowKit Go.Maps Go.MapKept Go.WideMaps
set_option linter.unusedVariables false

/-- Block b is a map of at most n entries; a look for a name gives f's number (0 where there is none). -/
def MapS (P : Program) (k e : TypeId) (w : World) (b n : Nat) (f : List UInt8 → Int) : Prop :=
  ∃ D : DataW Unit, w.ownsMap P k (plainElem P e) b n D ∧ Maps.IsMap D ∧ ∀ s : List UInt8, D.atKey (.string s) (.lit (.int .i64 0)) = .lit (.int .i64 (f s))

section
variable {P : Program} {k e : TypeId} {w w' : World} {b n : Nat} {f : List UInt8 → Int}
theorem MapS.block (h : MapS P k e w b n f) (hb : w'.heap[b]? = w.heap[b]?) : MapS P k e w' b n f := by
  obtain ⟨D, ⟨es, clock, h1, h2⟩, h3⟩ := h
  exact ⟨D, ⟨es, clock, hb.trans h1, h2⟩, h3⟩
theorem MapS.lt (h : MapS P k e w b n f) : b < w.heap.size := by obtain ⟨D, h1, _⟩ := h; exact h1.lt
theorem MapS.next (h : MapS P k e w b n f) (hb : Below w.heap.size w w') : MapS P k e w' b n f := h.block (hb.block b h.lt)
theorem MapS.made (w : World) : MapS P k e (w.alloc (.map #[] 0)) w.heap.size 0 (fun _ => 0) :=
  ⟨.map [], World.ownsMap_made _ _ _ _, isMap_empty, fun s => rfl⟩
theorem MapS.more {m : Nat} (h : MapS P k e w b n f) (hm : n ≤ m) : MapS P k e w b m f := by
  obtain ⟨D, h1, h2⟩ := h
  exact ⟨D, h1.mono hm, h2⟩
theorem MapS.look {t : TypeId} (hk : P.underlying k = some .string) (he : P.underlying e = some (.int .i64)) (ht : P.underlying t = some (.map k e)) (hz : ∀ w, (zeroValue e).run P w = .ok (.int .i64 0) w) (h : MapS P k e w b n f) (s : ByteArray) (hs : s.size ≤ maxLen) :
    (Instr.lookup t (.map (some b)) (.string s) false).run P w = .ok (.int .i64 (f s.data.toList)) w := by
  obtain ⟨D, h1, _, h2⟩ := h
  obtain ⟨c, hrun, hat, _⟩ := h1.lookup_int (string_keyed hk) ht he (hz w) (keyOf_string_mk hk hs)
  rw [hrun]
  rw [h2] at hat
  injection hat with hat
  injection hat with _ hat
  rw [hat]
theorem wpList_lookS {t : TypeId} {ops : Array Oper} {rest : List Oper} {o : Oper} {a : Act} {Q : Exit → Act → World → Prop} (hg : o.guard = none) (m x : Operand) (hop : o.op = Op.lookup t m x false) (hk : P.underlying k = some .string) (he : P.underlying e = some (.int .i64)) (ht : P.underlying t = some (.map k e)) (hz : ∀ w, (zeroValue e).run P w = .ok (.int .i64 0) w)
    (h : MapS P k e w b n f) (s : ByteArray) (hs : s.size ≤ maxLen) (hm : a.eval m = .map (some b)) (hx : a.eval x = .string s)
    (hK : wpList P ops Q rest (a.put o.dst (.int .i64 (f s.toList))) w) : wpList P ops Q (o :: rest) a w := by
  rw [ByteArray.toList_eq] at hK
  obtain ⟨D, h1, _, h2⟩ := h
  refine wpList_lookup_own_int w hg m x t hop k e .i64 (string_keyed hk) ht he (hz w) b n D hm h1 _ _ hx (keyOf_string_mk hk hs) fun c hat hwc => ?_
  rw [h2] at hat
  injection hat with hat
  injection hat with _ hat
  rw [← hat]
  exact hK
def setS (f : List UInt8 → Int) (s : List UInt8) (v : Int) : List UInt8 → Int := fun x => if x = s then v else f x
theorem wpList_putS {ops : Array Oper} {rest : List Oper} {o : Oper} {a : Act} {Q : Exit → Act → World → Prop} (hg : o.guard = none) (m x v : Operand) (t : TypeId) (hop : o.op = Op.mapUpdate t m x v) (hk : P.underlying k = some .string) (he : P.underlying e = some (.int .i64)) (ht : P.underlying t = some (.map k e))
    (h : MapS P k e w b n f) (hn : n < maxLen) (s : ByteArray) (hs : s.size ≤ maxLen) (c : Int) (hc : (Lit.int .i64 c).wf = true) (hm : a.eval m = .map (some b)) (hx : a.eval x = .string s) (hv : a.eval v = .int .i64 c)
    (hK : ∀ w', MapS P k e w' b (n + 1) (setS f s.toList c) → w.grownBy w' (some b) → wpList P ops Q rest (a.put o.dst undef) w') : wpList P ops Q (o :: rest) a w := by
  rw [ByteArray.toList_eq] at hK
  obtain ⟨D, h1, hD, h2⟩ := h
  refine wpList_mapUpdate_own w hg m x v t hop k e (string_keyed hk) ht (plainElem P e) b n D hm h1 hn _ _ _ hx hv (keyOf_string_mk hk hs) (.lit (.int .i64 c)) [] (plainElem_int he hc) fun w' g1 g2 => hK w' ⟨_, g1, hD.put _ _, fun s' => ?_⟩ g2
  unfold setS
  by_cases hss : s' = s.data.toList
  · subst hss
    rw [if_pos rfl]
    exact atKey_put_same hD (by simp [WideAt.IsKeyLit]) _ _
  · rw [if_neg hss, atKey_put_other (by intro h; injection h with h; exact hss h)]
    exact h2 s'
end
end Go.Proofs.YteeojgepgjndgaaDoor
