/-
  Sets of ints (maps to struct{}) as rising lists: what the block of a map holds. No program in sight.
-/
import Derived.Test.YtadcjmfednachaaSolA
import Derived.Test.YtadcjmfednachaaIf
import Derived.Maps.OwnSet
import Derived.Maps.Range
namespace Go.Proofs.Ytadcjmfednachaa
open Go.RowKit Go.Maps Go.MapKept Go.ChangeMaps
open Sol (addI Rising)
set_option linter.unusedVariables false

def I64w (x : Int) : Prop := (Lit.int .i64 x).wf = true
/-- Block b is a set that holds just the numbers of l. -/
def MapL (P : Program) (k : TypeId) (w : World) (b : Nat) (l : List Int) : Prop :=
  ∃ D : DataW Unit, w.ownsMap P k unitElem b l.length D ∧ Maps.size D = l.length ∧ Rising l ∧ (∀ x ∈ l, I64w x) ∧ ∀ j, I64w j → Maps.has D (.int .i64 j) = decide (j ∈ l)
theorem own_tight {H : Type} {P : Program} {k : TypeId} {R : Value → Option (DataW H × List MemPlace)} {w : World} {b n : Nat} {D : DataW H} (h : w.ownsMap P k R b n D) : w.ownsMap P k R b (Maps.size D) D := by
  obtain ⟨es, clock, hb, F, hs, rfl⟩ := h
  exact ⟨es, clock, hb, F, by simp [Maps.size, length_sorted], rfl⟩
section
variable {P : Program} {k : TypeId} {w w' : World} {b : Nat} {l : List Int}
theorem MapL.block (h : MapL P k w b l) (hb : w'.heap[b]? = w.heap[b]?) : MapL P k w' b l := by
  obtain ⟨D, ⟨es, clock, h1, h2⟩, h3⟩ := h
  exact ⟨D, ⟨es, clock, hb.trans h1, h2⟩, h3⟩
theorem MapL.lt (h : MapL P k w b l) : b < w.heap.size := by obtain ⟨D, h1, _⟩ := h; exact h1.lt
theorem MapL.next (h : MapL P k w b l) (hb : Below w.heap.size w w') : MapL P k w' b l := h.block (hb.block b h.lt)
theorem MapL.rising (h : MapL P k w b l) : Rising l := by obtain ⟨_, _, _, h, _⟩ := h; exact h
theorem MapL.wf (h : MapL P k w b l) : ∀ x ∈ l, I64w x := by obtain ⟨_, _, _, _, h, _⟩ := h; exact h
theorem MapL.made (hb : w.heap[b]? = some (.map #[] 0)) : MapL P k w b [] :=
  ⟨.map [], ⟨#[], 0, hb, ⟨by simp, stamped_empty 0, by simp⟩, Nat.le_refl _, rfl⟩, rfl, List.Pairwise.nil, by simp, fun j _ => rfl⟩
theorem MapL.obj (h : MapL P k w b l) : ∃ es clock, w.heap[b]? = some (.map es clock) := by
  obtain ⟨D, ⟨es, clock, h1, _⟩, _⟩ := h
  exact ⟨es, clock, h1⟩
/-- 'v, ok := m[x]' -/
theorem MapL.look {t e : TypeId} (h : MapL P k w b l) (hk : P.underlying k = some (.int .i64)) (ht : P.underlying t = some (.map k e)) (hz : ∀ w, (zeroValue e).run P w = .ok (.agg #[]) w) {j : Int} (hj : I64w j) :
    (Instr.lookup t (.map (some b)) (.int .i64 j) true).run P w = .ok (.tuple #[.agg #[], .bool (decide (j ∈ l))]) w := by
  obtain ⟨D, h1, _, _, _, h5⟩ := h
  obtain ⟨v, ps, hrun, hv⟩ := h1.look_ok (int_keyed hk) ht (hz w) unitElem_mk (keyOf_int_mk hk hj)
  obtain ⟨rfl, _⟩ := unitElem_inv hv
  rw [hrun, h5 j hj]
theorem look_none {t e : TypeId} (hk : P.underlying k = some (.int .i64)) (ht : P.underlying t = some (.map k e)) (hz : ∀ w, (zeroValue e).run P w = .ok (.agg #[]) w) {j : Int} (hj : I64w j) (w : World) :
    (Instr.lookup t (.map none) (.int .i64 j) true).run P w = .ok (.tuple #[.agg #[], .bool false]) w := by
  have := Maps.look_nil true (int_keyed hk) ht (hz w) (keyOf_int_mk hk hj) (P := P) (w := w)
  simpa using this
/-- 'len(m)' -/
theorem MapL.len {t e : TypeId} (h : MapL P k w b l) (ht : P.underlying t = some (.map k e)) (ty : TypeId) : (Builtin.len_ #[t] ty #[.map (some b)]).run P w = .ok (.int .i64 l.length) w := by
  obtain ⟨D, h1, h2, _⟩ := h
  rw [h1.len ht ty, h2]
/-- 'm[x] = struct{}{}' -/
theorem MapL.put {t e : TypeId} (h : MapL P k w b l) (hk : P.underlying k = some (.int .i64)) (ht : P.underlying t = some (.map k e)) (hn : l.length < maxLen) {x : Int} (hx : I64w x) :
    ∃ w', (Instr.mapUpdate t (.map (some b)) (.int .i64 x) (.agg #[])).run P w = .ok () w' ∧ MapL P k w' b (addI l x) ∧ w.grownBy w' (some b) ∧ w'.heap.size = w.heap.size := by
  obtain ⟨D, h1, h2, h3, h4, h5⟩ := h
  obtain ⟨w', hrun, hown, hturn⟩ := h1.store (int_keyed hk) ht hn (keyOf_int_mk hk hx) unitElem_mk
  have hsz : Maps.size (D.put (.int .i64 x) (.agg [])) = (addI l x).length := by
    rw [Maps.size_put (h1.tidy (int_keyed hk)), h5 x hx, Sol.addI_length, h2]
    by_cases c : x ∈ l <;> simp [c]
  refine ⟨w', hrun, ⟨_, hsz ▸ own_tight hown, hsz, Sol.addI_rising h3 x, fun y hy => ?_, fun j hj => ?_⟩, hturn.grown, ?_⟩
  · rcases Sol.mem_addI.1 hy with rfl | hy
    · exact hx
    · exact h4 y hy
  · by_cases c : j = x
    · subst c
      rw [has_put_same h1.isMap (by simp [WideAt.IsKeyLit])]
      simp [Sol.mem_addI]
    · rw [has_put_other (by intro e; injection e with _ e; exact c e), h5 j hj]
      simp [Sol.mem_addI, c]
  · obtain ⟨es, clock, es', clock', hb, rfl⟩ := hturn
    simp [setBlock]
/-- .. where it is there: nothing turns. -/
theorem put_there {t e : TypeId} (h : MapL P k w b l) (hk : P.underlying k = some (.int .i64)) (ht : P.underlying t = some (.map k e)) {x : Int} (hx : I64w x) (hm : x ∈ l) :
    (Instr.mapUpdate t (.map (some b)) (.int .i64 x) (.agg #[])).run P w = .ok () w := by
  obtain ⟨D, h1, h2, h3, h4, h5⟩ := h
  have hh := h5 x hx
  obtain ⟨es, clock, hb, F, hs, rfl⟩ := h1
  have K : Keyed P k := int_keyed hk
  have hkey : keyOf P k (.int .i64 x) = some (.int .i64 x) := keyOf_int_mk hk hx
  rcases K.find w hkey es.toList F.keys with ⟨g1, g2⟩ | ⟨j, e0, g1, g2, g3⟩
  · exfalso
    rw [decide_eq_true hm] at hh
    obtain ⟨p, hp, hpk⟩ := List.any_eq_true.1 hh
    obtain ⟨y, hy, rfl⟩ := List.mem_map.1 (mem_sorted.1 hp)
    obtain ⟨z, hz⟩ := F.reads y hy
    have m0 := WideElems.rd_key hz
    rw [WideElems.rg_of hz] at hpk
    have e1 := WideAt.sameKey_eq hpk
    rw [e1] at m0
    exact g2 y hy (K.inj m0 hkey)
  · have hj : es[j]? = some e0 := by simpa using g2
    have hval : e0.val = .agg #[] := by
      obtain ⟨z, hz⟩ := F.reads e0 (List.mem_of_getElem? g2)
      obtain ⟨u, hu, _⟩ := WideElems.rd_val hz
      exact (unitElem_inv hu).1
    have hsame : (es.modify j (fun e' => { e' with key := .int .i64 x, val := .agg #[] })) = es := by
      apply Array.ext_getElem?
      intro i
      rw [Array.getElem?_modify]
      split
      · rename_i e
        subst e
        rw [hj]
        simp only [Option.map_some]
        rw [← g3, ← hval]
      · rfl
    have hset : setBlock w b (.map es clock) = w := by
      have e : w.heap.setIfInBounds b (.map es clock) = w.heap := by
        apply Array.ext_getElem?
        intro i
        by_cases hi : i = b
        · subst hi
          exact (heap_setBlock_same hb _).trans hb.symm
        · exact heap_setBlock_other hb _ hi
      unfold setBlock
      rw [e]
    have hrun : (Instr.mapUpdate t (.map (some b)) (.int .i64 x) (.agg #[])).run P w = .ok () (setBlock w b (.map (es.modify j (fun e' => { e' with key := .int .i64 x, val := .agg #[] })) clock)) := by
      simp [Instr.mapUpdate, run_underlying ht, MapKept.run_getObj_map hb, K.check w false hkey, g1, hj, g3, K.stays w hkey, MapKept.run_setObj_map _ hb, Result.andThen, setBlock]
    rw [hrun, hsame, hset]
end
end Go.Proofs.Ytadcjmfednachaa
