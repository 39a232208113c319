/-
  Cells behind new blocks, stores and calls, each as one equation with tests of linear arithmetic; regions that draw their order and only read and call. No program in sight.
-/
import Derived.Handy
import Derived.WalkSpells
import Derived.WalkLawsBesides
import Derived.Lib.Hide
import Derived.Deep.Light
import Derived.Deep.QuietTactic
import Derived.BigQuiet
namespace Go.Proofs.YteepjngkbjbheaaDoor
open Go.RowKit
set_option linter.unusedVariables false
set_option linter.unusedSimpArgs false

theorem below_step {w a b : World} (h1 : Below w.heap.size w a) (h2 : Below a.heap.size a b) : Below w.heap.size w b := h1.trans (h2.mono h1.size)

/-- What a cell holds of which nothing is known. -/
def cellElse (w : World) (b : Nat) (o : Nat) : Option Value := w.cell? ⟨b, o, none⟩
def frozenElse (w : World) (b : Nat) (o : Nat) : Bool := w.frozen? ⟨b, o, none⟩
/-- Behind a contract that ends in Below: each cell reads as before, if it was there; whether it was is a sentence of linear arithmetic. -/
theorem cif {W w1 : World} (hb : Below W.heap.size W w1) :
    (∀ b o, w1.cell? ⟨b, o, none⟩ = if b < W.heap.size then W.cell? ⟨b, o, none⟩ else cellElse w1 b o) ∧
    (∀ b o, w1.frozen? ⟨b, o, none⟩ = if b < W.heap.size then W.frozen? ⟨b, o, none⟩ else frozenElse w1 b o) ∧ W.heap.size ≤ w1.heap.size := by
  refine ⟨fun b o => ?_, fun b o => ?_, hb.size⟩
  · split
    · exact hb.cell (p := ⟨b, o, none⟩) ‹_›
    · rfl
  · split
    · exact hb.frozen (p := ⟨b, o, none⟩) ‹_›
    · rfl

theorem block_gone (w : World) (ob : Obj) (b : Nat) (h : ¬ b < w.heap.size) (h2 : ¬ b = w.heap.size) : (w.alloc ob).heap[b]? = none := by
  show (w.heap.push _)[b]? = none
  rw [Array.getElem?_push, if_neg (by omega)]
  exact Array.getElem?_eq_none (by omega)
theorem cell_alloc_if (w : World) (c : Array Value) (t : TypeId) (b o : Nat) :
    (w.alloc (.cells c t)).cell? ⟨b, o, none⟩ = if b < w.heap.size then w.cell? ⟨b, o, none⟩ else if b = w.heap.size then c[o]? else none := by
  split
  · exact World.cell?_alloc_past (hn := ‹_›) ..
  · split
    · exact World.cell?_alloc_at (hn := ‹_›) ..
    · simp [World.cell?, block_gone w _ b ‹_› ‹_›]
theorem frozen_alloc_if (w : World) (c : Array Value) (t : TypeId) (b o : Nat) :
    (w.alloc (.cells c t)).frozen? ⟨b, o, none⟩ = if b < w.heap.size then w.frozen? ⟨b, o, none⟩ else false := by
  split
  · exact World.frozen?_alloc_past (hn := ‹_›) ..
  · by_cases h : b = w.heap.size
    · exact World.frozen?_alloc_at (hn := h) ..
    · simp [World.frozen?, block_gone w _ b ‹_› h]
theorem cell_set_if (w : World) (b o : Nat) (v : Value) (b' o' : Nat) :
    (w.setCell ⟨b, o, none⟩ v).cell? ⟨b', o', none⟩ = if b' = b then (if o' = o then (w.cell? ⟨b, o, none⟩).map (fun _ => v) else w.cell? ⟨b', o', none⟩) else w.cell? ⟨b', o', none⟩ := by
  split
  · split
    · subst b' o'
      simp only [World.setCell, World.cell?, Array.getElem?_modify, if_true]
      cases hh : w.heap[b]? with
      | none => simp
      | some x =>
        cases x <;> simp
        rename_i c e f
        by_cases ho : o < c.size
        · simp [ho]
        · simp [ho]
    · exact World.cell?_setCell_other w _ _ v (by first | (simp; done) | (simp; omega))
  · exact World.cell?_setCell_other w _ _ v (by first | (simp; done) | (simp; omega))

/-- The worlds that extend w. -/
def Ext (w w' : World) : Prop := Below w.heap.size w w'
theorem Ext.of {w w' : World} (h : Ext w w') : Below w.heap.size w w' := h
theorem Ext.next {w a b : World} (h : Ext w a) (hb : Below a.heap.size a b) : Ext w b := below_step h hb

theorem wp_region_ext {P : Program} {id : Nat} {l : List Oper} {Q : Exit → Act → World → Prop} {a : Act} {w : World} (hm : P.follows .mixedOrders = true) (hB : Region.lexB .any l.toArray = true)
    (h : wpQuiet P l.toArray (Ext w) (fun a' => ∀ w', Ext w w' → Q .normal a' w') l a) : (Code.region id l.toArray true).wp P Q a w :=
  wp_region_quiet (C := Ext w) hm hB (Below.refl _ _).drew (by simpa using h)

end Go.Proofs.YteepjngkbjbheaaDoor
