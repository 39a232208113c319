/-
  What layer 3 (trace) computes, in plain words, on lists; no program in sight.
-/
import Derived.Test.YteepjngkbjbheaaDoorMachDefs
import Derived.Test.YteepjngkbjbheaaDoorSlices
namespace Go.Proofs.YteepjngkbjbheaaDoor
open Go.RowKit
set_option linter.unusedVariables false

def vCells (v : V) : List Value := [.int .i64 v.k, .int .u64 v.b, .int .i64 v.l]
def intCells (n : Int) : List Value := [.int .i64 n]

/-- An event as it lies in memory: its name, the slice of its arguments, what that reads as, its result. -/
structure Ev where
  name : ByteArray
  sv : Value
  args : List V
  res : V
def evCells (e : Ev) : List Value := [.string e.name, e.sv, .int .i64 e.res.k, .int .u64 e.res.b, .int .i64 e.res.l]

/-- The same name, arguments and result. -/
def SameE (a b : Ev) : Prop := a.name.toList = b.name.toList ∧ a.args = b.args ∧ a.res = b.res
/-- The events of a are the first ones of b. -/
def BeginsE (a b : List Ev) : Prop := a.length ≤ b.length ∧ ∀ (i : Nat) (x y : Ev), a[i]? = some x → b[i]? = some y → SameE x y

/-- As many, and each the same. -/
def EqE (a b : List Ev) : Prop := a.length = b.length ∧ ∀ (i : Nat) (x y : Ev), a[i]? = some x → b[i]? = some y → SameE x y
/-- The slice s reads as the events l. -/
def RdEvs (w : World) (s : Value) (l : List Ev) : Prop := RdL evCells 5 w s l ∧ ∀ e ∈ l, RdL vCells 3 w e.sv e.args

theorem RdEvs.next {w w' : World} {s : Value} {l : List Ev} (h : RdEvs w s l) (hb : Below w.heap.size w w') : RdEvs w' s l :=
  ⟨h.1.next hb, fun e he => (h.2 e he).next hb⟩

/-- A Boolean that tells whether P holds is answered; only new memory is made. -/
def BoolP (P : Prop) (w : World) (e : Ending) (w' : World) : Prop := ∃ b : Bool, e = .returned (.bool b) ∧ (b = true ↔ P) ∧ Below w.heap.size w w'

/-- The cells of the k-th event. -/
theorem RdL.evAt {w : World} {b off : Nat} {l : List Ev} (hc : ∀ (k : Nat) (a : Ev), l[k]? = some a → ∀ (j : Nat) (v : Value), (evCells a)[j]? = some v → w.cell? ⟨b, off + k * 5 + j, none⟩ = some v) {k : Nat} {x : Ev} (h : l[k]? = some x) :
    w.cell? ⟨b, off + k * 5, none⟩ = some (.string x.name) ∧ w.cell? ⟨b, off + k * 5 + 1, none⟩ = some x.sv ∧ w.cell? ⟨b, off + k * 5 + 2, none⟩ = some (.int .i64 x.res.k) ∧ w.cell? ⟨b, off + k * 5 + 3, none⟩ = some (.int .u64 x.res.b) ∧ w.cell? ⟨b, off + k * 5 + 4, none⟩ = some (.int .i64 x.res.l) :=
  ⟨hc k x h 0 _ rfl, hc k x h 1 _ rfl, hc k x h 2 _ rfl, hc k x h 3 _ rfl, hc k x h 4 _ rfl⟩
theorem EqE.snoc {l1 l2 : List Ev} {k : Nat} {x y : Ev} (h : ∀ (i : Nat) (x y : Ev), i < k → l1[i]? = some x → l2[i]? = some y → SameE x y) (h1 : l1[k]? = some x) (h2 : l2[k]? = some y) (hs : SameE x y) :
    ∀ (i : Nat) (x y : Ev), i < k + 1 → l1[i]? = some x → l2[i]? = some y → SameE x y := by
  intro i a b hi ha hb
  by_cases c : i < k
  · exact h i a b c ha hb
  · have : i = k := by omega
    subst this
    rw [h1] at ha; rw [h2] at hb
    injection ha with ha; injection hb with hb
    subst ha hb
    exact hs
theorem SameE.rfl' (a : Ev) : SameE a a := ⟨rfl, rfl, rfl⟩
theorem SameE.symm {a b : Ev} (h : SameE a b) : SameE b a := ⟨h.1.symm, h.2.1.symm, h.2.2.symm⟩
theorem SameE.trans {a b c : Ev} (h : SameE a b) (k : SameE b c) : SameE a c := ⟨h.1.trans k.1, h.2.1.trans k.2.1, h.2.2.trans k.2.2⟩
theorem BeginsE.refl (a : List Ev) : BeginsE a a := ⟨Nat.le_refl _, fun i x y hx hy => by rw [hx] at hy; injection hy with hy; subst hy; exact SameE.rfl' x⟩
theorem BeginsE.trans {a b c : List Ev} (h : BeginsE a b) (k : BeginsE b c) : BeginsE a c := by
  refine ⟨Nat.le_trans h.1 k.1, fun i x z hx hz => ?_⟩
  have hi : i < a.length := by
    rcases Nat.lt_or_ge i a.length with h1 | h1
    · exact h1
    · rw [List.getElem?_eq_none h1] at hx; cases hx
  have hy : b[i]? = some (b[i]'(Nat.lt_of_lt_of_le hi h.1)) := List.getElem?_eq_getElem _
  exact (h.2 i x _ hx hy).trans (k.2 i _ z hy hz)

theorem begins_take (a b : List Ev) (h : a.length ≤ b.length) : EqE a (b.take a.length) ↔ BeginsE a b := by
  constructor
  · intro k
    refine ⟨h, fun i x y hx hy => k.2 i x y hx ?_⟩
    rw [List.getElem?_take]
    have hi : i < a.length := by
      rcases Nat.lt_or_ge i a.length with h1 | h1
      · exact h1
      · rw [List.getElem?_eq_none h1] at hx; cases hx
    rw [if_pos hi]; exact hy
  · intro k
    refine ⟨by rw [List.length_take]; omega, fun i x y hx hy => k.2 i x y hx ?_⟩
    rw [List.getElem?_take] at hy
    split at hy
    · exact hy
    · cases hy
theorem RdEvs.take {w : World} {A : Option Addr} {n c : Nat} {l : List Ev} (h : RdEvs w (.slice A n c) l) (k : Nat) (hk : k ≤ l.length) : RdEvs w (.slice A k c) (l.take k) :=
  ⟨h.1.take k hk, fun e he => h.2 e (List.mem_of_mem_take he)⟩

/-- A run's outcome. -/
structure Out where
  tr : List Ev
  st : Int
  code : Int
  steps : Int
def SameO (a b : Out) : Prop := a.st = b.st ∧ a.code = b.code ∧ EqE a.tr b.tr
def RefinesO (s t : Out) : Prop := (0 ≤ t.st ∧ t.st ≤ 3) ∧
  ((s.st = 1 ∧ ((t.st = 1 ∧ SameO s t) ∨ (t.st ≠ 1 ∧ t.st ≠ 2 ∧ BeginsE t.tr s.tr))) ∨ ((s.st = 0 ∨ s.st = 2) ∧ (BeginsE t.tr s.tr ∨ BeginsE s.tr t.tr)))

theorem EqE.trans {a b c : List Ev} (h : EqE a b) (k : EqE b c) : EqE a c := by
  refine ⟨h.1.trans k.1, fun i x z hx hz => ?_⟩
  have hi : i < b.length := by
    rcases Nat.lt_or_ge i b.length with h1 | h1
    · exact h1
    · have : a[i]? = none := List.getElem?_eq_none (by rw [h.1]; exact h1)
      rw [this] at hx; cases hx
  have hy : b[i]? = some b[i] := List.getElem?_eq_getElem hi
  exact (h.2 i x _ hx hy).trans (k.2 i _ z hy hz)
theorem EqE.symm {a b : List Ev} (h : EqE a b) : EqE b a := ⟨h.1.symm, fun i x y hx hy => (h.2 i y x hy hx).symm⟩
theorem EqE.begins {a b : List Ev} (h : EqE a b) : BeginsE a b := ⟨Nat.le_of_eq h.1, h.2⟩

/-- To refine goes through, where the one between came to its end. -/
theorem refines_trans {a b c : Out} (hb : b.st ≠ 0 ∧ b.st ≠ 3 ∧ b.st ≠ 2) (h : RefinesO a b) (k : RefinesO b c) : RefinesO a c := by
  obtain ⟨⟨b1, b2⟩, h⟩ := h
  obtain ⟨⟨c1, c2⟩, k⟩ := k
  have hb1 : b.st = 1 := by omega
  refine ⟨⟨c1, c2⟩, ?_⟩
  have k' : (c.st = 1 ∧ SameO b c) ∨ (c.st ≠ 1 ∧ c.st ≠ 2 ∧ BeginsE c.tr b.tr) := by
    rcases k with ⟨_, k⟩ | ⟨k, _⟩
    · exact k
    · omega
  rcases h with ⟨ha, h⟩ | ⟨ha, h⟩
  · have h' : SameO a b := by
      rcases h with ⟨_, h⟩ | ⟨h, _⟩
      · exact h
      · exact absurd hb1 h
    left
    refine ⟨ha, ?_⟩
    rcases k' with ⟨k1, k2⟩ | ⟨k1, k2, k3⟩
    · exact .inl ⟨k1, h'.1.trans k2.1, h'.2.1.trans k2.2.1, h'.2.2.trans k2.2.2⟩
    · exact .inr ⟨k1, k2, k3.trans h'.2.2.symm.begins⟩
  · right
    refine ⟨ha, ?_⟩
    rcases k' with ⟨_, k2⟩ | ⟨_, _, k3⟩
    · rcases h with h | h
      · exact .inl (k2.2.2.symm.begins.trans h)
      · exact .inr (h.trans k2.2.2.begins)
    · rcases h with h | h
      · exact .inl (k3.trans h)
      · -- both begin b
        rcases Nat.le_total c.tr.length a.tr.length with hl | hl
        · left
          refine ⟨hl, fun i x y hx hy => ?_⟩
          have hi : i < b.tr.length := by
            rcases Nat.lt_or_ge i b.tr.length with h1 | h1
            · exact h1
            · have : a.tr[i]? = none := List.getElem?_eq_none (Nat.le_trans h.1 h1)
              rw [this] at hy; cases hy
          exact (k3.2 i x _ hx (List.getElem?_eq_getElem hi)).trans (h.2 i y _ hy (List.getElem?_eq_getElem hi)).symm
        · right
          refine ⟨hl, fun i x y hx hy => ?_⟩
          have hi : i < b.tr.length := by
            rcases Nat.lt_or_ge i b.tr.length with h1 | h1
            · exact h1
            · have : a.tr[i]? = none := List.getElem?_eq_none (Nat.le_trans h.1 h1)
              rw [this] at hx; cases hx
          exact (h.2 i x _ hx (List.getElem?_eq_getElem hi)).trans (k3.2 i y _ hy (List.getElem?_eq_getElem hi)).symm

theorem boolp_yes {P : Program} {f : FuncId} {args : Array Value} {w : World} {Q : Prop} (h : Calls P f args w (BoolP Q w)) (hq : Q) : Calls P f args w fun e w' => e = .returned (.bool true) ∧ Below w.heap.size w w' :=
  h.mono fun e w' ⟨b, he, hb, hw⟩ => ⟨by rw [he, hb.2 hq], hw⟩
theorem boolp_no {P : Program} {f : FuncId} {args : Array Value} {w : World} {Q : Prop} (h : Calls P f args w (BoolP Q w)) (hq : ¬ Q) : Calls P f args w fun e w' => e = .returned (.bool false) ∧ Below w.heap.size w w' :=
  h.mono fun e w' ⟨b, he, hb, hw⟩ => ⟨by
    cases b
    · exact he
    · exact absurd (hb.1 rfl) hq, hw⟩

end Go.Proofs.YteepjngkbjbheaaDoor
