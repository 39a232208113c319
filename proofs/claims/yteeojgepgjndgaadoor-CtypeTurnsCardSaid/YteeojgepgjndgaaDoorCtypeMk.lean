/-
  Types out of plain numbers (alembicmake), in plain words; how long a type's text is.
-/
import Derived.Test.YteeojgepgjndgaaDoorCtypeDefs
import Derived.Lib.ItoaLen
namespace Go.Proofs.YteeojgepgjndgaaDoor
set_option linter.unusedVariables false

/-- The letter of a number. -/
def nameC (c : Int) : UInt8 := UInt8.ofNat (97 + (c % 18446744073709551616 % 26).toNat)
mutual
/-- A type of numbers, and what is left; n: how deep it may yet go. -/
def mkE : Nat → List Int → Er × List Int
  | 0, _ => (.none, [])
  | _ + 1, [] => (.none, [])
  | n + 1, k :: l =>
    if k = 0 then (.void, l)
    else if 1 ≤ k ∧ k ≤ 8 then (.num (2 ^ ((k - 1) / 2).toNat) (k % 2 = 0), l)
    else if k = 9 then (.flt, l)
    else if k = 10 then (.ptr (mkE n l).1, (mkE n l).2)
    else if k = 15 then (.num 3 false, l)
    else match l with
      | [] => (.none, [])
      | c :: m =>
        if k = 11 then (.arr c (mkE n m).1, (mkE n m).2)
        else if k = 12 then (.rcd false [nameC c], m)
        else if k = 13 then (.rcd true [nameC c], m)
        else if k = 14 then (.fn (mkE n m).1 (mkEs n (min c.toNat 8) (mkE n m).2).1, (mkEs n (min c.toNat 8) (mkE n m).2).2)
        else (.none, c :: m)
/-- So many types, one behind the other. -/
def mkEs : Nat → Nat → List Int → List Er × List Int
  | _, 0, l => ([], l)
  | n, c + 1, l => ((mkE n l).1 :: (mkEs n c (mkE n l).2).1, (mkEs n c (mkE n l).2).2)
end

/-- How much there is of a type: a bound of its text's length. -/
theorem len_commas : ∀ (l : List (List UInt8)), (commas l).length ≤ (l.map (·.length + 2)).sum
  | [] => by simp [commas]
  | [a] => by simp [commas]
  | a :: b :: l => by
    have := len_commas (b :: l)
    simp only [commas, List.length_append, List.map_cons, List.sum_cons, List.length_cons, List.length_nil] at *
    omega

mutual
/-- Its numbers are right. -/
def ErOk : Er → Prop
  | .num s _ => 1 ≤ s ∧ s ≤ 8
  | .rcd _ n => n.length = 1
  | .ptr t => ErOk t
  | .arr n t => I64 n ∧ ErOk t
  | .fn r ps => ErOk r ∧ ErsOk ps ∧ ps.length ≤ 8
  | _ => True
def ErsOk : List Er → Prop
  | [] => True
  | t :: l => ErOk t ∧ ErsOk l
end

theorem numText_len (s : Int) (u : Bool) : (numText s u).length ≤ 14 := by
  unfold numText numName
  repeat' split
  all_goals simp
theorem texts_map : ∀ (l : List Er), texts l = l.map text
  | [] => rfl
  | t :: l => by simp [texts, texts_map l]

mutual
theorem mkE_ok : ∀ (n : Nat) (l : List Int), (∀ x ∈ l, I64 x) →
    (mkE n l).2 <:+ l ∧ ErOk (mkE n l).1 ∧ (text (mkE n l).1).length + 14 * (mkE n l).2.length ≤ 14 * l.length + 1
  | 0, l, h => by simp [mkE, ErOk, text]
  | n + 1, [], h => by simp [mkE, ErOk, text]
  | n + 1, k :: l, h => by
    have hl : ∀ x ∈ l, I64 x := fun x hx => h x (List.mem_cons_of_mem _ hx)
    unfold mkE
    split
    · simp [ErOk, text]; omega
    split
    · rename_i h1 h2
      refine ⟨List.suffix_cons _ _, ?_, ?_⟩
      · simp only [ErOk]
        have : ((k - 1) / 2).toNat = 0 ∨ ((k - 1) / 2).toNat = 1 ∨ ((k - 1) / 2).toNat = 2 ∨ ((k - 1) / 2).toNat = 3 := by omega
        rcases this with e | e | e | e <;> rw [e] <;> decide
      · simp only [text, List.length_cons]
        have := numText_len (2 ^ ((k - 1) / 2).toNat) (k % 2 = 0)
        omega
    split
    · simp [ErOk, text]; omega
    split
    · obtain ⟨g1, g2, g3⟩ := mkE_ok n l hl
      refine ⟨g1.trans (List.suffix_cons _ _), by simpa only [ErOk] using g2, ?_⟩
      simp only [text, List.length_append, List.length_cons, List.length_nil]
      omega
    split
    · simp [ErOk, text, numText, isSz]; omega
    cases l with
    | nil => simp [ErOk, text]
    | cons c m =>
      have hm : ∀ x ∈ m, I64 x := fun x hx => hl x (List.mem_cons_of_mem _ hx)
      have s2 : m <:+ k :: c :: m := (List.suffix_cons _ _).trans (List.suffix_cons _ _)
      have hc := hl c (List.mem_cons_self ..)
      dsimp only
      split
      · obtain ⟨g1, g2, g3⟩ := mkE_ok n m hm
        refine ⟨g1.trans s2, by simp only [ErOk]; exact ⟨hc, g2⟩, ?_⟩
        have := Lib.itoa_length_le c hc.1 hc.2
        simp only [text, List.length_append, List.length_cons, List.length_nil]
        omega
      split
      · refine ⟨s2, by simp [ErOk], ?_⟩
        simp [text]; omega
      split
      · refine ⟨s2, by simp [ErOk], ?_⟩
        simp [text]; omega
      split
      · obtain ⟨g1, g2, g3⟩ := mkE_ok n m hm
        obtain ⟨k1, k2, k3, k4⟩ := mkEs_ok n (min c.toNat 8) (mkE n m).2 (fun x hx => hm x (g1.subset hx))
        refine ⟨(k1.trans g1).trans s2, by simp only [ErOk]; exact ⟨g2, k2, by omega⟩, ?_⟩
        have := len_commas (texts (mkEs n (min c.toNat 8) (mkE n m).2).1)
        rw [texts_map, List.map_map] at this
        simp only [text, List.length_append, List.length_cons, List.length_nil, texts_map]
        have e : (List.map ((fun x => x.length + 2) ∘ text) (mkEs n (min c.toNat 8) (mkE n m).2).1) = (List.map (fun e => (text e).length + 2) (mkEs n (min c.toNat 8) (mkE n m).2).1) := rfl
        rw [e] at this
        omega
      · refine ⟨List.suffix_cons _ _, by simp [ErOk], ?_⟩
        simp [text]; omega
theorem mkEs_ok : ∀ (n c : Nat) (l : List Int), (∀ x ∈ l, I64 x) →
    (mkEs n c l).2 <:+ l ∧ ErsOk (mkEs n c l).1 ∧ (mkEs n c l).1.length = c ∧ ((mkEs n c l).1.map (fun e => (text e).length + 2)).sum + 14 * (mkEs n c l).2.length ≤ 14 * l.length + 3 * c
  | n, 0, l, h => by unfold mkEs; simp [ErsOk]
  | n, c + 1, l, h => by
    obtain ⟨g1, g2, g3⟩ := mkE_ok n l h
    obtain ⟨k1, k2, k3, k4⟩ := mkEs_ok n c (mkE n l).2 (fun x hx => h x (g1.subset hx))
    unfold mkEs
    refine ⟨k1.trans g1, by simp only [ErsOk]; exact ⟨g2, k2⟩, by simp [k3], ?_⟩
    simp only [List.map_cons, List.sum_cons]
    omega
end
end Go.Proofs.YteeojgepgjndgaaDoor
