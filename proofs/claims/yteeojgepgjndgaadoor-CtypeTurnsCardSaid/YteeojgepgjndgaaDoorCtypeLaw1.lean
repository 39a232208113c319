/-
  The common type of two: the same either way round, promoted, its own with each of the two.
-/
import Derived.Test.YteeojgepgjndgaaDoorCtypeDefs
namespace Go.Proofs.YteeojgepgjndgaaDoor
set_option linter.unusedVariables false

theorem isSz_iff (s : Int) : isSz s = true ↔ s = 1 ∨ s = 2 ∨ s = 4 ∨ s = 8 := by simp [isSz]
theorem isSz_no {s : Int} (h : ¬ (s = 1 ∨ s = 2 ∨ s = 4 ∨ s = 8)) : isSz s = false := by simpa [isSz] using h

/-- What a type is reckoned as: none of these; a double; a number. -/
inductive Ar where
  | no | flt
  | num (s : Int) (u : Bool)
def arOf (t : Ty) : Ar := if isF t then .flt else match numOf (promote t) with
  | some (s, u) => .num s u
  | none => .no
def commonA : Ar → Ar → Ty × Bool
  | .no, _ => (.none, false)
  | _, .no => (.none, false)
  | .flt, _ => (.flt, true)
  | _, .flt => (.flt, true)
  | .num s u, .num r v => if s > r ∨ s = r ∧ u = true then (.num s u, true) else (.num r v, true)
theorem common_eq (t u : Ty) : common t u = commonA (arOf t) (arOf u) := by
  unfold common arOf
  cases ht : isF t <;> cases hu : isF u <;> rcases h1 : numOf (promote t) with _ | ⟨s, x⟩ <;> rcases h2 : numOf (promote u) with _ | ⟨r, y⟩ <;> simp [commonA]
/-- What comes of it is a double, or a number of four or eight bytes. -/
def ArOk : Ar → Prop
  | .num s _ => s = 4 ∨ s = 8
  | _ => True
theorem arOf_ok (t : Ty) : ArOk (arOf t) := by
  cases t with
  | num s u =>
    by_cases h : s = 1 ∨ s = 2
    · simp [arOf, isF, promote, h, numOf, isSz, ArOk]
    · by_cases h2 : s = 4 ∨ s = 8
      · have e : isSz s = true := by rw [isSz_iff]; omega
        simp [arOf, isF, promote, h, numOf, e, ArOk, h2]
      · have e : isSz s = false := isSz_no (by omega)
        simp [arOf, isF, promote, h, numOf, e, ArOk]
  | _ => simp [arOf, isF, promote, numOf, ArOk]
def tyOf : Ar → Ty
  | .no => .none
  | .flt => .flt
  | .num s u => .num s u
theorem arOf_tyOf (a : Ar) (h : ArOk a) : arOf (tyOf a) = a := by
  cases a with
  | num s u => rcases h with rfl | rfl <;> rfl
  | _ => rfl
theorem promote_tyOf (a : Ar) (h : ArOk a) : promote (tyOf a) = tyOf a := by
  cases a with
  | num s u => rcases h with rfl | rfl <;> rfl
  | _ => rfl
/-- The greater of two. -/
def joinA : Ar → Ar → Ar
  | .no, _ => .no
  | _, .no => .no
  | .flt, _ => .flt
  | _, .flt => .flt
  | .num s u, .num r v => if s > r ∨ s = r ∧ u = true then .num s u else .num r v
def someA : Ar → Bool
  | .no => false
  | _ => true
theorem commonA_eq (a b : Ar) : commonA a b = (tyOf (joinA a b), someA (joinA a b)) := by
  cases a <;> cases b <;> simp only [commonA, joinA, tyOf, someA]
  split <;> rfl
theorem joinA_comm (a b : Ar) (ha : ArOk a) (hb : ArOk b) : joinA a b = joinA b a := by
  cases a <;> cases b <;> simp only [joinA]
  rename_i s u r v
  rcases ha with rfl | rfl <;> rcases hb with rfl | rfl <;> cases u <;> cases v <;> rfl
theorem joinA_ok (a b : Ar) (ha : ArOk a) (hb : ArOk b) : ArOk (joinA a b) := by
  cases a <;> cases b <;> simp only [joinA] <;> try trivial
  split <;> assumption
theorem joinA_left (a b : Ar) (ha : ArOk a) (hb : ArOk b) (h : someA (joinA a b) = true) : joinA (joinA a b) a = joinA a b := by
  cases a <;> cases b <;> simp_all [joinA, someA]
  rename_i s u r v
  rcases ha with rfl | rfl <;> rcases hb with rfl | rfl <;> cases u <;> cases v <;> rfl
theorem joinA_self (a : Ar) : joinA a a = a := by
  cases a <;> simp [joinA]
theorem joinA_some (a b : Ar) (h : someA (joinA a b) = true) : someA a = true ∧ someA b = true := by
  cases a <;> cases b <;> simp_all [joinA, someA]

/-- All that the law CtypeCommon asks. -/
theorem common_law (t u : Ty) :
    common t u = common u t ∧ ((common t u).2 = false → (common t u).1 = .none) ∧
    ((common t u).2 = true → (common (common t u).1 t) = ((common t u).1, true) ∧ (common (common t u).1 u) = ((common t u).1, true) ∧ (common t t) = (promote t, true) ∧ promote (common t u).1 = (common t u).1 ∧ (common t u).1 ≠ .none) := by
  have a1 := arOf_ok t
  have a2 := arOf_ok u
  have e1 : common t u = common u t := by rw [common_eq, common_eq, commonA_eq, commonA_eq, joinA_comm _ _ a1 a2]
  refine ⟨e1, ?_, ?_⟩
  · rw [common_eq, commonA_eq]
    cases joinA (arOf t) (arOf u) <;> simp [someA, tyOf]
  · intro h
    rw [common_eq, commonA_eq] at h
    simp only at h
    have hk := joinA_ok _ _ a1 a2
    have hb := joinA_some _ _ h
    have e2 : common t u = (tyOf (joinA (arOf t) (arOf u)), true) := by rw [common_eq, commonA_eq, h]
    rw [e2]
    simp only
    refine ⟨?_, ?_, ?_, promote_tyOf _ hk, ?_⟩
    · rw [common_eq, commonA_eq, arOf_tyOf _ hk, joinA_left _ _ a1 a2 h, h]
    · rw [common_eq, commonA_eq, arOf_tyOf _ hk, joinA_comm _ _ a1 a2, joinA_left _ _ a2 a1 (by rw [joinA_comm _ _ a2 a1]; exact h), joinA_comm _ _ a2 a1, h]
    · rw [common_eq, commonA_eq, joinA_self, hb.1]
      have : tyOf (arOf t) = promote t := by
        have hs := hb.1
        unfold arOf at hs ⊢
        cases t with
        | num s v =>
          by_cases c : s = 1 ∨ s = 2
          · simp [isF, promote, c, numOf, isSz, tyOf]
          · by_cases c2 : isSz s = true
            · simp [isF, promote, c, numOf, c2, tyOf]
            · simp [isF, promote, c, numOf, c2, someA] at hs
        | flt => rfl
        | _ => simp [isF, promote, numOf, someA] at hs
      rw [this]
    · cases hj : joinA (arOf t) (arOf u) with
      | no => rw [hj] at h; simp [someA] at h
      | _ => simp [tyOf]
end Go.Proofs.YteeojgepgjndgaaDoor
