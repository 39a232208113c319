/-
  MemoryPieces: what is loaded behind a store near a pointer, in plain words.
-/
import Derived.Test.YtddipbpllogbaaaMemW4
namespace Go.Proofs.Ytddipbpllogbaaa
open Go.RowKit
set_option linter.unusedVariables false
set_option linter.unusedSimpArgs false

/-- The value that is stored into a chunk. -/
def valFor (chunk : Int) : V := if kindV chunk = 2 then ⟨2, 7, 0⟩ else if kindV chunk = 3 then ⟨3, 7, 0⟩ else ⟨1, 7, 0⟩
/-- A block of 24 cells with a pointer in its midst. -/
def midB (s : Nat) (p : V) : Bk := ⟨s + 2, s, s + 1, 1, List.replicate 8 256 ++ [512, 513, 514, 515, 516, 517, 518, 519] ++ List.replicate 8 256, setK (fun _ => none) 8 (some p), false⟩
def MP (s : Nat) (p : V) : Int → Option Bk := setK (setK (fun _ => none) 1 (some ⟨s + 2, s, s + 1, 0, List.replicate 24 256, fun _ => none, false⟩)) 1 (some (midB s p))
theorem mp_store (s : Nat) (ob lb : Int) : storeA (setK (fun _ => none) 1 (some ⟨s + 2, s, s + 1, 0, List.replicate 24 256, fun _ => none, false⟩)) 6 ⟨4, 8, 1⟩ ⟨4, ob, lb⟩ = some (MP s ⟨4, ob, lb⟩) := by kernel_rfl
theorem mp_load (s : Nat) (ob lb : Int) : loadA (MP s ⟨4, ob, lb⟩) 6 ⟨4, 8, 1⟩ = some ⟨4, ob, lb⟩ := by kernel_rfl
def fitsA (n a : Int) : Prop := 0 < n ∧ a % n = 0 ∧ a + n ≤ 24
instance (n a : Int) : Decidable (fitsA n a) := inferInstanceAs (Decidable (_ ∧ _ ∧ _))
def nowV (n a : Int) (p : V) : V := if fitsA n a ∧ a < 16 ∧ 8 < a + n then (if a = 8 ∧ n = 8 then ⟨2, 7, 0⟩ else ⟨0, 0, 0⟩) else p

def both (s : Nat) (p : V) (chunk a : Int) : Bool × Option V :=
  ((storeA (MP s p) chunk ⟨4, a, 1⟩ (valFor chunk)).isSome, loadA ((storeA (MP s p) chunk ⟨4, a, 1⟩ (valFor chunk)).getD (MP s p)) 6 ⟨4, 8, 1⟩)

theorem both_1 (s : Nat) (ob lb a : Int) (h : a = 0 ∨ a = 1 ∨ a = 2 ∨ a = 3 ∨ a = 4 ∨ a = 5 ∨ a = 6 ∨ a = 7 ∨ a = 8 ∨ a = 9 ∨ a = 10 ∨ a = 11 ∨ a = 12 ∨ a = 13 ∨ a = 14 ∨ a = 15 ∨ a = 16 ∨ a = 17 ∨ a = 18 ∨ a = 19 ∨ a = 20 ∨ a = 21 ∨ a = 22 ∨ a = 23) (chunk : Int) (hc : chunk = 1 ∨ chunk = 2 ∨ chunk = 3 ∨ chunk = 4 ∨ chunk = 5 ∨ chunk = 6 ∨ chunk = 7) :
    both s ⟨4, ob, lb⟩ chunk a = (decide (fitsA (sizeV chunk) a), some (nowV (sizeV chunk) a ⟨4, ob, lb⟩)) := by
  rcases hc with rfl | rfl | rfl | rfl | rfl | rfl | rfl <;> rcases h with rfl | rfl | rfl | rfl | rfl | rfl | rfl | rfl | rfl | rfl | rfl | rfl | rfl | rfl | rfl | rfl | rfl | rfl | rfl | rfl | rfl | rfl | rfl | rfl <;> kernel_rfl

theorem both_any (s : Nat) (ob lb a chunk : Int) (h : 0 ≤ a ∧ a < 24) : both s ⟨4, ob, lb⟩ chunk a = (decide (fitsA (sizeV chunk) a), some (nowV (sizeV chunk) a ⟨4, ob, lb⟩)) := by
  by_cases hc : chunk = 1 ∨ chunk = 2 ∨ chunk = 3 ∨ chunk = 4 ∨ chunk = 5 ∨ chunk = 6 ∨ chunk = 7
  · exact both_1 s ob lb a (by omega) chunk hc
  · have hs : sizeV chunk = 0 := by unfold sizeV; grind
    have hf : findA (MP s ⟨4, ob, lb⟩) chunk ⟨4, a, 1⟩ = none := by unfold findA; simp [hs]
    have h1 : ¬ fitsA (sizeV chunk) a := by unfold fitsA; omega
    have h2 : storeA (MP s ⟨4, ob, lb⟩) chunk ⟨4, a, 1⟩ (valFor chunk) = none := by unfold storeA; rw [hf]
    unfold both nowV
    rw [h2, hs]
    simp only [Option.isSome_none, Option.getD_none, mp_load]
    simp [fitsA]

end Go.Proofs.Ytddipbpllogbaaa
