/-
  The walks of layer 1's functions on doubles.
-/
import Derived.Test.YteeojgepgjndgaaDoorMachW2
namespace Go.Proofs.YteeojgepgjndgaaDoor
open Go.RowKit
set_option linter.unusedVariables false
set_option maxRecDepth 100000
set_option linter.unusedSimpArgs false

/-- How two doubles stand to each other. -/
def ford (x y : Nat) : Option Ordering := FloatKind.f64.format.order x y

/-- The double of a word; what isn't a number has one form. -/
def canonF (n : Nat) : V := if ford n n = some .eq then dblV n else dblV 9221120237041090560

def fbits (op : Int) (x y : Nat) : Option Nat :=
  if op = 62 then FloatKind.f64.format.add x y else if op = 63 then FloatKind.f64.format.sub x y
  else if op = 64 then FloatKind.f64.format.mul x y else FloatKind.f64.format.div x y

def farith (op : Int) (x y : Nat) : V := match fbits op x y with
  | some r => canonF r
  | none => dblV 9221120237041090560

def fcmp (op : Int) (o : Option Ordering) : Bool :=
  if op = 66 then o == some .eq else if op = 67 then o != some .eq else if op = 68 then o == some .lt
  else if op = 69 then o == some .lt || o == some .eq else if op = 70 then o == some .gt else o == some .gt || o == some .eq

def floatsV (op : Int) (x y : Nat) : V := if op = 62 ∨ op = 63 ∨ op = 64 ∨ op = 65 then farith op x y else flagV (fcmp op (ford x y))

/-- A word that the tape gives for what isn't a number isn't one. -/
theorem nan_order (t : Nat) : ford (t % 2 * 2 ^ 63 + 0x7ff0000000000000 + 1 + t / 2 % (2 ^ 52 - 1)) (t % 2 * 2 ^ 63 + 0x7ff0000000000000 + 1 + t / 2 % (2 ^ 52 - 1)) = none := by
  have h1 : t / 2 % (2 ^ 52 - 1) < 2 ^ 52 - 1 := Nat.mod_lt _ (by decide)
  have h2 : t % 2 < 2 := Nat.mod_lt _ (by decide)
  generalize t / 2 % (2 ^ 52 - 1) = r at *
  generalize t % 2 = s at *
  have e : (s * 2 ^ 63 + 0x7ff0000000000000 + 1 + r) % Ieee.double.signWeight = 0x7ff0000000000000 + 1 + r := by
    show (s * 2 ^ 63 + 0x7ff0000000000000 + 1 + r) % 9223372036854775808 = _
    omega
  have hb : ¬ 0x7ff0000000000000 + 1 + r < Ieee.double.binade := by show ¬ _ < 4503599627370496; omega
  have hi : ¬ 0x7ff0000000000000 + 1 + r < Ieee.double.infRung := by show ¬ _ < 0x7ff0000000000000; omega
  have he : ¬ 0x7ff0000000000000 + 1 + r = Ieee.double.infRung := by show ¬ _ = 0x7ff0000000000000; omega
  have hr : ∃ s' f, Ieee.double.read (s * 2 ^ 63 + 0x7ff0000000000000 + 1 + r) = .nan s' f := by
    simp only [Ieee.Format.read, e, hb, hi, he, if_false]
    exact ⟨_, _, rfl⟩
  obtain ⟨s', f, hr⟩ := hr
  show (Ieee.double.read _).order (Ieee.double.read _) = none
  rw [hr]
  rfl

/-- What the tape gives for an operation without an answer. -/
def nanAt (w : World) (x y : Nat) : Nat := w.tape w.drawn (.nanBits .f64 x y) % 2 * 2 ^ 63 + 0x7ff0000000000000 + 1 + w.tape w.drawn (.nanBits .f64 x y) / 2 % (2 ^ 52 - 1)
theorem nanAt_order (w : World) (x y : Nat) : ford (nanAt w x y) (nanAt w x y) = none := nan_order _
theorem canonF_nanAt (w : World) (x y : Nat) : canonF (nanAt w x y) = dblV 9221120237041090560 := by simp [canonF, nanAt_order]
theorem run_float_none {P : Program} (op : BinOp) (x y : Nat) (ho : op = .add ∨ op = .sub ∨ op = .mul ∨ op = .quo) (h : floatBits op .f64 x y = none) (t : TypeId) (w : World) :
    (binOp op t (.float .f64 x) (.float .f64 y)).run P w = .ok (.float .f64 (nanAt w x y)) w.drew := by
  unfold floatBits at h
  rcases ho with rfl | rfl | rfl | rfl <;> simp only at h <;> simp only [binOp, Op.floatArith, h] <;> rfl
theorem run_float_some {P : Program} (op : BinOp) (x y r : Nat) (h : floatBits op .f64 x y = some r) (t : TypeId) (w : World) :
    (binOp op t (.float .f64 x) (.float .f64 y)).run P w = .ok (.float .f64 r) w := run_float_arith w op t .f64 x y r h

theorem frombits_run (n : Int) (w : World) : (callFunc 95 #[.int .u64 n]).run Tryd.prog w = .ok (.value (.float .f64 n.toNat)) w := by kernel_rfl
theorem tobits_run (n : Nat) (w : World) : (callFunc 102 #[.float .f64 n]).run Tryd.prog w = .ok (.value (.int .u64 n)) w := by kernel_rfl
attribute [local go_sem] frombits_run tobits_run

set_option maxHeartbeats 400000 in
theorem isNaN_any (n : Nat) (w : World) :
    Calls Tryd.prog 101 #[.float .f64 n] w fun e w' => e = .returned (.bool (ford n n != some .eq)) ∧ w = w' := by
  go_enter Tryd.func101, Tryd.ntmps101
  go_wp2
  go_returns
  exact ⟨rfl, rfl⟩

set_option maxHeartbeats 400000 in
theorem float_any (n : Nat) (w : World) :
    Calls Tryd.prog 93 #[.float .f64 n] w fun e w' => e = .returned (.agg #[.int .i64 (canonF n).k, .int .u64 (canonF n).b, .int .i64 (canonF n).l]) ∧ Below w.heap.size w w' := by
  by_cases h : ford n n = some .eq
  · have h1 : (ford n n != some .eq) = false := by simp [h]
    go_enter Tryd.func93, Tryd.ntmps93
    go_wp2_with (first | (go_at_call 101; refine (isNaN_any _ _).mono ?_; rw [h1]; rintro e w' ⟨rfl, rfl⟩) | (go_at_call 92; refine (doubleOf_any _ _).mono ?_; rintro e w' ⟨rfl, hbl⟩; obtain ⟨hc, hf, hz⟩ := bcell hbl; (try simp only [World.size_alloc, World.size_setCell, World.size_drew, World.heap_drewN] at hz)))
    all_goals (((try simp only [Exit.inBlock, Exit.then]); go_light; refine bodyPost_ret (by simp [results, Tryd.results93, go_sem, *]; try rfl) rfl ?_); refine ⟨congrArg Ending.returned ?_, by (repeat' (first | exact Below.refl _ _ | assumption | refine below_next ?_ (by assumption) | refine Below.alloc ?_ ?_ _ | refine Below.setCell ?_ ?_ _ | refine Below.drew ?_ | refine below_drewN ?_ _ | go_size | (simp; omega)))⟩; simp [canonF, h, dblV])
  · have h1 : (ford n n != some .eq) = true := by simpa using h
    go_enter Tryd.func93, Tryd.ntmps93
    go_wp2_with (first | (go_at_call 101; refine (isNaN_any _ _).mono ?_; rw [h1]; rintro e w' ⟨rfl, rfl⟩) | (go_at_call 92; refine (doubleOf_any _ _).mono ?_; rintro e w' ⟨rfl, hbl⟩; obtain ⟨hc, hf, hz⟩ := bcell hbl; (try simp only [World.size_alloc, World.size_setCell, World.size_drew, World.heap_drewN] at hz)))
    all_goals (((try simp only [Exit.inBlock, Exit.then]); go_light; refine bodyPost_ret (by simp [results, Tryd.results93, go_sem, *]; try rfl) rfl ?_); refine ⟨congrArg Ending.returned ?_, by (repeat' (first | exact Below.refl _ _ | assumption | refine below_next ?_ (by assumption) | refine Below.alloc ?_ ?_ _ | refine Below.setCell ?_ ?_ _ | refine Below.drew ?_ | refine below_drewN ?_ _ | go_size | (simp; omega)))⟩; simp [canonF, h, dblV])

end Go.Proofs.YteeojgepgjndgaaDoor
