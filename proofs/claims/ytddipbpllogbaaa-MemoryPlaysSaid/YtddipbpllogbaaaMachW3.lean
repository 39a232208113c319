/-
  The walks of layer 1's functions on doubles.
-/
import Derived.Test.YtddipbpllogbaaaMachW2
namespace Go.Proofs.Ytddipbpllogbaaa
open Go.RowKit
set_option linter.unusedVariables false
set_option linter.unusedSimpArgs false

/-- How two doubles stand to each other. -/
def ford (x y : Nat) : Option Ordering := FloatKind.f64.format.order x y

/-- The double of a word; what isn't a number has one form. -/
def canonF (n : Nat) : V := if ford n n = some .eq then dblV n else dblV 9221120237041090560

def fbits (op : Int) (x y : Nat) : Option Nat :=
  if op = 62 then FloatKind.f64.format.add x y else if op = 63 then FloatKind.f64.format.sub x y
  else if op = 64 then FloatKind.f64.format.mul x y else FloatKind.f64.format.div x y

def farith (op : Int) (x y : Nat) : V := match fbits op x y with
  | some r => canonF r
  | none => dblV 9221120237041090560

def fcmp (op : Int) (o : Option Ordering) : Bool :=
  if op = 66 then o == some .eq else if op = 67 then o != some .eq else if op = 68 then o == some .lt
  else if op = 69 then o == some .lt || o == some .eq else if op = 70 then o == some .gt else o == some .gt || o == some .eq

def floatsV (op : Int) (x y : Nat) : V := if op = 62 ∨ op = 63 ∨ op = 64 ∨ op = 65 then farith op x y else flagV (fcmp op (ford x y))

/-- A word that the tape gives for what isn't a number isn't one. -/
theorem nan_order (t : Nat) : ford (t % 2 * 2 ^ 63 + 0x7ff0000000000000 + 1 + t / 2 % (2 ^ 52 - 1)) (t % 2 * 2 ^ 63 + 0x7ff0000000000000 + 1 + t / 2 % (2 ^ 52 - 1)) = none := by
  have h1 : t / 2 % (2 ^ 52 - 1) < 2 ^ 52 - 1 := Nat.mod_lt _ (by decide)
  have h2 : t % 2 < 2 := Nat.mod_lt _ (by decide)
  generalize t / 2 % (2 ^ 52 - 1) = r at *
  generalize t % 2 = s at *
  have e : (s * 2 ^ 63 + 0x7ff0000000000000 + 1 + r) % Ieee.double.signWeight = 0x7ff0000000000000 + 1 + r := by
    show (s * 2 ^ 63 + 0x7ff0000000000000 + 1 + r) % 9223372036854775808 = _
    omega
  have hb : ¬ 0x7ff0000000000000 + 1 + r < Ieee.double.binade := by show ¬ _ < 4503599627370496; omega
  have hi : ¬ 0x7ff0000000000000 + 1 + r < Ieee.double.infRung := by show ¬ _ < 0x7ff0000000000000; omega
  have he : ¬ 0x7ff0000000000000 + 1 + r = Ieee.double.infRung := by show ¬ _ = 0x7ff0000000000000; omega
  have hr : ∃ s' f, Ieee.double.read (s * 2 ^ 63 + 0x7ff0000000000000 + 1 + r) = .nan s' f := by
    simp only [Ieee.Format.read, e, hb, hi, he, if_false]
    exact ⟨_, _, rfl⟩
  obtain ⟨s', f, hr⟩ := hr
  show (Ieee.double.read _).order (Ieee.double.read _) = none
  rw [hr]
  rfl

/-- What the tape gives for an operation without an answer. -/
def nanAt (w : World) (x y : Nat) : Nat := w.tape w.drawn (.nanBits .f64 x y) % 2 * 2 ^ 63 + 0x7ff0000000000000 + 1 + w.tape w.drawn (.nanBits .f64 x y) / 2 % (2 ^ 52 - 1)
theorem nanAt_order (w : World) (x y : Nat) : ford (nanAt w x y) (nanAt w x y) = none := nan_order _
theorem canonF_nanAt (w : World) (x y : Nat) : canonF (nanAt w x y) = dblV 9221120237041090560 := by simp [canonF, nanAt_order]
theorem run_float_none {P : Program} (op : BinOp) (x y : Nat) (ho : op = .add ∨ op = .sub ∨ op = .mul ∨ op = .quo) (h : floatBits op .f64 x y = none) (t : TypeId) (w : World) :
    (binOp op t (.float .f64 x) (.float .f64 y)).run P w = .ok (.float .f64 (nanAt w x y)) w.drew := by
  unfold floatBits at h
  rcases ho with rfl | rfl | rfl | rfl <;> simp only at h <;> simp only [binOp, Op.floatArith, h] <;> rfl
theorem run_float_some {P : Program} (op : BinOp) (x y r : Nat) (h : floatBits op .f64 x y = some r) (t : TypeId) (w : World) :
    (binOp op t (.float .f64 x) (.float .f64 y)).run P w = .ok (.float .f64 r) w := run_float_arith w op t .f64 x y r h

theorem frombits_run (n : Int) (w : World) : (callFunc 54 #[.int .u64 n]).run Try.prog w = .ok (.value (.float .f64 n.toNat)) w := by kernel_rfl
theorem tobits_run (n : Nat) (w : World) : (callFunc 72 #[.float .f64 n]).run Try.prog w = .ok (.value (.int .u64 n)) w := by kernel_rfl
attribute [local go_sem] frombits_run tobits_run

set_option maxHeartbeats 400000 in
theorem isNaN_any (n : Nat) (w : World) :
    Calls Try.prog 71 #[.float .f64 n] w fun e w' => e = .returned (.bool (ford n n != some .eq)) ∧ w = w' := by
  go_enter Try.func71, Try.ntmps71
  go_wp2
  go_returns
  exact ⟨rfl, rfl⟩

set_option maxHeartbeats 400000 in
theorem float_any (n : Nat) (w : World) :
    Calls Try.prog 52 #[.float .f64 n] w fun e w' => e = .returned (.agg #[.int .i64 (canonF n).k, .int .u64 (canonF n).b, .int .i64 (canonF n).l]) ∧ Below w.heap.size w w' := by
  by_cases h : ford n n = some .eq
  · have h1 : (ford n n != some .eq) = false := by simp [h]
    go_enter Try.func52, Try.ntmps52
    go_wp2_with (first | (go_at_call 71; refine (isNaN_any _ _).mono ?_; rw [h1]; rintro e w' ⟨rfl, rfl⟩) | (go_at_call 28; refine (doubleOf_any _ _).mono ?_; rintro e w' ⟨rfl, hbl⟩; obtain ⟨hc, hf, hz⟩ := bcell hbl; (try simp only [World.size_alloc, World.size_setCell, World.size_drew, World.heap_drewN] at hz)))
    all_goals (((try simp only [Exit.inBlock, Exit.then]); go_light; refine bodyPost_ret (by simp [results, Try.results52, go_sem, *]; try rfl) rfl ?_); refine ⟨congrArg Ending.returned ?_, by (repeat' (first | exact Below.refl _ _ | assumption | refine below_next ?_ (by assumption) | refine Below.alloc ?_ ?_ _ | refine Below.setCell ?_ ?_ _ | refine Below.drew ?_ | refine below_drewN ?_ _ | go_size | (simp; omega)))⟩; simp [canonF, h, dblV])
  · have h1 : (ford n n != some .eq) = true := by simpa using h
    go_enter Try.func52, Try.ntmps52
    go_wp2_with (first | (go_at_call 71; refine (isNaN_any _ _).mono ?_; rw [h1]; rintro e w' ⟨rfl, rfl⟩) | (go_at_call 28; refine (doubleOf_any _ _).mono ?_; rintro e w' ⟨rfl, hbl⟩; obtain ⟨hc, hf, hz⟩ := bcell hbl; (try simp only [World.size_alloc, World.size_setCell, World.size_drew, World.heap_drewN] at hz)))
    all_goals (((try simp only [Exit.inBlock, Exit.then]); go_light; refine bodyPost_ret (by simp [results, Try.results52, go_sem, *]; try rfl) rfl ?_); refine ⟨congrArg Ending.returned ?_, by (repeat' (first | exact Below.refl _ _ | assumption | refine below_next ?_ (by assumption) | refine Below.alloc ?_ ?_ _ | refine Below.setCell ?_ ?_ _ | refine Below.drew ?_ | refine below_drewN ?_ _ | go_size | (simp; omega)))⟩; simp [canonF, h, dblV])

set_option maxHeartbeats 400000 in
theorem ref_dbl_any (n : Nat) (w : World) :
    Calls Try.prog 85 #[.float .f64 n] w fun e w' => e = .returned (.agg #[.int .i64 (canonF n).k, .int .u64 (canonF n).b, .int .i64 (canonF n).l]) ∧ Below w.heap.size w w' := by
  by_cases h : ford n n = some .eq
  · have h1 : (FloatKind.f64.format.order n n != some .eq) = false := by simpa [ford] using h
    go_enter Try.func85, Try.ntmps85
    go_wp2
    all_goals (go_returns; refine ⟨congrArg Ending.returned ?_, by (repeat' (first | exact Below.refl _ _ | assumption | refine below_next ?_ (by assumption) | refine Below.alloc ?_ ?_ _ | refine Below.setCell ?_ ?_ _ | refine Below.drew ?_ | refine below_drewN ?_ _ | go_size | (simp; omega)))⟩; go_light; simp [canonF, h, dblV])
  · have h1 : (FloatKind.f64.format.order n n != some .eq) = true := by simpa [ford] using h
    go_enter Try.func85, Try.ntmps85
    go_wp2
    all_goals (go_returns; refine ⟨congrArg Ending.returned ?_, by (repeat' (first | exact Below.refl _ _ | assumption | refine below_next ?_ (by assumption) | refine Below.alloc ?_ ?_ _ | refine Below.setCell ?_ ?_ _ | refine Below.drew ?_ | refine below_drewN ?_ _ | go_size | (simp; omega)))⟩; go_light; simp [canonF, h, dblV])

set_option maxHeartbeats 400000 in
theorem ref_dblx_any (k b l : Int) (w : World) :
    Calls Try.prog 63 #[.agg #[.int .i64 k, .int .u64 b, .int .i64 l]] w fun e w' => e = .returned (.float .f64 b.toNat) ∧ Below w.heap.size w w' := by
  go_enter Try.func63, Try.ntmps63
  go_wp2
  go_returns
  exact ⟨rfl, by go_grown⟩

set_option maxHeartbeats 400000 in
theorem ord_f64 (op : Int) (x y : Nat) (ho : 16 ≤ op ∧ op ≤ 21) (w : World) :
    Calls Try.prog 77 #[.int .i64 op, .float .f64 x, .float .f64 y] w fun e w' => e = .returned (.bool (fcmp (op + 50) (ford x y))) ∧ w = w' := by
  go_enter Try.func77, Try.ntmps77
  go_wp2
  all_goals (go_returns; refine ⟨congrArg (fun b => Ending.returned (Value.bool b)) ?_, rfl⟩; go_light; (try simp); grind [fcmp, ford])


set_option maxHeartbeats 4000000 in
theorem floats_any (op : Int) (x y : Nat) (ho : 62 ≤ op ∧ op ≤ 71) (w : World) :
    Calls Try.prog 57 #[.int .i64 op, .float .f64 x, .float .f64 y] w fun e w' => e = .returned (.agg #[.int .i64 (floatsV op x y).k, .int .u64 (floatsV op x y).b, .int .i64 (floatsV op x y).l]) ∧ Below w.heap.size w w' := by
  by_cases c62 : op = 62
  · subst c62
    cases hb : floatBits .add .f64 x y with
    | some r =>
      have hv : floatsV 62 x y = canonF r := by simp only [floatBits] at hb; simp [floatsV, farith, fbits, hb]
      have hr := run_float_some (P := Try.prog) .add x y r hb
      have HV := Lib.hid hv
      clear hb hv
      go_enter Try.func57, Try.ntmps57
      go_wp2_with (first | (go_at_call 52; refine (float_any _ _).mono ?_; rintro e w' ⟨rfl, hbl⟩; obtain ⟨hc, hf, hz⟩ := bcell hbl; (try simp only [World.size_alloc, World.size_setCell, World.size_drew, World.heap_drewN] at hz)) | (go_at_call 85; refine (ref_dbl_any _ _).mono ?_; rintro e w' ⟨rfl, hbl⟩; obtain ⟨hc, hf, hz⟩ := bcell hbl; (try simp only [World.size_alloc, World.size_setCell, World.size_drew, World.heap_drewN] at hz)))
      all_goals (((try simp only [Exit.inBlock, Exit.then]); go_light; refine bodyPost_ret (by simp [results, Try.results57, go_sem, *]; try rfl) rfl ?_); refine ⟨?_, by (repeat' (first | exact Below.refl _ _ | assumption | refine below_next ?_ (by assumption) | refine Below.alloc ?_ ?_ _ | refine Below.setCell ?_ ?_ _ | refine Below.drew ?_ | refine below_drewN ?_ _ | go_size | (simp; omega)))⟩; simp [HV.out])
    | none =>
      have hv : floatsV 62 x y = dblV 9221120237041090560 := by simp only [floatBits] at hb; simp [floatsV, farith, fbits, hb]
      have hr := run_float_none (P := Try.prog) .add x y (by simp) hb
      have HV := Lib.hid hv
      clear hb hv
      go_enter Try.func57, Try.ntmps57
      go_wp2_with (first | (go_at_call 52; refine (float_any _ _).mono ?_; rintro e w' ⟨rfl, hbl⟩; obtain ⟨hc, hf, hz⟩ := bcell hbl; (try simp only [World.size_alloc, World.size_setCell, World.size_drew, World.heap_drewN] at hz)) | (go_at_call 85; refine (ref_dbl_any _ _).mono ?_; rintro e w' ⟨rfl, hbl⟩; obtain ⟨hc, hf, hz⟩ := bcell hbl; (try simp only [World.size_alloc, World.size_setCell, World.size_drew, World.heap_drewN] at hz)))
      all_goals (((try simp only [Exit.inBlock, Exit.then]); go_light; refine bodyPost_ret (by simp [results, Try.results57, go_sem, *]; try rfl) rfl ?_); refine ⟨?_, by (repeat' (first | exact Below.refl _ _ | assumption | refine below_next ?_ (by assumption) | refine Below.alloc ?_ ?_ _ | refine Below.setCell ?_ ?_ _ | refine Below.drew ?_ | refine below_drewN ?_ _ | go_size | (simp; omega)))⟩; simp [HV.out, canonF_nanAt])
  by_cases c63 : op = 63
  · subst c63
    cases hb : floatBits .sub .f64 x y with
    | some r =>
      have hv : floatsV 63 x y = canonF r := by simp only [floatBits] at hb; simp [floatsV, farith, fbits, hb]
      have hr := run_float_some (P := Try.prog) .sub x y r hb
      have HV := Lib.hid hv
      clear hb hv
      go_enter Try.func57, Try.ntmps57
      go_wp2_with (first | (go_at_call 52; refine (float_any _ _).mono ?_; rintro e w' ⟨rfl, hbl⟩; obtain ⟨hc, hf, hz⟩ := bcell hbl; (try simp only [World.size_alloc, World.size_setCell, World.size_drew, World.heap_drewN] at hz)) | (go_at_call 85; refine (ref_dbl_any _ _).mono ?_; rintro e w' ⟨rfl, hbl⟩; obtain ⟨hc, hf, hz⟩ := bcell hbl; (try simp only [World.size_alloc, World.size_setCell, World.size_drew, World.heap_drewN] at hz)))
      all_goals (((try simp only [Exit.inBlock, Exit.then]); go_light; refine bodyPost_ret (by simp [results, Try.results57, go_sem, *]; try rfl) rfl ?_); refine ⟨?_, by (repeat' (first | exact Below.refl _ _ | assumption | refine below_next ?_ (by assumption) | refine Below.alloc ?_ ?_ _ | refine Below.setCell ?_ ?_ _ | refine Below.drew ?_ | refine below_drewN ?_ _ | go_size | (simp; omega)))⟩; simp [HV.out])
    | none =>
      have hv : floatsV 63 x y = dblV 9221120237041090560 := by simp only [floatBits] at hb; simp [floatsV, farith, fbits, hb]
      have hr := run_float_none (P := Try.prog) .sub x y (by simp) hb
      have HV := Lib.hid hv
      clear hb hv
      go_enter Try.func57, Try.ntmps57
      go_wp2_with (first | (go_at_call 52; refine (float_any _ _).mono ?_; rintro e w' ⟨rfl, hbl⟩; obtain ⟨hc, hf, hz⟩ := bcell hbl; (try simp only [World.size_alloc, World.size_setCell, World.size_drew, World.heap_drewN] at hz)) | (go_at_call 85; refine (ref_dbl_any _ _).mono ?_; rintro e w' ⟨rfl, hbl⟩; obtain ⟨hc, hf, hz⟩ := bcell hbl; (try simp only [World.size_alloc, World.size_setCell, World.size_drew, World.heap_drewN] at hz)))
      all_goals (((try simp only [Exit.inBlock, Exit.then]); go_light; refine bodyPost_ret (by simp [results, Try.results57, go_sem, *]; try rfl) rfl ?_); refine ⟨?_, by (repeat' (first | exact Below.refl _ _ | assumption | refine below_next ?_ (by assumption) | refine Below.alloc ?_ ?_ _ | refine Below.setCell ?_ ?_ _ | refine Below.drew ?_ | refine below_drewN ?_ _ | go_size | (simp; omega)))⟩; simp [HV.out, canonF_nanAt])
  by_cases c64 : op = 64
  · subst c64
    cases hb : floatBits .mul .f64 x y with
    | some r =>
      have hv : floatsV 64 x y = canonF r := by simp only [floatBits] at hb; simp [floatsV, farith, fbits, hb]
      have hr := run_float_some (P := Try.prog) .mul x y r hb
      have HV := Lib.hid hv
      clear hb hv
      go_enter Try.func57, Try.ntmps57
      go_wp2_with (first | (go_at_call 52; refine (float_any _ _).mono ?_; rintro e w' ⟨rfl, hbl⟩; obtain ⟨hc, hf, hz⟩ := bcell hbl; (try simp only [World.size_alloc, World.size_setCell, World.size_drew, World.heap_drewN] at hz)) | (go_at_call 85; refine (ref_dbl_any _ _).mono ?_; rintro e w' ⟨rfl, hbl⟩; obtain ⟨hc, hf, hz⟩ := bcell hbl; (try simp only [World.size_alloc, World.size_setCell, World.size_drew, World.heap_drewN] at hz)))
      all_goals (((try simp only [Exit.inBlock, Exit.then]); go_light; refine bodyPost_ret (by simp [results, Try.results57, go_sem, *]; try rfl) rfl ?_); refine ⟨?_, by (repeat' (first | exact Below.refl _ _ | assumption | refine below_next ?_ (by assumption) | refine Below.alloc ?_ ?_ _ | refine Below.setCell ?_ ?_ _ | refine Below.drew ?_ | refine below_drewN ?_ _ | go_size | (simp; omega)))⟩; simp [HV.out])
    | none =>
      have hv : floatsV 64 x y = dblV 9221120237041090560 := by simp only [floatBits] at hb; simp [floatsV, farith, fbits, hb]
      have hr := run_float_none (P := Try.prog) .mul x y (by simp) hb
      have HV := Lib.hid hv
      clear hb hv
      go_enter Try.func57, Try.ntmps57
      go_wp2_with (first | (go_at_call 52; refine (float_any _ _).mono ?_; rintro e w' ⟨rfl, hbl⟩; obtain ⟨hc, hf, hz⟩ := bcell hbl; (try simp only [World.size_alloc, World.size_setCell, World.size_drew, World.heap_drewN] at hz)) | (go_at_call 85; refine (ref_dbl_any _ _).mono ?_; rintro e w' ⟨rfl, hbl⟩; obtain ⟨hc, hf, hz⟩ := bcell hbl; (try simp only [World.size_alloc, World.size_setCell, World.size_drew, World.heap_drewN] at hz)))
      all_goals (((try simp only [Exit.inBlock, Exit.then]); go_light; refine bodyPost_ret (by simp [results, Try.results57, go_sem, *]; try rfl) rfl ?_); refine ⟨?_, by (repeat' (first | exact Below.refl _ _ | assumption | refine below_next ?_ (by assumption) | refine Below.alloc ?_ ?_ _ | refine Below.setCell ?_ ?_ _ | refine Below.drew ?_ | refine below_drewN ?_ _ | go_size | (simp; omega)))⟩; simp [HV.out, canonF_nanAt])
  by_cases c65 : op = 65
  · subst c65
    cases hb : floatBits .quo .f64 x y with
    | some r =>
      have hv : floatsV 65 x y = canonF r := by simp only [floatBits] at hb; simp [floatsV, farith, fbits, hb]
      have hr := run_float_some (P := Try.prog) .quo x y r hb
      have HV := Lib.hid hv
      clear hb hv
      go_enter Try.func57, Try.ntmps57
      go_wp2_with (first | (go_at_call 52; refine (float_any _ _).mono ?_; rintro e w' ⟨rfl, hbl⟩; obtain ⟨hc, hf, hz⟩ := bcell hbl; (try simp only [World.size_alloc, World.size_setCell, World.size_drew, World.heap_drewN] at hz)) | (go_at_call 85; refine (ref_dbl_any _ _).mono ?_; rintro e w' ⟨rfl, hbl⟩; obtain ⟨hc, hf, hz⟩ := bcell hbl; (try simp only [World.size_alloc, World.size_setCell, World.size_drew, World.heap_drewN] at hz)))
      all_goals (((try simp only [Exit.inBlock, Exit.then]); go_light; refine bodyPost_ret (by simp [results, Try.results57, go_sem, *]; try rfl) rfl ?_); refine ⟨?_, by (repeat' (first | exact Below.refl _ _ | assumption | refine below_next ?_ (by assumption) | refine Below.alloc ?_ ?_ _ | refine Below.setCell ?_ ?_ _ | refine Below.drew ?_ | refine below_drewN ?_ _ | go_size | (simp; omega)))⟩; simp [HV.out])
    | none =>
      have hv : floatsV 65 x y = dblV 9221120237041090560 := by simp only [floatBits] at hb; simp [floatsV, farith, fbits, hb]
      have hr := run_float_none (P := Try.prog) .quo x y (by simp) hb
      have HV := Lib.hid hv
      clear hb hv
      go_enter Try.func57, Try.ntmps57
      go_wp2_with (first | (go_at_call 52; refine (float_any _ _).mono ?_; rintro e w' ⟨rfl, hbl⟩; obtain ⟨hc, hf, hz⟩ := bcell hbl; (try simp only [World.size_alloc, World.size_setCell, World.size_drew, World.heap_drewN] at hz)) | (go_at_call 85; refine (ref_dbl_any _ _).mono ?_; rintro e w' ⟨rfl, hbl⟩; obtain ⟨hc, hf, hz⟩ := bcell hbl; (try simp only [World.size_alloc, World.size_setCell, World.size_drew, World.heap_drewN] at hz)))
      all_goals (((try simp only [Exit.inBlock, Exit.then]); go_light; refine bodyPost_ret (by simp [results, Try.results57, go_sem, *]; try rfl) rfl ?_); refine ⟨?_, by (repeat' (first | exact Below.refl _ _ | assumption | refine below_next ?_ (by assumption) | refine Below.alloc ?_ ?_ _ | refine Below.setCell ?_ ?_ _ | refine Below.drew ?_ | refine below_drewN ?_ _ | go_size | (simp; omega)))⟩; simp [HV.out, canonF_nanAt])
  have e1 : IntKind.i64.wrap (op - 66) = op - 66 := by rw [IntKind.wrap_i64]; omega
  have hv : floatsV op x y = flagV (fcmp op (ford x y)) := by simp [floatsV, c62, c63, c64, c65]
  have HV := Lib.hid hv
  have HO := ord_f64 (op - 66 + 16) x y (by omega)
  rw [show op - 66 + 16 + 50 = op by omega] at HO
  have HH := Lib.hid HO
  clear hv HO
  have d62 : (op == 62) = false := beq_eq_false_iff_ne.2 c62
  have d63 : (op == 63) = false := beq_eq_false_iff_ne.2 c63
  have d64 : (op == 64) = false := beq_eq_false_iff_ne.2 c64
  have d65 : (op == 65) = false := beq_eq_false_iff_ne.2 c65
  obtain ⟨o1, o2⟩ := ho
  clear c62 c63 c64 c65 e1
  go_enter Try.func57, Try.ntmps57
  go_wp2_with (first | (go_at_call 77; refine (HH.out _).mono ?_; rintro e w' ⟨rfl, rfl⟩) | (go_at_call 50; refine (flag_any _ _).mono ?_; rintro e w' ⟨rfl, hbl⟩; obtain ⟨hc, hf, hz⟩ := bcell hbl; (try simp only [World.size_alloc, World.size_setCell, World.size_drew, World.heap_drewN] at hz)))
  all_goals (((try simp only [Exit.inBlock, Exit.then]); go_light; refine bodyPost_ret (by simp [results, Try.results57, go_sem, *]; try rfl) rfl ?_); refine ⟨?_, by (repeat' (first | exact Below.refl _ _ | assumption | refine below_next ?_ (by assumption) | refine Below.alloc ?_ ?_ _ | refine Below.setCell ?_ ?_ _ | refine Below.drew ?_ | refine below_drewN ?_ _ | go_size | (simp; omega)))⟩; simp [HV.out, flagV]; cases fcmp op (ford x y) <;> simp [intV])

set_option maxHeartbeats 4000000 in
theorem ref_doubles_any (op : Int) (x y : Nat) (ho : 62 ≤ op ∧ op ≤ 71) (w : World) :
    Calls Try.prog 62 #[.int .i64 op, .float .f64 x, .float .f64 y] w fun e w' => e = .returned (.agg #[.int .i64 (floatsV op x y).k, .int .u64 (floatsV op x y).b, .int .i64 (floatsV op x y).l]) ∧ Below w.heap.size w w' := by
  by_cases c62 : op = 62
  · subst c62
    cases hb : floatBits .add .f64 x y with
    | some r =>
      have hv : floatsV 62 x y = canonF r := by simp only [floatBits] at hb; simp [floatsV, farith, fbits, hb]
      have hr := run_float_some (P := Try.prog) .add x y r hb
      have HV := Lib.hid hv
      clear hb hv
      go_enter Try.func62, Try.ntmps62
      go_wp2_with (first | (go_at_call 52; refine (float_any _ _).mono ?_; rintro e w' ⟨rfl, hbl⟩; obtain ⟨hc, hf, hz⟩ := bcell hbl; (try simp only [World.size_alloc, World.size_setCell, World.size_drew, World.heap_drewN] at hz)) | (go_at_call 85; refine (ref_dbl_any _ _).mono ?_; rintro e w' ⟨rfl, hbl⟩; obtain ⟨hc, hf, hz⟩ := bcell hbl; (try simp only [World.size_alloc, World.size_setCell, World.size_drew, World.heap_drewN] at hz)))
      all_goals (((try simp only [Exit.inBlock, Exit.then]); go_light; refine bodyPost_ret (by simp [results, Try.results62, go_sem, *]; try rfl) rfl ?_); refine ⟨?_, by (repeat' (first | exact Below.refl _ _ | assumption | refine below_next ?_ (by assumption) | refine Below.alloc ?_ ?_ _ | refine Below.setCell ?_ ?_ _ | refine Below.drew ?_ | refine below_drewN ?_ _ | go_size | (simp; omega)))⟩; simp [HV.out])
    | none =>
      have hv : floatsV 62 x y = dblV 9221120237041090560 := by simp only [floatBits] at hb; simp [floatsV, farith, fbits, hb]
      have hr := run_float_none (P := Try.prog) .add x y (by simp) hb
      have HV := Lib.hid hv
      clear hb hv
      go_enter Try.func62, Try.ntmps62
      go_wp2_with (first | (go_at_call 52; refine (float_any _ _).mono ?_; rintro e w' ⟨rfl, hbl⟩; obtain ⟨hc, hf, hz⟩ := bcell hbl; (try simp only [World.size_alloc, World.size_setCell, World.size_drew, World.heap_drewN] at hz)) | (go_at_call 85; refine (ref_dbl_any _ _).mono ?_; rintro e w' ⟨rfl, hbl⟩; obtain ⟨hc, hf, hz⟩ := bcell hbl; (try simp only [World.size_alloc, World.size_setCell, World.size_drew, World.heap_drewN] at hz)))
      all_goals (((try simp only [Exit.inBlock, Exit.then]); go_light; refine bodyPost_ret (by simp [results, Try.results62, go_sem, *]; try rfl) rfl ?_); refine ⟨?_, by (repeat' (first | exact Below.refl _ _ | assumption | refine below_next ?_ (by assumption) | refine Below.alloc ?_ ?_ _ | refine Below.setCell ?_ ?_ _ | refine Below.drew ?_ | refine below_drewN ?_ _ | go_size | (simp; omega)))⟩; simp [HV.out, canonF_nanAt])
  by_cases c63 : op = 63
  · subst c63
    cases hb : floatBits .sub .f64 x y with
    | some r =>
      have hv : floatsV 63 x y = canonF r := by simp only [floatBits] at hb; simp [floatsV, farith, fbits, hb]
      have hr := run_float_some (P := Try.prog) .sub x y r hb
      have HV := Lib.hid hv
      clear hb hv
      go_enter Try.func62, Try.ntmps62
      go_wp2_with (first | (go_at_call 52; refine (float_any _ _).mono ?_; rintro e w' ⟨rfl, hbl⟩; obtain ⟨hc, hf, hz⟩ := bcell hbl; (try simp only [World.size_alloc, World.size_setCell, World.size_drew, World.heap_drewN] at hz)) | (go_at_call 85; refine (ref_dbl_any _ _).mono ?_; rintro e w' ⟨rfl, hbl⟩; obtain ⟨hc, hf, hz⟩ := bcell hbl; (try simp only [World.size_alloc, World.size_setCell, World.size_drew, World.heap_drewN] at hz)))
      all_goals (((try simp only [Exit.inBlock, Exit.then]); go_light; refine bodyPost_ret (by simp [results, Try.results62, go_sem, *]; try rfl) rfl ?_); refine ⟨?_, by (repeat' (first | exact Below.refl _ _ | assumption | refine below_next ?_ (by assumption) | refine Below.alloc ?_ ?_ _ | refine Below.setCell ?_ ?_ _ | refine Below.drew ?_ | refine below_drewN ?_ _ | go_size | (simp; omega)))⟩; simp [HV.out])
    | none =>
      have hv : floatsV 63 x y = dblV 9221120237041090560 := by simp only [floatBits] at hb; simp [floatsV, farith, fbits, hb]
      have hr := run_float_none (P := Try.prog) .sub x y (by simp) hb
      have HV := Lib.hid hv
      clear hb hv
      go_enter Try.func62, Try.ntmps62
      go_wp2_with (first | (go_at_call 52; refine (float_any _ _).mono ?_; rintro e w' ⟨rfl, hbl⟩; obtain ⟨hc, hf, hz⟩ := bcell hbl; (try simp only [World.size_alloc, World.size_setCell, World.size_drew, World.heap_drewN] at hz)) | (go_at_call 85; refine (ref_dbl_any _ _).mono ?_; rintro e w' ⟨rfl, hbl⟩; obtain ⟨hc, hf, hz⟩ := bcell hbl; (try simp only [World.size_alloc, World.size_setCell, World.size_drew, World.heap_drewN] at hz)))
      all_goals (((try simp only [Exit.inBlock, Exit.then]); go_light; refine bodyPost_ret (by simp [results, Try.results62, go_sem, *]; try rfl) rfl ?_); refine ⟨?_, by (repeat' (first | exact Below.refl _ _ | assumption | refine below_next ?_ (by assumption) | refine Below.alloc ?_ ?_ _ | refine Below.setCell ?_ ?_ _ | refine Below.drew ?_ | refine below_drewN ?_ _ | go_size | (simp; omega)))⟩; simp [HV.out, canonF_nanAt])
  by_cases c64 : op = 64
  · subst c64
    cases hb : floatBits .mul .f64 x y with
    | some r =>
      have hv : floatsV 64 x y = canonF r := by simp only [floatBits] at hb; simp [floatsV, farith, fbits, hb]
      have hr := run_float_some (P := Try.prog) .mul x y r hb
      have HV := Lib.hid hv
      clear hb hv
      go_enter Try.func62, Try.ntmps62
      go_wp2_with (first | (go_at_call 52; refine (float_any _ _).mono ?_; rintro e w' ⟨rfl, hbl⟩; obtain ⟨hc, hf, hz⟩ := bcell hbl; (try simp only [World.size_alloc, World.size_setCell, World.size_drew, World.heap_drewN] at hz)) | (go_at_call 85; refine (ref_dbl_any _ _).mono ?_; rintro e w' ⟨rfl, hbl⟩; obtain ⟨hc, hf, hz⟩ := bcell hbl; (try simp only [World.size_alloc, World.size_setCell, World.size_drew, World.heap_drewN] at hz)))
      all_goals (((try simp only [Exit.inBlock, Exit.then]); go_light; refine bodyPost_ret (by simp [results, Try.results62, go_sem, *]; try rfl) rfl ?_); refine ⟨?_, by (repeat' (first | exact Below.refl _ _ | assumption | refine below_next ?_ (by assumption) | refine Below.alloc ?_ ?_ _ | refine Below.setCell ?_ ?_ _ | refine Below.drew ?_ | refine below_drewN ?_ _ | go_size | (simp; omega)))⟩; simp [HV.out])
    | none =>
      have hv : floatsV 64 x y = dblV 9221120237041090560 := by simp only [floatBits] at hb; simp [floatsV, farith, fbits, hb]
      have hr := run_float_none (P := Try.prog) .mul x y (by simp) hb
      have HV := Lib.hid hv
      clear hb hv
      go_enter Try.func62, Try.ntmps62
      go_wp2_with (first | (go_at_call 52; refine (float_any _ _).mono ?_; rintro e w' ⟨rfl, hbl⟩; obtain ⟨hc, hf, hz⟩ := bcell hbl; (try simp only [World.size_alloc, World.size_setCell, World.size_drew, World.heap_drewN] at hz)) | (go_at_call 85; refine (ref_dbl_any _ _).mono ?_; rintro e w' ⟨rfl, hbl⟩; obtain ⟨hc, hf, hz⟩ := bcell hbl; (try simp only [World.size_alloc, World.size_setCell, World.size_drew, World.heap_drewN] at hz)))
      all_goals (((try simp only [Exit.inBlock, Exit.then]); go_light; refine bodyPost_ret (by simp [results, Try.results62, go_sem, *]; try rfl) rfl ?_); refine ⟨?_, by (repeat' (first | exact Below.refl _ _ | assumption | refine below_next ?_ (by assumption) | refine Below.alloc ?_ ?_ _ | refine Below.setCell ?_ ?_ _ | refine Below.drew ?_ | refine below_drewN ?_ _ | go_size | (simp; omega)))⟩; simp [HV.out, canonF_nanAt])
  by_cases c65 : op = 65
  · subst c65
    cases hb : floatBits .quo .f64 x y with
    | some r =>
      have hv : floatsV 65 x y = canonF r := by simp only [floatBits] at hb; simp [floatsV, farith, fbits, hb]
      have hr := run_float_some (P := Try.prog) .quo x y r hb
      have HV := Lib.hid hv
      clear hb hv
      go_enter Try.func62, Try.ntmps62
      go_wp2_with (first | (go_at_call 52; refine (float_any _ _).mono ?_; rintro e w' ⟨rfl, hbl⟩; obtain ⟨hc, hf, hz⟩ := bcell hbl; (try simp only [World.size_alloc, World.size_setCell, World.size_drew, World.heap_drewN] at hz)) | (go_at_call 85; refine (ref_dbl_any _ _).mono ?_; rintro e w' ⟨rfl, hbl⟩; obtain ⟨hc, hf, hz⟩ := bcell hbl; (try simp only [World.size_alloc, World.size_setCell, World.size_drew, World.heap_drewN] at hz)))
      all_goals (((try simp only [Exit.inBlock, Exit.then]); go_light; refine bodyPost_ret (by simp [results, Try.results62, go_sem, *]; try rfl) rfl ?_); refine ⟨?_, by (repeat' (first | exact Below.refl _ _ | assumption | refine below_next ?_ (by assumption) | refine Below.alloc ?_ ?_ _ | refine Below.setCell ?_ ?_ _ | refine Below.drew ?_ | refine below_drewN ?_ _ | go_size | (simp; omega)))⟩; simp [HV.out])
    | none =>
      have hv : floatsV 65 x y = dblV 9221120237041090560 := by simp only [floatBits] at hb; simp [floatsV, farith, fbits, hb]
      have hr := run_float_none (P := Try.prog) .quo x y (by simp) hb
      have HV := Lib.hid hv
      clear hb hv
      go_enter Try.func62, Try.ntmps62
      go_wp2_with (first | (go_at_call 52; refine (float_any _ _).mono ?_; rintro e w' ⟨rfl, hbl⟩; obtain ⟨hc, hf, hz⟩ := bcell hbl; (try simp only [World.size_alloc, World.size_setCell, World.size_drew, World.heap_drewN] at hz)) | (go_at_call 85; refine (ref_dbl_any _ _).mono ?_; rintro e w' ⟨rfl, hbl⟩; obtain ⟨hc, hf, hz⟩ := bcell hbl; (try simp only [World.size_alloc, World.size_setCell, World.size_drew, World.heap_drewN] at hz)))
      all_goals (((try simp only [Exit.inBlock, Exit.then]); go_light; refine bodyPost_ret (by simp [results, Try.results62, go_sem, *]; try rfl) rfl ?_); refine ⟨?_, by (repeat' (first | exact Below.refl _ _ | assumption | refine below_next ?_ (by assumption) | refine Below.alloc ?_ ?_ _ | refine Below.setCell ?_ ?_ _ | refine Below.drew ?_ | refine below_drewN ?_ _ | go_size | (simp; omega)))⟩; simp [HV.out, canonF_nanAt])
  have hv : floatsV op x y = flagV (fcmp op (ford x y)) := by simp [floatsV, c62, c63, c64, c65]
  have HV := Lib.hid hv
  clear hv
  have d62 : (op == 62) = false := beq_eq_false_iff_ne.2 c62
  have d63 : (op == 63) = false := beq_eq_false_iff_ne.2 c63
  have d64 : (op == 64) = false := beq_eq_false_iff_ne.2 c64
  have d65 : (op == 65) = false := beq_eq_false_iff_ne.2 c65
  obtain ⟨o1, o2⟩ := ho
  clear c62 c63 c64 c65
  go_enter Try.func62, Try.ntmps62
  go_wp2_with (first | (go_at_call 67; refine (ref_yes_any _ _).mono ?_; rintro e w' ⟨rfl, hbl⟩; obtain ⟨hc, hf, hz⟩ := bcell hbl; (try simp only [World.size_alloc, World.size_setCell, World.size_drew, World.heap_drewN] at hz)))
  all_goals (((try simp only [Exit.inBlock, Exit.then]); go_light; refine bodyPost_ret (by simp [results, Try.results62, go_sem, *]; try rfl) rfl ?_); refine ⟨?_, by (repeat' (first | exact Below.refl _ _ | assumption | refine below_next ?_ (by assumption) | refine Below.alloc ?_ ?_ _ | refine Below.setCell ?_ ?_ _ | refine Below.drew ?_ | refine below_drewN ?_ _ | go_size | (simp; omega)))⟩; simp only [HV.out, flagV]; grind [fcmp, ford, intV])

end Go.Proofs.Ytddipbpllogbaaa
