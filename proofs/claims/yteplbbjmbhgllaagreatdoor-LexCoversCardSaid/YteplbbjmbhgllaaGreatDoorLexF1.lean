/-
  The reference's quotient of two doubles: Eval2 of layer 1 at 65.
-/
import Derived.Test.YteplbbjmbhgllaaGreatDoorProg
import Derived.Test.YteplbbjmbhgllaaGreatDoorLexM02
import Derived.Test.YteplbbjmbhgllaaGreatDoorIf
import Derived.Test.YteplbbjmbhgllaaGreatDoorRegion
import Derived.Test.YteplbbjmbhgllaaGreatDoorLexM07
import Derived.Deep.Light
import Derived.Lib.Hide
import Derived.Deep.QuietTactic
import Derived.BigQuiet
import Derived.Deep.RegionHeld3
import Derived.RegionTactic
import Derived.BigRegion
namespace Go.Proofs.YteplbbjmbhgllaaGreatDoor
open Go.RowKit
set_option linter.unusedVariables false
set_option linter.unusedSimpArgs false

set_option maxHeartbeats 1000000 in
theorem ref_shape_any (op : Int) (h : I64 op) (w : World) :
    Calls Tryz.prog 103 #[.int .i64 op] w fun e w' => e = .returned (.tuple #[.int .i64 (shape op).1, .int .i64 (shape op).2.1, .int .i64 (shape op).2.2]) ∧ w = w' := by
  obtain ⟨h1, h2⟩ := h
  go_enter Tryz.func103, Tryz.ntmps103
  go_wp2
  all_goals (go_returns; refine ⟨?_, rfl⟩; go_light; simp; grind (splits := 40) [shape, split])

set_option maxHeartbeats 400000 in
theorem ref_int_any (n : Int) (w : World) :
    Calls Tryz.prog 114 #[.int .i32 n] w fun e w' => e = .returned (.agg #[.int .i64 1, .int .u64 (n % 4294967296), .int .i64 0]) ∧ Below w.heap.size w w' := by
  go_enter Tryz.func114, Tryz.ntmps114
  go_wp2
  go_returns
  exact ⟨rfl, by go_grown⟩

set_option maxHeartbeats 400000 in
theorem ref_long_any (n : Int) (w : World) :
    Calls Tryz.prog 115 #[.int .i64 n] w fun e w' => e = .returned (.agg #[.int .i64 2, .int .u64 (n % 18446744073709551616), .int .i64 0]) ∧ Below w.heap.size w w' := by
  go_enter Tryz.func115, Tryz.ntmps115
  go_wp2
  go_returns
  exact ⟨by rw [IntKind.wrap_u64], by go_grown⟩

set_option maxHeartbeats 400000 in
theorem ref_ptr_any (b o : Int) (w : World) :
    Calls Tryz.prog 125 #[.int .i64 b, .int .i64 o] w fun e w' => e = .returned (.agg #[.int .i64 (ptrV b o).k, .int .u64 (ptrV b o).b, .int .i64 (ptrV b o).l]) ∧ Below w.heap.size w w' := by
  go_enter Tryz.func125, Tryz.ntmps125
  go_wp2
  all_goals (go_returns; refine ⟨?_, by go_grown⟩; go_light; simp; grind [ptrV, undefV, IntKind.wrap_u64])

set_option maxHeartbeats 400000 in
theorem ref_yes_any (b : Bool) (w : World) :
    Calls Tryz.prog 110 #[.bool b] w fun e w' => e = .returned (.agg #[.int .i64 1, .int .u64 (cond b 1 0), .int .i64 0]) ∧ Below w.heap.size w w' := by
  cases b
  all_goals
    go_enter Tryz.func110, Tryz.ntmps110
    go_wp2
    go_returns
    exact ⟨rfl, by go_grown⟩

set_option maxHeartbeats 400000 in
theorem compared_any (op : Int) (l s : Bool) (w : World) :
    Calls Tryz.prog 111 #[.int .i64 op, .bool l, .bool s] w fun e w' => e = .returned (.bool (cmpd op l s)) ∧ w = w' := by
  go_enter Tryz.func111, Tryz.ntmps111
  go_wp2
  all_goals (go_returns; refine ⟨congrArg (fun b => Ending.returned (Value.bool b)) ?_, rfl⟩; go_light; cases l <;> cases s <;> grind [cmpd])


/-- How two doubles stand to each other. -/
def ford (x y : Nat) : Option Ordering := FloatKind.f64.format.order x y

/-- The double of a word; what isn't a number has one form. -/
def canonF (n : Nat) : V := if ford n n = some .eq then dblV n else dblV 9221120237041090560

def fbits (op : Int) (x y : Nat) : Option Nat :=
  if op = 62 then FloatKind.f64.format.add x y else if op = 63 then FloatKind.f64.format.sub x y
  else if op = 64 then FloatKind.f64.format.mul x y else FloatKind.f64.format.div x y

def farith (op : Int) (x y : Nat) : V := match fbits op x y with
  | some r => canonF r
  | none => dblV 9221120237041090560

def fcmp (op : Int) (o : Option Ordering) : Bool :=
  if op = 66 then o == some .eq else if op = 67 then o != some .eq else if op = 68 then o == some .lt
  else if op = 69 then o == some .lt || o == some .eq else if op = 70 then o == some .gt else o == some .gt || o == some .eq

def floatsV (op : Int) (x y : Nat) : V := if op = 62 ∨ op = 63 ∨ op = 64 ∨ op = 65 then farith op x y else flagV (fcmp op (ford x y))

/-- A word that the tape gives for what isn't a number isn't one. -/
theorem nan_order (t : Nat) : ford (t % 2 * 2 ^ 63 + 0x7ff0000000000000 + 1 + t / 2 % (2 ^ 52 - 1)) (t % 2 * 2 ^ 63 + 0x7ff0000000000000 + 1 + t / 2 % (2 ^ 52 - 1)) = none := by
  have h1 : t / 2 % (2 ^ 52 - 1) < 2 ^ 52 - 1 := Nat.mod_lt _ (by decide)
  have h2 : t % 2 < 2 := Nat.mod_lt _ (by decide)
  generalize t / 2 % (2 ^ 52 - 1) = r at *
  generalize t % 2 = s at *
  have e : (s * 2 ^ 63 + 0x7ff0000000000000 + 1 + r) % Ieee.double.signWeight = 0x7ff0000000000000 + 1 + r := by
    show (s * 2 ^ 63 + 0x7ff0000000000000 + 1 + r) % 9223372036854775808 = _
    omega
  have hb : ¬ 0x7ff0000000000000 + 1 + r < Ieee.double.binade := by show ¬ _ < 4503599627370496; omega
  have hi : ¬ 0x7ff0000000000000 + 1 + r < Ieee.double.infRung := by show ¬ _ < 0x7ff0000000000000; omega
  have he : ¬ 0x7ff0000000000000 + 1 + r = Ieee.double.infRung := by show ¬ _ = 0x7ff0000000000000; omega
  have hr : ∃ s' f, Ieee.double.read (s * 2 ^ 63 + 0x7ff0000000000000 + 1 + r) = .nan s' f := by
    simp only [Ieee.Format.read, e, hb, hi, he, if_false]
    exact ⟨_, _, rfl⟩
  obtain ⟨s', f, hr⟩ := hr
  show (Ieee.double.read _).order (Ieee.double.read _) = none
  rw [hr]
  rfl

/-- What the tape gives for an operation without an answer. -/
def nanAt (w : World) (x y : Nat) : Nat := w.tape w.drawn (.nanBits .f64 x y) % 2 * 2 ^ 63 + 0x7ff0000000000000 + 1 + w.tape w.drawn (.nanBits .f64 x y) / 2 % (2 ^ 52 - 1)
theorem nanAt_order (w : World) (x y : Nat) : ford (nanAt w x y) (nanAt w x y) = none := nan_order _
theorem canonF_nanAt (w : World) (x y : Nat) : canonF (nanAt w x y) = dblV 9221120237041090560 := by simp [canonF, nanAt_order]
theorem run_float_none {P : Program} (op : BinOp) (x y : Nat) (ho : op = .add ∨ op = .sub ∨ op = .mul ∨ op = .quo) (h : floatBits op .f64 x y = none) (t : TypeId) (w : World) :
    (binOp op t (.float .f64 x) (.float .f64 y)).run P w = .ok (.float .f64 (nanAt w x y)) w.drew := by
  unfold floatBits at h
  rcases ho with rfl | rfl | rfl | rfl <;> simp only at h <;> simp only [binOp, Op.floatArith, h] <;> rfl
theorem run_float_some {P : Program} (op : BinOp) (x y r : Nat) (h : floatBits op .f64 x y = some r) (t : TypeId) (w : World) :
    (binOp op t (.float .f64 x) (.float .f64 y)).run P w = .ok (.float .f64 r) w := run_float_arith w op t .f64 x y r h

theorem frombits_run (n : Int) (w : World) : (callFunc 70 #[.int .u64 n]).run Tryz.prog w = .ok (.value (.float .f64 n.toNat)) w := by kernel_rfl
theorem tobits_run (n : Nat) (w : World) : (callFunc 25 #[.float .f64 n]).run Tryz.prog w = .ok (.value (.int .u64 n)) w := by kernel_rfl
attribute [local go_sem] frombits_run tobits_run

set_option maxHeartbeats 400000 in
theorem ref_dbl_any (n : Nat) (w : World) :
    Calls Tryz.prog 81 #[.float .f64 n] w fun e w' => e = .returned (.agg #[.int .i64 (canonF n).k, .int .u64 (canonF n).b, .int .i64 (canonF n).l]) ∧ Below w.heap.size w w' := by
  by_cases h : ford n n = some .eq
  · have h1 : (FloatKind.f64.format.order n n != some .eq) = false := by simpa [ford] using h
    go_enter Tryz.func81, Tryz.ntmps81
    go_wp2
    all_goals (go_returns; refine ⟨congrArg Ending.returned ?_, by (repeat' (first | exact Below.refl _ _ | assumption | refine below_next ?_ (by assumption) | refine Below.alloc ?_ ?_ _ | refine Below.setCell ?_ ?_ _ | refine Below.drew ?_ | refine below_drewN ?_ _ | go_size | (simp; omega)))⟩; go_light; simp [canonF, h, dblV])
  · have h1 : (FloatKind.f64.format.order n n != some .eq) = true := by simpa [ford] using h
    go_enter Tryz.func81, Tryz.ntmps81
    go_wp2
    all_goals (go_returns; refine ⟨congrArg Ending.returned ?_, by (repeat' (first | exact Below.refl _ _ | assumption | refine below_next ?_ (by assumption) | refine Below.alloc ?_ ?_ _ | refine Below.setCell ?_ ?_ _ | refine Below.drew ?_ | refine below_drewN ?_ _ | go_size | (simp; omega)))⟩; go_light; simp [canonF, h, dblV])

set_option maxHeartbeats 400000 in
theorem ref_dblx_any (k b l : Int) (w : World) :
    Calls Tryz.prog 106 #[.agg #[.int .i64 k, .int .u64 b, .int .i64 l]] w fun e w' => e = .returned (.float .f64 b.toNat) ∧ Below w.heap.size w w' := by
  go_enter Tryz.func106, Tryz.ntmps106
  go_wp2
  go_returns
  exact ⟨rfl, by go_grown⟩

theorem beqd (a b : Int) : (a == b) = decide (a = b) := by rw [Bool.eq_iff_iff]; simp
theorem wrap30 (op : Int) (h : I64 op) (h2 : -9223372036854775778 ≤ op) : wrap64 (op - 30) = op - 30 := by
  obtain ⟨h3, h4⟩ := h
  unfold wrap64; omega
set_option maxRecDepth 100000 in
set_option maxHeartbeats 8000000 in
theorem refe_dbl (op z b1 l1 b2 l2 : Int) (r : V × Bool) (hi : I64 op) (HS : Hid (∀ w, Calls Tryz.prog 103 #[.int .i64 op] w fun e w' => e = .returned (.tuple #[.int .i64 3, .int .i64 3, .int .i64 z]) ∧ w = w')) (o : 62 ≤ op ∧ op ≤ 71) (HV : Hid (r = (floatsV op b1.toNat b2.toNat, true))) (HD : Hid (∀ w, Calls Tryz.prog 105 #[.int .i64 op, .float .f64 b1.toNat, .float .f64 b2.toNat] w fun e w' => e = .returned (.agg #[.int .i64 (floatsV op b1.toNat b2.toNat).k, .int .u64 (floatsV op b1.toNat b2.toNat).b, .int .i64 (floatsV op b1.toNat b2.toNat).l]) ∧ Below w.heap.size w w')) (hx : U64 b1) (hy : U64 b2) (w : World) :
    Calls Tryz.prog 80 #[.int .i64 op, .agg #[.int .i64 3, .int .u64 b1, .int .i64 l1], .agg #[.int .i64 3, .int .u64 b2, .int .i64 l2]] w fun e w' =>
      e = .returned (.tuple #[.agg #[.int .i64 r.1.k, .int .u64 r.1.b, .int .i64 r.1.l], .bool r.2]) ∧ Below w.heap.size w w' := by
  have hA1 := cell_alloc_if
  have hA2 := frozen_alloc_if
  have hA3 := cell_set_if
  try have hw30 : wrap64 (op - 30) = op - 30 := wrap30 _ hi (by omega)
  go_enter Tryz.func80, Tryz.ntmps80
  go_wp2_with (first
    | (go_at_call 103; with_reducible refine (HS.out _).mono ?_; rintro e w' ⟨rfl, rfl⟩)
    | (go_at_call 104; with_reducible refine (HP.out _).mono ?_; rintro e w' ⟨rfl, hbl⟩; obtain ⟨hc, hf, hz⟩ := cif hbl; (try simp only [World.size_alloc, World.size_setCell, World.size_drew, World.heap_drewN] at hz))
    | (go_at_call 112; with_reducible refine (HH.out _).mono ?_; rintro e w' ⟨rfl, hbl⟩; obtain ⟨hc, hf, hz⟩ := cif hbl; (try simp only [World.size_alloc, World.size_setCell, World.size_drew, World.heap_drewN] at hz))
    | (go_at_call 113; with_reducible refine (HW.out _).mono ?_; rintro e w' ⟨rfl, rfl⟩)
    | (go_at_call 114; with_reducible refine (ref_int_any _ _).mono ?_; rintro e w' ⟨rfl, hbl⟩; obtain ⟨hc, hf, hz⟩ := cif hbl; (try simp only [World.size_alloc, World.size_setCell, World.size_drew, World.heap_drewN] at hz))
    | (go_at_call 115; with_reducible refine (ref_long_any _ _).mono ?_; rintro e w' ⟨rfl, hbl⟩; obtain ⟨hc, hf, hz⟩ := cif hbl; (try simp only [World.size_alloc, World.size_setCell, World.size_drew, World.heap_drewN] at hz))
    | (go_at_call 110; with_reducible refine (ref_yes_any _ _).mono ?_; rintro e w' ⟨rfl, hbl⟩; obtain ⟨hc, hf, hz⟩ := cif hbl; (try simp only [World.size_alloc, World.size_setCell, World.size_drew, World.heap_drewN] at hz))
    | (go_at_call 111; with_reducible refine (compared_any _ _ _ _).mono ?_; rintro e w' ⟨rfl, rfl⟩))
  refine wp_region_tail 6 (by intro c a d v w h; cases d <;> (simp [Exit.then, Exit.inBlock] at h ⊢; exact h)) (by kernel_rfl) (by kernel_rfl) (by kernel_rfl) (by kernel_rfl) ?_
  apply Exists.intro
  refine ⟨fun m hm => ?_, fun w' hw' => ?_⟩
  · simp only [List.map_cons, List.map_nil, List.take_succ_cons, List.take_zero, deAl]
    repeat (first | go_big_quiet_skip | (go_big_quiet_want; go_big_quiet_op; first | go_big_quiet_on | (apply Exists.intro; refine ⟨fun W hW => ?_, ?_⟩; (focus (first
      | (go_at_call 107; with_reducible refine (ref_i64_any _ _ _ _).mono ?_; rintro e w1 ⟨rfl, hb⟩; exact ⟨rfl, Ext.next hW hb⟩)
        | (go_at_call 108; with_reducible refine (ref_i32_any _ _ _ _).mono ?_; rintro e w1 ⟨rfl, hb⟩; exact ⟨rfl, Ext.next hW hb⟩)
        | (go_at_call 109; with_reducible refine (ref_u32_any _ _ _ _).mono ?_; rintro e w1 ⟨rfl, hb⟩; exact ⟨rfl, Ext.next hW hb⟩)
        | (go_at_call 106; with_reducible refine (ref_dblx_any _ _ _ _).mono ?_; rintro e w1 ⟨rfl, hb⟩; exact ⟨rfl, Ext.next hW hb⟩)
        | (go_at_call 105; with_reducible refine (HD.out _).mono ?_; rintro e w1 ⟨rfl, hb⟩; exact ⟨rfl, Ext.next hW hb⟩)
      | exact rfl | (obtain ⟨hcW, hfW, hzW⟩ := cif (Ext.of (Ext.past hm hW)); (try simp only [World.size_alloc, World.size_setCell, World.size_drew, World.heap_drewN] at hzW); simp [go_sem, *, ↓IntWalk.iteOmega]; (try exact rfl)))); go_big_quiet_on)))
    exact wpQuiet_nil rfl
  rw [show als _ 0 6 = [] from by kernel_rfl]
  simp only [gEnd, List.drop_succ_cons, List.drop_zero]
  have hbl := Ext.of hw'
  obtain ⟨hc, hf, hz⟩ := cif hbl
  (try simp only [World.size_alloc, World.size_setCell, World.size_drew, World.heap_drewN] at hz)
  clear hw'
  go_wp2_with (first
    | (go_at_call 103; with_reducible refine (HS.out _).mono ?_; rintro e w' ⟨rfl, rfl⟩)
    | (go_at_call 104; with_reducible refine (HP.out _).mono ?_; rintro e w' ⟨rfl, hbl⟩; obtain ⟨hc, hf, hz⟩ := cif hbl; (try simp only [World.size_alloc, World.size_setCell, World.size_drew, World.heap_drewN] at hz))
    | (go_at_call 112; with_reducible refine (HH.out _).mono ?_; rintro e w' ⟨rfl, hbl⟩; obtain ⟨hc, hf, hz⟩ := cif hbl; (try simp only [World.size_alloc, World.size_setCell, World.size_drew, World.heap_drewN] at hz))
    | (go_at_call 113; with_reducible refine (HW.out _).mono ?_; rintro e w' ⟨rfl, rfl⟩)
    | (go_at_call 114; with_reducible refine (ref_int_any _ _).mono ?_; rintro e w' ⟨rfl, hbl⟩; obtain ⟨hc, hf, hz⟩ := cif hbl; (try simp only [World.size_alloc, World.size_setCell, World.size_drew, World.heap_drewN] at hz))
    | (go_at_call 115; with_reducible refine (ref_long_any _ _).mono ?_; rintro e w' ⟨rfl, hbl⟩; obtain ⟨hc, hf, hz⟩ := cif hbl; (try simp only [World.size_alloc, World.size_setCell, World.size_drew, World.heap_drewN] at hz))
    | (go_at_call 110; with_reducible refine (ref_yes_any _ _).mono ?_; rintro e w' ⟨rfl, hbl⟩; obtain ⟨hc, hf, hz⟩ := cif hbl; (try simp only [World.size_alloc, World.size_setCell, World.size_drew, World.heap_drewN] at hz))
    | (go_at_call 111; with_reducible refine (compared_any _ _ _ _).mono ?_; rintro e w' ⟨rfl, rfl⟩))
  all_goals (((try simp only [Exit.inBlock, Exit.then]); go_light; refine bodyPost_ret (by simp [results, Tryz.results80, go_sem, *, ↓IntWalk.iteOmega]; try rfl) rfl ?_); refine ⟨?_, (by (try clear hc hf); (repeat' (first | (with_reducible exact Below.refl _ _) | (with_reducible assumption) | (with_reducible refine Below.setCell ?_ ?_ _) | (with_reducible refine Below.alloc ?_ ?_ _) | (with_reducible refine Below.drew ?_) | (with_reducible refine below_drewN ?_ _) | (with_reducible refine below_next ?_ (by with_reducible assumption)) | omega | (dsimp only; omega) | (simp only [World.size_alloc, World.size_setCell, World.size_drew, World.heap_drewN]; omega))))⟩; (first | (simp [HV.out, undefV]; done) | (simp [HV.out, flagV_eq, intV, longV, beqd, wrap64_mod, wrap32_mod]; done) | (simp [HV.out, flagV_eq, intV, longV, beqd, wrap64_mod, wrap32_mod, *]; done)))

set_option maxHeartbeats 4000000 in
theorem rdiv_any (x y r : Nat) (hb : floatBits .quo .f64 x y = some r) (w : World) :
    Calls Tryz.prog 105 #[.int .i64 65, .float .f64 x, .float .f64 y] w fun e w' => e = .returned (.agg #[.int .i64 (floatsV 65 x y).k, .int .u64 (floatsV 65 x y).b, .int .i64 (floatsV 65 x y).l]) ∧ Below w.heap.size w w' := by
  have hv : floatsV 65 x y = canonF r := by simp only [floatBits] at hb; simp [floatsV, farith, fbits, hb]
  have hr := run_float_some (P := Tryz.prog) .quo x y r hb
  have HV := Lib.hid hv
  clear hb hv
  have hA1 := cell_alloc_if
  have hA2 := frozen_alloc_if
  have hA3 := cell_set_if
  go_enter Tryz.func105, Tryz.ntmps105
  go_wp2_with (go_at_call 81; refine (ref_dbl_any _ _).mono ?_; rintro e w' ⟨rfl, hbl⟩; obtain ⟨hc, hf, hz⟩ := cif hbl; (try simp only [World.size_alloc, World.size_setCell, World.size_drew, World.heap_drewN] at hz))
  all_goals (((try simp only [Exit.inBlock, Exit.then]); go_light; refine bodyPost_ret (by simp [results, Tryz.results105, go_sem, *, ↓IntWalk.iteOmega]; try rfl) rfl ?_); refine ⟨?_, by (repeat' (first | (with_reducible exact Below.refl _ _) | (with_reducible assumption) | (with_reducible refine Below.setCell ?_ ?_ _) | (with_reducible refine Below.alloc ?_ ?_ _) | (with_reducible refine Below.drew ?_) | (with_reducible refine below_drewN ?_ _) | (with_reducible refine below_next ?_ (by with_reducible assumption)) | omega | (dsimp only; omega) | (simp only [World.size_alloc, World.size_setCell, World.size_drew, World.heap_drewN]; omega)))⟩; simp [HV.out])
/-- The quotient of two whole numbers. -/
theorem reval_quo (n p : Nat) (hn : n < 2 ^ 53) (hp : p ≤ 15) (w : World) :
    Calls Tryz.prog 80 #[.int .i64 65, .agg #[.int .i64 3, .int .u64 (Lx.dblN n : Nat), .int .i64 0], .agg #[.int .i64 3, .int .u64 (Lx.dblN (10 ^ p) : Nat), .int .i64 0]] w fun e w' => e = .returned (.tuple #[.agg #[.int .i64 3, .int .u64 (Lx.quoN n p : Nat), .int .i64 0], .bool true]) ∧ Below w.heap.size w w' := by
  obtain ⟨h1, h2⟩ := Lx.quo_some hn hp
  have HS : ∀ w, Calls Tryz.prog 103 #[.int .i64 65] w fun e w' => e = .returned (.tuple #[.int .i64 3, .int .i64 3, .int .i64 3]) ∧ w = w' := fun w => by
    have := ref_shape_any 65 (by unfold I64; omega) w
    exact this
  have e1 : ((Lx.dblN n : Nat) : Int).toNat = Lx.dblN n := by omega
  have e2 : ((Lx.dblN (10 ^ p) : Nat) : Int).toNat = Lx.dblN (10 ^ p) := by omega
  have hv : floatsV 65 (Lx.dblN n) (Lx.dblN (10 ^ p)) = dblV (Lx.quoN n p) := by
    have a : fbits 65 (Lx.dblN n) (Lx.dblN (10 ^ p)) = some (Lx.quoN n p) := h1
    have b : ford (Lx.quoN n p) (Lx.quoN n p) = some .eq := h2
    simp [floatsV, farith, a, canonF, b]
  have u : ∀ m : Nat, U64 ((Lx.dblN m : Nat) : Int) := fun m => by
    have := Lx.dblN_lt m
    unfold U64; omega
  refine (refe_dbl 65 3 _ 0 _ 0 (dblV (Lx.quoN n p), true) (by unfold I64; omega) (Lib.hid HS) (by omega) (Lib.hid ?_) (Lib.hid fun w => ?_) (u _) (u _) w).mono ?_
  · rw [e1, e2, hv]
  · rw [e1, e2]
    exact rdiv_any _ _ _ h1 w
  · rintro e w' ⟨rfl, hb⟩
    exact ⟨rfl, hb⟩
end Go.Proofs.YteplbbjmbhgllaaGreatDoor
