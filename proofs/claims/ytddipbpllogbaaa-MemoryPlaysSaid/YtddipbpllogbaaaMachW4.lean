/-
  The walks of layer 1's Eval2, in the program and in the reference: both answer the plain function eval2.
-/
import Derived.Test.YtddipbpllogbaaaMachW3
import Derived.Deep.QuietTactic
import Derived.BigQuiet
namespace Go.Proofs.Ytddipbpllogbaaa
open Go.RowKit
set_option linter.unusedVariables false
set_option linter.unusedSimpArgs false

def pointersV (op : Int) (x y : V) : V × Bool :=
  if (x.k = 4 ∧ x.l = 0) ∨ (y.k = 4 ∧ y.l = 0) then (undefV, false)
  else if x.k = 4 ∧ y.k = 4 then
    if x.l ≠ y.l then (undefV, false)
    else if op = 4 then (longV (wrap64 x.b - wrap64 y.b), true)
    else if 22 ≤ op then (flagV (cmpd op (decide (x.b < y.b)) (decide (x.b = y.b))), true)
    else if 16 ≤ op then (flagV (cmpd op (decide (wrap64 x.b < wrap64 y.b)) (decide (x.b = y.b))), true)
    else (undefV, false)
  else if (x.k = 4 ∧ y.k ≠ 2) ∨ (x.k ≠ 4 ∧ x.k ≠ 2) then (undefV, false)
  else if op = 3 then (ptrV (if x.k = 4 then x.l else y.l) (wrap64 x.b + wrap64 y.b), true)
  else if op = 4 ∧ x.k = 4 then (ptrV x.l (wrap64 x.b - wrap64 y.b), true)
  else if (op = 16 ∨ op = 17) ∧ (if x.k = 4 then y.b else x.b) = 0 then (flagV (decide (op = 17)), true)
  else (undefV, false)

def intsV (op x y : Int) : V × Bool :=
  if 22 ≤ op then (flagV (cmpd op (decide (x < y)) (decide (x = y))), true)
  else if 16 ≤ op then (flagV (cmpd op (decide (wrap32 x < wrap32 y)) (decide (x = y))), true)
  else if 13 ≤ op then if 31 < y then (undefV, false) else (intV (shiftU op (wrap32 x) x y), true)
  else if (wholeU (-2147483648) op (wrap32 x) (wrap32 y) x y).2 then (intV (wholeU (-2147483648) op (wrap32 x) (wrap32 y) x y).1, true) else (undefV, false)

def longsV (op x y : Int) : V × Bool :=
  if 22 ≤ op then (flagV (cmpd op (decide (x < y)) (decide (x = y))), true)
  else if 16 ≤ op then (flagV (cmpd op (decide (wrap64 x < wrap64 y)) (decide (x = y))), true)
  else if 13 ≤ op then if 63 < y % 4294967296 then (undefV, false) else (longV (shiftU op (wrap64 x) x (y % 4294967296)), true)
  else if (wholeU (-9223372036854775808) op (wrap64 x) (wrap64 y) x y).2 then (longV (wholeU (-9223372036854775808) op (wrap64 x) (wrap64 y) x y).1, true) else (undefV, false)

def eval2 (op : Int) (x y : V) : V × Bool :=
  if (shape op).2.1 = 0 then (undefV, false)
  else if (shape op).1 = 2 ∧ (shape op).2.1 = 2 ∧ (x.k = 4 ∨ y.k = 4) then pointersV (split op).1 x y
  else if x.k ≠ (shape op).1 ∨ y.k ≠ (shape op).2.1 then (undefV, false)
  else if (shape op).1 = 3 then (floatsV op x.b.toNat y.b.toNat, true)
  else if (shape op).1 = 2 then longsV (split op).1 x.b y.b
  else intsV (split op).1 (x.b % 4294967296) (y.b % 4294967296)

theorem shape_two (op : Int) : (shape op).2.1 = 0 ∨ ((shape op).1 = 3 ∧ (shape op).2.1 = 3 ∧ 62 ≤ op ∧ op ≤ 71) ∨
    ((shape op).1 = 1 ∧ (shape op).2.1 = 1 ∧ (split op).1 = op ∧ 3 ≤ op ∧ op ≤ 25) ∨
    ((shape op).1 = 2 ∧ (shape op).2.1 = 1 ∧ (split op).1 = op - 30 ∧ 13 ≤ op - 30 ∧ op - 30 ≤ 15) ∨
    ((shape op).1 = 2 ∧ (shape op).2.1 = 2 ∧ (split op).1 = op - 30 ∧ (3 ≤ op - 30 ∧ op - 30 < 13 ∨ 16 ≤ op - 30 ∧ op - 30 ≤ 25)) := by
  grind (splits := 60) [shape, split]

theorem wrap64_inj (x y : Int) (hx : U64 x) (hy : U64 y) : wrap64 x = wrap64 y ↔ x = y := by
  have := hx.1; have := hx.2; have := hy.1; have := hy.2
  unfold wrap64; omega
theorem wrap32_inj (x y : Int) (hx : U32 x) (hy : U32 y) : wrap32 x = wrap32 y ↔ x = y := by
  have := hx.1; have := hx.2; have := hy.1; have := hy.2
  unfold wrap32; omega
theorem wrap64_zero (x : Int) (hx : U64 x) : wrap64 x = 0 ↔ x = 0 := by
  have := hx.1; have := hx.2
  unfold wrap64; omega
theorem u64_wrap64 (x : Int) (hx : U64 x) : IntKind.u64.wrap (wrap64 x) = x := by
  have := hx.1; have := hx.2
  rw [IntKind.wrap_u64]; unfold wrap64; omega

set_option maxRecDepth 100000 in
set_option maxHeartbeats 4000000 in
theorem ints_any (op x y : Int) (ho : 3 ≤ op ∧ op ≤ 25) (hx : U32 x) (hy : U32 y) (w : World) :
    Calls Try.prog 59 #[.int .i64 op, .int .u32 x, .int .u32 y] w fun e w' =>
      e = .returned (.tuple #[.agg #[.int .i64 (intsV op x y).1.k, .int .u64 (intsV op x y).1.b, .int .i64 (intsV op x y).1.l], .bool (intsV op x y).2]) ∧ Below w.heap.size w w' := by
  have hx0 := hx; have hy0 := hy
  have hsx := wrap32_I32 x; have hsy := wrap32_I32 y
  have hinj := wrap32_inj x y hx hy
  obtain ⟨o1, o2⟩ := ho
  obtain ⟨x1, x2⟩ := hx
  obtain ⟨y1, y2⟩ := hy
  by_cases c1 : 22 ≤ op
  · have hv : intsV op x y = (flagV (cmpd op (decide (x < y)) (decide (x = y))), true) := by simp [intsV, c1]
    have HV := Lib.hid hv
    have HI := Lib.hid hinj
    clear hv hinj
    go_enter Try.func59, Try.ntmps59
    go_wp2_with (first | (go_at_call 80; refine (ord_u32 _ _ _ _).mono ?_; rintro e w' ⟨rfl, rfl⟩) | (go_at_call 50; refine (flag_any _ _).mono ?_; rintro e w' ⟨rfl, hbl⟩; obtain ⟨hc, hf, hz⟩ := bcell hbl; (try simp only [World.size_alloc, World.size_setCell, World.size_drew, World.heap_drewN] at hz)))
    all_goals (((try simp only [Exit.inBlock, Exit.then]); go_light; refine bodyPost_ret (by simp [results, Try.results59, go_sem, *]; try rfl) rfl ?_); refine ⟨?_, by (repeat' (first | exact Below.refl _ _ | assumption | refine below_next ?_ (by assumption) | refine Below.alloc ?_ ?_ _ | refine Below.setCell ?_ ?_ _ | refine Below.drew ?_ | refine below_drewN ?_ _ | go_size | (simp; omega)))⟩; simp [HV.out, flagV]; cases cmpd op (decide (x < y)) (decide (x = y)) <;> simp [intV])
  · by_cases c2 : 16 ≤ op
    · have hv : intsV op x y = (flagV (cmpd op (decide (wrap32 x < wrap32 y)) (decide (wrap32 x = wrap32 y))), true) := by simp [intsV, c1, c2, hinj]
      have HV := Lib.hid hv
      clear hv hinj
      go_enter Try.func59, Try.ntmps59
      go_wp2_with (first | (go_at_call 81; refine (ord_i32 _ _ _ _).mono ?_; rintro e w' ⟨rfl, rfl⟩) | (go_at_call 50; refine (flag_any _ _).mono ?_; rintro e w' ⟨rfl, hbl⟩; obtain ⟨hc, hf, hz⟩ := bcell hbl; (try simp only [World.size_alloc, World.size_setCell, World.size_drew, World.heap_drewN] at hz)))
      all_goals (((try simp only [Exit.inBlock, Exit.then]); go_light; refine bodyPost_ret (by simp [results, Try.results59, go_sem, *]; try rfl) rfl ?_); refine ⟨?_, by (repeat' (first | exact Below.refl _ _ | assumption | refine below_next ?_ (by assumption) | refine Below.alloc ?_ ?_ _ | refine Below.setCell ?_ ?_ _ | refine Below.drew ?_ | refine below_drewN ?_ _ | go_size | (simp; omega)))⟩; simp [HV.out, flagV]; cases cmpd op (decide (wrap32 x < wrap32 y)) (decide (wrap32 x = wrap32 y)) <;> simp [intV])
    · clear hinj
      by_cases c3 : 13 ≤ op
      · by_cases c4 : 31 < y
        · have hv : intsV op x y = (undefV, false) := by simp [intsV, c1, c2, c3, c4]
          have HV := Lib.hid hv
          clear hv
          go_enter Try.func59, Try.ntmps59
          go_wp2
          all_goals (go_returns; refine ⟨?_, by (repeat' (first | exact Below.refl _ _ | assumption | refine below_next ?_ (by assumption) | refine Below.alloc ?_ ?_ _ | refine Below.setCell ?_ ?_ _ | refine Below.drew ?_ | refine below_drewN ?_ _ | go_size | (simp; omega)))⟩; simp [HV.out, undefV])
        · have hv : intsV op x y = (intV (shiftU op (wrap32 x) x y), true) := by simp [intsV, c1, c2, c3, c4]
          have HV := Lib.hid hv
          have HS := shifted_32 op (wrap32 x) x y (by omega) hx0
          have e2 : cut32 op (shiftU op (wrap32 x) x y) % 4294967296 = shiftU op (wrap32 x) x y % 4294967296 := by unfold cut32; split <;> omega
          generalize shiftU op (wrap32 x) x y = s at *
          generalize cut32 op s = c at *
          have HS' := Lib.hid HS
          have E2 := Lib.hid e2
          clear hv HS e2
          go_enter Try.func59, Try.ntmps59
          go_wp2_with (first | (go_at_call 82; refine (HS'.out _).mono ?_; rintro e w' ⟨rfl, rfl⟩) | (go_at_call 25; refine (intOf_any _ _).mono ?_; rintro e w' ⟨rfl, hbl⟩; obtain ⟨hc, hf, hz⟩ := bcell hbl; (try simp only [World.size_alloc, World.size_setCell, World.size_drew, World.heap_drewN] at hz)))
          all_goals (((try simp only [Exit.inBlock, Exit.then]); go_light; refine bodyPost_ret (by simp [results, Try.results59, go_sem, *]; try rfl) rfl ?_); refine ⟨?_, by (repeat' (first | exact Below.refl _ _ | assumption | refine below_next ?_ (by assumption) | refine Below.alloc ?_ ?_ _ | refine Below.setCell ?_ ?_ _ | refine Below.drew ?_ | refine below_drewN ?_ _ | go_size | (simp; omega)))⟩; simp [HV.out, intV, wrap32_mod, E2.out])
      · have HS := whole_32 op (wrap32 x) (wrap32 y) x y hsx hsy hx0 hy0
        have hv : intsV op x y = if (wholeU (-2147483648) op (wrap32 x) (wrap32 y) x y).2 then (intV (wholeU (-2147483648) op (wrap32 x) (wrap32 y) x y).1, true) else (undefV, false) := by simp [intsV, c1, c2, c3]
        have e2 := w32_mod op (wholeU (-2147483648) op (wrap32 x) (wrap32 y) x y).1
        generalize wholeU (-2147483648) op (wrap32 x) (wrap32 y) x y = s at *
        generalize w32 op s.1 = c at *
        obtain ⟨s, b⟩ := s
        have HS' := Lib.hid HS
        have E2 := Lib.hid e2
        have HV := Lib.hid hv
        clear hv HS e2
        cases b
        all_goals
          go_enter Try.func59, Try.ntmps59
          go_wp2_with (first | (go_at_call 83; refine (HS'.out _).mono ?_; rintro e w' ⟨rfl, rfl⟩) | (go_at_call 25; refine (intOf_any _ _).mono ?_; rintro e w' ⟨rfl, hbl⟩; obtain ⟨hc, hf, hz⟩ := bcell hbl; (try simp only [World.size_alloc, World.size_setCell, World.size_drew, World.heap_drewN] at hz)))
          all_goals (((try simp only [Exit.inBlock, Exit.then]); go_light; refine bodyPost_ret (by simp [results, Try.results59, go_sem, *]; try rfl) rfl ?_); refine ⟨?_, by (repeat' (first | exact Below.refl _ _ | assumption | refine below_next ?_ (by assumption) | refine Below.alloc ?_ ?_ _ | refine Below.setCell ?_ ?_ _ | refine Below.drew ?_ | refine below_drewN ?_ _ | go_size | (simp; omega)))⟩; simp [HV.out, intV, undefV, wrap32_mod, E2.out])

set_option maxRecDepth 100000 in
set_option maxHeartbeats 4000000 in
theorem longs_any (op x y : Int) (ho : 3 ≤ op ∧ op ≤ 25) (hx : U64 x) (hy : U64 y) (w : World) :
    Calls Try.prog 58 #[.int .i64 op, .int .u64 x, .int .u64 y] w fun e w' =>
      e = .returned (.tuple #[.agg #[.int .i64 (longsV op x y).1.k, .int .u64 (longsV op x y).1.b, .int .i64 (longsV op x y).1.l], .bool (longsV op x y).2]) ∧ Below w.heap.size w w' := by
  have hx0 := hx; have hy0 := hy
  have hsx := wrap64_I64 x; have hsy := wrap64_I64 y
  have hinj := wrap64_inj x y hx hy
  obtain ⟨o1, o2⟩ := ho
  obtain ⟨x1, x2⟩ := hx
  obtain ⟨y1, y2⟩ := hy
  by_cases c1 : 22 ≤ op
  · have hv : longsV op x y = (flagV (cmpd op (decide (x < y)) (decide (x = y))), true) := by simp [longsV, c1]
    have HV := Lib.hid hv
    have HI := Lib.hid hinj
    clear hv hinj
    go_enter Try.func58, Try.ntmps58
    go_wp2_with (first | (go_at_call 75; refine (ord_u64 _ _ _ _).mono ?_; rintro e w' ⟨rfl, rfl⟩) | (go_at_call 50; refine (flag_any _ _).mono ?_; rintro e w' ⟨rfl, hbl⟩; obtain ⟨hc, hf, hz⟩ := bcell hbl; (try simp only [World.size_alloc, World.size_setCell, World.size_drew, World.heap_drewN] at hz)))
    all_goals (((try simp only [Exit.inBlock, Exit.then]); go_light; refine bodyPost_ret (by simp [results, Try.results58, go_sem, *]; try rfl) rfl ?_); refine ⟨?_, by (repeat' (first | exact Below.refl _ _ | assumption | refine below_next ?_ (by assumption) | refine Below.alloc ?_ ?_ _ | refine Below.setCell ?_ ?_ _ | refine Below.drew ?_ | refine below_drewN ?_ _ | go_size | (simp; omega)))⟩; simp [HV.out, flagV]; cases cmpd op (decide (x < y)) (decide (x = y)) <;> simp [intV])
  · by_cases c2 : 16 ≤ op
    · have hv : longsV op x y = (flagV (cmpd op (decide (wrap64 x < wrap64 y)) (decide (wrap64 x = wrap64 y))), true) := by simp [longsV, c1, c2, hinj]
      have HV := Lib.hid hv
      clear hv hinj
      go_enter Try.func58, Try.ntmps58
      go_wp2_with (first | (go_at_call 76; refine (ord_i64 _ _ _ _).mono ?_; rintro e w' ⟨rfl, rfl⟩) | (go_at_call 50; refine (flag_any _ _).mono ?_; rintro e w' ⟨rfl, hbl⟩; obtain ⟨hc, hf, hz⟩ := bcell hbl; (try simp only [World.size_alloc, World.size_setCell, World.size_drew, World.heap_drewN] at hz)))
      all_goals (((try simp only [Exit.inBlock, Exit.then]); go_light; refine bodyPost_ret (by simp [results, Try.results58, go_sem, *]; try rfl) rfl ?_); refine ⟨?_, by (repeat' (first | exact Below.refl _ _ | assumption | refine below_next ?_ (by assumption) | refine Below.alloc ?_ ?_ _ | refine Below.setCell ?_ ?_ _ | refine Below.drew ?_ | refine below_drewN ?_ _ | go_size | (simp; omega)))⟩; simp [HV.out, flagV]; cases cmpd op (decide (wrap64 x < wrap64 y)) (decide (wrap64 x = wrap64 y)) <;> simp [intV])
    · clear hinj
      by_cases c3 : 13 ≤ op
      · by_cases c4 : 63 < y % 4294967296
        · have hv : longsV op x y = (undefV, false) := by simp [longsV, c1, c2, c3, c4]
          have HV := Lib.hid hv
          clear hv
          go_enter Try.func58, Try.ntmps58
          go_wp2
          all_goals (go_returns; refine ⟨?_, by (repeat' (first | exact Below.refl _ _ | assumption | refine below_next ?_ (by assumption) | refine Below.alloc ?_ ?_ _ | refine Below.setCell ?_ ?_ _ | refine Below.drew ?_ | refine below_drewN ?_ _ | go_size | (simp; omega)))⟩; simp [HV.out, undefV])
        · have hv : longsV op x y = (longV (shiftU op (wrap64 x) x (y % 4294967296)), true) := by simp [longsV, c1, c2, c3, c4]
          have HV := Lib.hid hv
          have HS := shifted_64 op (wrap64 x) x (y % 4294967296) (by omega) hx0
          generalize shiftU op (wrap64 x) x (y % 4294967296) = s at *
          have HS' := Lib.hid HS
          clear hv HS
          go_enter Try.func58, Try.ntmps58
          go_wp2_with (first | (go_at_call 78; refine (HS'.out _).mono ?_; rintro e w' ⟨rfl, rfl⟩) | (go_at_call 27; refine (longOf_any _ _).mono ?_; rintro e w' ⟨rfl, hbl⟩; obtain ⟨hc, hf, hz⟩ := bcell hbl; (try simp only [World.size_alloc, World.size_setCell, World.size_drew, World.heap_drewN] at hz)))
          all_goals (((try simp only [Exit.inBlock, Exit.then]); go_light; refine bodyPost_ret (by simp [results, Try.results58, go_sem, *]; try rfl) rfl ?_); refine ⟨?_, by (repeat' (first | exact Below.refl _ _ | assumption | refine below_next ?_ (by assumption) | refine Below.alloc ?_ ?_ _ | refine Below.setCell ?_ ?_ _ | refine Below.drew ?_ | refine below_drewN ?_ _ | go_size | (simp; omega)))⟩; simp [HV.out, longV, wrap64_mod])
      · have HS := whole_64 op (wrap64 x) (wrap64 y) x y hsx hsy hx0 hy0
        have hv : longsV op x y = if (wholeU (-9223372036854775808) op (wrap64 x) (wrap64 y) x y).2 then (longV (wholeU (-9223372036854775808) op (wrap64 x) (wrap64 y) x y).1, true) else (undefV, false) := by simp [longsV, c1, c2, c3]
        generalize wholeU (-9223372036854775808) op (wrap64 x) (wrap64 y) x y = s at *
        obtain ⟨s, b⟩ := s
        have HS' := Lib.hid HS
        have HV := Lib.hid hv
        clear hv HS
        cases b
        all_goals
          go_enter Try.func58, Try.ntmps58
          go_wp2_with (first | (go_at_call 79; refine (HS'.out _).mono ?_; rintro e w' ⟨rfl, rfl⟩) | (go_at_call 27; refine (longOf_any _ _).mono ?_; rintro e w' ⟨rfl, hbl⟩; obtain ⟨hc, hf, hz⟩ := bcell hbl; (try simp only [World.size_alloc, World.size_setCell, World.size_drew, World.heap_drewN] at hz)))
          all_goals (((try simp only [Exit.inBlock, Exit.then]); go_light; refine bodyPost_ret (by simp [results, Try.results58, go_sem, *]; try rfl) rfl ?_); refine ⟨?_, by (repeat' (first | exact Below.refl _ _ | assumption | refine below_next ?_ (by assumption) | refine Below.alloc ?_ ?_ _ | refine Below.setCell ?_ ?_ _ | refine Below.drew ?_ | refine below_drewN ?_ _ | go_size | (simp; omega)))⟩; simp [HV.out, longV, undefV, wrap64_mod])

set_option maxRecDepth 100000 in
set_option maxHeartbeats 4000000 in
theorem pointers_pp (op b1 l1 b2 l2 : Int) (ho : 3 ≤ op ∧ op ≤ 25) (hx : U64 b1) (hy : U64 b2) (w : World) :
    Calls Try.prog 56 #[.int .i64 op, .agg #[.int .i64 4, .int .u64 b1, .int .i64 l1], .agg #[.int .i64 4, .int .u64 b2, .int .i64 l2]] w fun e w' =>
      e = .returned (.tuple #[.agg #[.int .i64 (pointersV op ⟨4, b1, l1⟩ ⟨4, b2, l2⟩).1.k, .int .u64 (pointersV op ⟨4, b1, l1⟩ ⟨4, b2, l2⟩).1.b, .int .i64 (pointersV op ⟨4, b1, l1⟩ ⟨4, b2, l2⟩).1.l], .bool (pointersV op ⟨4, b1, l1⟩ ⟨4, b2, l2⟩).2]) ∧ Below w.heap.size w w' := by
  have i1 := wrap64_inj b1 b2 hx hy
  have u1 := u64_wrap64 b1 hx
  have u2 := u64_wrap64 b2 hy
  have I1 := Lib.hid i1
  clear i1
  obtain ⟨o1, o2⟩ := ho
  by_cases c1 : l1 = 0
  · subst c1
    have hv : pointersV op ⟨4, b1, 0⟩ ⟨4, b2, l2⟩ = (undefV, false) := by simp [pointersV]
    have HV := Lib.hid hv
    clear hv
    go_enter Try.func56, Try.ntmps56
    go_wp2
    go_quiet (fail)
    go_wp2_with (first | (go_at_call 27; refine (longOf_any _ _).mono ?_; rintro e w' ⟨rfl, hbl⟩; obtain ⟨hc, hf, hz⟩ := bcell hbl; (try simp only [World.size_alloc, World.size_setCell, World.size_drew, World.heap_drewN] at hz)) | (go_at_call 50; refine (flag_any _ _).mono ?_; rintro e w' ⟨rfl, hbl⟩; obtain ⟨hc, hf, hz⟩ := bcell hbl; (try simp only [World.size_alloc, World.size_setCell, World.size_drew, World.heap_drewN] at hz)) | (go_at_call 23; refine (ptrOf_any _ _ _).mono ?_; rintro e w' ⟨rfl, hbl⟩; obtain ⟨hc, hf, hz⟩ := bcell hbl; (try simp only [World.size_alloc, World.size_setCell, World.size_drew, World.heap_drewN] at hz)) | (go_at_call 75; refine (ord_u64 _ _ _ _).mono ?_; rintro e w' ⟨rfl, rfl⟩) | (go_at_call 76; refine (ord_i64 _ _ _ _).mono ?_; rintro e w' ⟨rfl, rfl⟩))
    all_goals (((try simp only [Exit.inBlock, Exit.then]); go_light; refine bodyPost_ret (by simp [results, Try.results56, go_sem, *]; try rfl) rfl ?_); refine ⟨?_, by (repeat' (first | exact Below.refl _ _ | assumption | refine below_next ?_ (by assumption) | refine Below.alloc ?_ ?_ _ | refine Below.setCell ?_ ?_ _ | refine Below.drew ?_ | refine below_drewN ?_ _ | go_size | (simp; omega)))⟩; simp [HV.out, undefV])
  · by_cases c2 : l1 = l2
    · subst c2
      have c3 : (l1 == 0) = false := beq_eq_false_iff_ne.2 c1
      have hv : pointersV op ⟨4, b1, l1⟩ ⟨4, b2, l1⟩ = if op = 4 then (longV (wrap64 b1 - wrap64 b2), true)
          else if 22 ≤ op then (flagV (cmpd op (decide (b1 < b2)) (decide (b1 = b2))), true)
          else if 16 ≤ op then (flagV (cmpd op (decide (wrap64 b1 < wrap64 b2)) (decide (wrap64 b1 = wrap64 b2))), true)
          else (undefV, false) := by simp [pointersV, c1, I1.out]
      have HV := Lib.hid hv
      clear hv
      go_enter Try.func56, Try.ntmps56
      go_wp2
      go_quiet (fail)
      go_wp2_with (first | (go_at_call 27; refine (longOf_any _ _).mono ?_; rintro e w' ⟨rfl, hbl⟩; obtain ⟨hc, hf, hz⟩ := bcell hbl; (try simp only [World.size_alloc, World.size_setCell, World.size_drew, World.heap_drewN] at hz)) | (go_at_call 50; refine (flag_any _ _).mono ?_; rintro e w' ⟨rfl, hbl⟩; obtain ⟨hc, hf, hz⟩ := bcell hbl; (try simp only [World.size_alloc, World.size_setCell, World.size_drew, World.heap_drewN] at hz)) | (go_at_call 23; refine (ptrOf_any _ _ _).mono ?_; rintro e w' ⟨rfl, hbl⟩; obtain ⟨hc, hf, hz⟩ := bcell hbl; (try simp only [World.size_alloc, World.size_setCell, World.size_drew, World.heap_drewN] at hz)) | (go_at_call 75; refine (ord_u64 _ _ _ _).mono ?_; rintro e w' ⟨rfl, rfl⟩) | (go_at_call 76; refine (ord_i64 _ _ _ _).mono ?_; rintro e w' ⟨rfl, rfl⟩))
      go_quiet (fail)
      go_wp2_with (first | (go_at_call 27; refine (longOf_any _ _).mono ?_; rintro e w' ⟨rfl, hbl⟩; obtain ⟨hc, hf, hz⟩ := bcell hbl; (try simp only [World.size_alloc, World.size_setCell, World.size_drew, World.heap_drewN] at hz)) | (go_at_call 50; refine (flag_any _ _).mono ?_; rintro e w' ⟨rfl, hbl⟩; obtain ⟨hc, hf, hz⟩ := bcell hbl; (try simp only [World.size_alloc, World.size_setCell, World.size_drew, World.heap_drewN] at hz)) | (go_at_call 23; refine (ptrOf_any _ _ _).mono ?_; rintro e w' ⟨rfl, hbl⟩; obtain ⟨hc, hf, hz⟩ := bcell hbl; (try simp only [World.size_alloc, World.size_setCell, World.size_drew, World.heap_drewN] at hz)) | (go_at_call 75; refine (ord_u64 _ _ _ _).mono ?_; rintro e w' ⟨rfl, rfl⟩) | (go_at_call 76; refine (ord_i64 _ _ _ _).mono ?_; rintro e w' ⟨rfl, rfl⟩))
      all_goals (((try simp only [Exit.inBlock, Exit.then]); go_light; refine bodyPost_ret (by simp [results, Try.results56, go_sem, *]; try rfl) rfl ?_); refine ⟨?_, by (repeat' (first | exact Below.refl _ _ | assumption | refine below_next ?_ (by assumption) | refine Below.alloc ?_ ?_ _ | refine Below.setCell ?_ ?_ _ | refine Below.drew ?_ | refine below_drewN ?_ _ | go_size | (simp; omega)))⟩; simp only [HV.out, beq_iff_eq, beq_eq_false_iff_ne] at *; simp only [flagV_eq, undefV, longV]; grind [wrap64_mod])
    · have c3 : (l1 == 0) = false := beq_eq_false_iff_ne.2 c1
      have c4 : (l1 == l2) = false := beq_eq_false_iff_ne.2 c2
      have c5 : (l1 != l2) = true := by simp [c2]
      have hv : pointersV op ⟨4, b1, l1⟩ ⟨4, b2, l2⟩ = (undefV, false) := by simp [pointersV, c1, c2]
      have HV := Lib.hid hv
      clear hv
      go_enter Try.func56, Try.ntmps56
      go_wp2
      go_quiet (fail)
      go_wp2_with (first | (go_at_call 27; refine (longOf_any _ _).mono ?_; rintro e w' ⟨rfl, hbl⟩; obtain ⟨hc, hf, hz⟩ := bcell hbl; (try simp only [World.size_alloc, World.size_setCell, World.size_drew, World.heap_drewN] at hz)) | (go_at_call 50; refine (flag_any _ _).mono ?_; rintro e w' ⟨rfl, hbl⟩; obtain ⟨hc, hf, hz⟩ := bcell hbl; (try simp only [World.size_alloc, World.size_setCell, World.size_drew, World.heap_drewN] at hz)) | (go_at_call 23; refine (ptrOf_any _ _ _).mono ?_; rintro e w' ⟨rfl, hbl⟩; obtain ⟨hc, hf, hz⟩ := bcell hbl; (try simp only [World.size_alloc, World.size_setCell, World.size_drew, World.heap_drewN] at hz)) | (go_at_call 75; refine (ord_u64 _ _ _ _).mono ?_; rintro e w' ⟨rfl, rfl⟩) | (go_at_call 76; refine (ord_i64 _ _ _ _).mono ?_; rintro e w' ⟨rfl, rfl⟩))
      all_goals (((try simp only [Exit.inBlock, Exit.then]); go_light; refine bodyPost_ret (by simp [results, Try.results56, go_sem, *]; try rfl) rfl ?_); refine ⟨?_, by (repeat' (first | exact Below.refl _ _ | assumption | refine below_next ?_ (by assumption) | refine Below.alloc ?_ ?_ _ | refine Below.setCell ?_ ?_ _ | refine Below.drew ?_ | refine below_drewN ?_ _ | go_size | (simp; omega)))⟩; simp [HV.out, undefV])


set_option maxRecDepth 100000 in
set_option maxHeartbeats 4000000 in
theorem pointers_pl (op b1 l1 b2 l2 : Int)  (ho : 3 ≤ op ∧ op ≤ 25) (hx : U64 b1) (hy : U64 b2) (w : World) :
    Calls Try.prog 56 #[.int .i64 op, .agg #[.int .i64 4, .int .u64 b1, .int .i64 l1], .agg #[.int .i64 2, .int .u64 b2, .int .i64 l2]] w fun e w' =>
      e = .returned (.tuple #[.agg #[.int .i64 (pointersV op ⟨4, b1, l1⟩ ⟨2, b2, l2⟩).1.k, .int .u64 (pointersV op ⟨4, b1, l1⟩ ⟨2, b2, l2⟩).1.b, .int .i64 (pointersV op ⟨4, b1, l1⟩ ⟨2, b2, l2⟩).1.l], .bool (pointersV op ⟨4, b1, l1⟩ ⟨2, b2, l2⟩).2]) ∧ Below w.heap.size w w' := by
  have u1 : wrap64 b1 = 0 ↔ b1 = 0 := wrap64_zero b1 hx
  have u2 : wrap64 b2 = 0 ↔ b2 = 0 := wrap64_zero b2 hy
  obtain ⟨o1, o2⟩ := ho
  by_cases c1 : l1 = 0
  · subst c1
    have hv : pointersV op ⟨4, b1, 0⟩ ⟨2, b2, l2⟩ = (undefV, false) := by simp [pointersV]
    have HV := Lib.hid hv
    clear hv u1 u2
    go_enter Try.func56, Try.ntmps56
    go_wp2
    go_quiet (fail)
    go_wp2_with (first | (go_at_call 27; refine (longOf_any _ _).mono ?_; rintro e w' ⟨rfl, hbl⟩; obtain ⟨hc, hf, hz⟩ := bcell hbl; (try simp only [World.size_alloc, World.size_setCell, World.size_drew, World.heap_drewN] at hz)) | (go_at_call 50; refine (flag_any _ _).mono ?_; rintro e w' ⟨rfl, hbl⟩; obtain ⟨hc, hf, hz⟩ := bcell hbl; (try simp only [World.size_alloc, World.size_setCell, World.size_drew, World.heap_drewN] at hz)) | (go_at_call 23; refine (ptrOf_any _ _ _).mono ?_; rintro e w' ⟨rfl, hbl⟩; obtain ⟨hc, hf, hz⟩ := bcell hbl; (try simp only [World.size_alloc, World.size_setCell, World.size_drew, World.heap_drewN] at hz)) | (go_at_call 75; refine (ord_u64 _ _ _ _).mono ?_; rintro e w' ⟨rfl, rfl⟩) | (go_at_call 76; refine (ord_i64 _ _ _ _).mono ?_; rintro e w' ⟨rfl, rfl⟩))
    all_goals (((try simp only [Exit.inBlock, Exit.then]); go_light; refine bodyPost_ret (by simp [results, Try.results56, go_sem, *]; try rfl) rfl ?_); refine ⟨?_, by (repeat' (first | exact Below.refl _ _ | assumption | refine below_next ?_ (by assumption) | refine Below.alloc ?_ ?_ _ | refine Below.setCell ?_ ?_ _ | refine Below.drew ?_ | refine below_drewN ?_ _ | go_size | (simp; omega)))⟩; simp only [HV.out, beq_iff_eq, beq_eq_false_iff_ne] at *; (simp only [flagV_eq, undefV, longV] <;> grind [wrap64_mod, flagV_eq, ptrV, undefV]))
  · have c3 : (l1 == 0) = false := beq_eq_false_iff_ne.2 c1
    have hv : pointersV op ⟨4, b1, l1⟩ ⟨2, b2, l2⟩ = if op = 3 then (ptrV l1 (wrap64 b1 + wrap64 b2), true) else if op = 4 then (ptrV l1 (wrap64 b1 - wrap64 b2), true)
        else if (op = 16 ∨ op = 17) ∧ wrap64 b2 = 0 then (flagV (decide (op = 17)), true) else (undefV, false) := by simp [pointersV, c1, u2]
    have HV := Lib.hid hv
    clear hv u1 u2
    go_enter Try.func56, Try.ntmps56
    go_wp2
    go_quiet (fail)
    go_wp2_with (first | (go_at_call 27; refine (longOf_any _ _).mono ?_; rintro e w' ⟨rfl, hbl⟩; obtain ⟨hc, hf, hz⟩ := bcell hbl; (try simp only [World.size_alloc, World.size_setCell, World.size_drew, World.heap_drewN] at hz)) | (go_at_call 50; refine (flag_any _ _).mono ?_; rintro e w' ⟨rfl, hbl⟩; obtain ⟨hc, hf, hz⟩ := bcell hbl; (try simp only [World.size_alloc, World.size_setCell, World.size_drew, World.heap_drewN] at hz)) | (go_at_call 23; refine (ptrOf_any _ _ _).mono ?_; rintro e w' ⟨rfl, hbl⟩; obtain ⟨hc, hf, hz⟩ := bcell hbl; (try simp only [World.size_alloc, World.size_setCell, World.size_drew, World.heap_drewN] at hz)) | (go_at_call 75; refine (ord_u64 _ _ _ _).mono ?_; rintro e w' ⟨rfl, rfl⟩) | (go_at_call 76; refine (ord_i64 _ _ _ _).mono ?_; rintro e w' ⟨rfl, rfl⟩))
    go_quiet (fail)
    go_wp2_with (first | (go_at_call 27; refine (longOf_any _ _).mono ?_; rintro e w' ⟨rfl, hbl⟩; obtain ⟨hc, hf, hz⟩ := bcell hbl; (try simp only [World.size_alloc, World.size_setCell, World.size_drew, World.heap_drewN] at hz)) | (go_at_call 50; refine (flag_any _ _).mono ?_; rintro e w' ⟨rfl, hbl⟩; obtain ⟨hc, hf, hz⟩ := bcell hbl; (try simp only [World.size_alloc, World.size_setCell, World.size_drew, World.heap_drewN] at hz)) | (go_at_call 23; refine (ptrOf_any _ _ _).mono ?_; rintro e w' ⟨rfl, hbl⟩; obtain ⟨hc, hf, hz⟩ := bcell hbl; (try simp only [World.size_alloc, World.size_setCell, World.size_drew, World.heap_drewN] at hz)) | (go_at_call 75; refine (ord_u64 _ _ _ _).mono ?_; rintro e w' ⟨rfl, rfl⟩) | (go_at_call 76; refine (ord_i64 _ _ _ _).mono ?_; rintro e w' ⟨rfl, rfl⟩))
    all_goals (((try simp only [Exit.inBlock, Exit.then]); go_light; refine bodyPost_ret (by simp [results, Try.results56, go_sem, *]; try rfl) rfl ?_); refine ⟨?_, by (repeat' (first | exact Below.refl _ _ | assumption | refine below_next ?_ (by assumption) | refine Below.alloc ?_ ?_ _ | refine Below.setCell ?_ ?_ _ | refine Below.drew ?_ | refine below_drewN ?_ _ | go_size | (simp; omega)))⟩; simp only [HV.out, beq_iff_eq, beq_eq_false_iff_ne] at *; (simp only [flagV_eq, undefV, longV] <;> grind [wrap64_mod, flagV_eq, ptrV, undefV]))

set_option maxRecDepth 100000 in
set_option maxHeartbeats 4000000 in
theorem pointers_lp (op b1 l1 b2 l2 : Int)  (ho : 3 ≤ op ∧ op ≤ 25) (hx : U64 b1) (hy : U64 b2) (w : World) :
    Calls Try.prog 56 #[.int .i64 op, .agg #[.int .i64 2, .int .u64 b1, .int .i64 l1], .agg #[.int .i64 4, .int .u64 b2, .int .i64 l2]] w fun e w' =>
      e = .returned (.tuple #[.agg #[.int .i64 (pointersV op ⟨2, b1, l1⟩ ⟨4, b2, l2⟩).1.k, .int .u64 (pointersV op ⟨2, b1, l1⟩ ⟨4, b2, l2⟩).1.b, .int .i64 (pointersV op ⟨2, b1, l1⟩ ⟨4, b2, l2⟩).1.l], .bool (pointersV op ⟨2, b1, l1⟩ ⟨4, b2, l2⟩).2]) ∧ Below w.heap.size w w' := by
  have u1 : wrap64 b1 = 0 ↔ b1 = 0 := wrap64_zero b1 hx
  have u2 : wrap64 b2 = 0 ↔ b2 = 0 := wrap64_zero b2 hy
  obtain ⟨o1, o2⟩ := ho
  by_cases c1 : l2 = 0
  · subst c1
    have hv : pointersV op ⟨2, b1, l1⟩ ⟨4, b2, 0⟩ = (undefV, false) := by simp [pointersV]
    have HV := Lib.hid hv
    clear hv u1 u2
    go_enter Try.func56, Try.ntmps56
    go_wp2
    go_quiet (fail)
    go_wp2_with (first | (go_at_call 27; refine (longOf_any _ _).mono ?_; rintro e w' ⟨rfl, hbl⟩; obtain ⟨hc, hf, hz⟩ := bcell hbl; (try simp only [World.size_alloc, World.size_setCell, World.size_drew, World.heap_drewN] at hz)) | (go_at_call 50; refine (flag_any _ _).mono ?_; rintro e w' ⟨rfl, hbl⟩; obtain ⟨hc, hf, hz⟩ := bcell hbl; (try simp only [World.size_alloc, World.size_setCell, World.size_drew, World.heap_drewN] at hz)) | (go_at_call 23; refine (ptrOf_any _ _ _).mono ?_; rintro e w' ⟨rfl, hbl⟩; obtain ⟨hc, hf, hz⟩ := bcell hbl; (try simp only [World.size_alloc, World.size_setCell, World.size_drew, World.heap_drewN] at hz)) | (go_at_call 75; refine (ord_u64 _ _ _ _).mono ?_; rintro e w' ⟨rfl, rfl⟩) | (go_at_call 76; refine (ord_i64 _ _ _ _).mono ?_; rintro e w' ⟨rfl, rfl⟩))
    all_goals (((try simp only [Exit.inBlock, Exit.then]); go_light; refine bodyPost_ret (by simp [results, Try.results56, go_sem, *]; try rfl) rfl ?_); refine ⟨?_, by (repeat' (first | exact Below.refl _ _ | assumption | refine below_next ?_ (by assumption) | refine Below.alloc ?_ ?_ _ | refine Below.setCell ?_ ?_ _ | refine Below.drew ?_ | refine below_drewN ?_ _ | go_size | (simp; omega)))⟩; simp only [HV.out, beq_iff_eq, beq_eq_false_iff_ne] at *; (simp only [flagV_eq, undefV, longV] <;> grind [wrap64_mod, flagV_eq, ptrV, undefV]))
  · have c3 : (l2 == 0) = false := beq_eq_false_iff_ne.2 c1
    have hv : pointersV op ⟨2, b1, l1⟩ ⟨4, b2, l2⟩ = if op = 3 then (ptrV l2 (wrap64 b1 + wrap64 b2), true)
        else if (op = 16 ∨ op = 17) ∧ wrap64 b1 = 0 then (flagV (decide (op = 17)), true) else (undefV, false) := by simp [pointersV, c1, u1]
    have HV := Lib.hid hv
    clear hv u1 u2
    go_enter Try.func56, Try.ntmps56
    go_wp2
    go_quiet (fail)
    go_wp2_with (first | (go_at_call 27; refine (longOf_any _ _).mono ?_; rintro e w' ⟨rfl, hbl⟩; obtain ⟨hc, hf, hz⟩ := bcell hbl; (try simp only [World.size_alloc, World.size_setCell, World.size_drew, World.heap_drewN] at hz)) | (go_at_call 50; refine (flag_any _ _).mono ?_; rintro e w' ⟨rfl, hbl⟩; obtain ⟨hc, hf, hz⟩ := bcell hbl; (try simp only [World.size_alloc, World.size_setCell, World.size_drew, World.heap_drewN] at hz)) | (go_at_call 23; refine (ptrOf_any _ _ _).mono ?_; rintro e w' ⟨rfl, hbl⟩; obtain ⟨hc, hf, hz⟩ := bcell hbl; (try simp only [World.size_alloc, World.size_setCell, World.size_drew, World.heap_drewN] at hz)) | (go_at_call 75; refine (ord_u64 _ _ _ _).mono ?_; rintro e w' ⟨rfl, rfl⟩) | (go_at_call 76; refine (ord_i64 _ _ _ _).mono ?_; rintro e w' ⟨rfl, rfl⟩))
    go_quiet (fail)
    go_wp2_with (first | (go_at_call 27; refine (longOf_any _ _).mono ?_; rintro e w' ⟨rfl, hbl⟩; obtain ⟨hc, hf, hz⟩ := bcell hbl; (try simp only [World.size_alloc, World.size_setCell, World.size_drew, World.heap_drewN] at hz)) | (go_at_call 50; refine (flag_any _ _).mono ?_; rintro e w' ⟨rfl, hbl⟩; obtain ⟨hc, hf, hz⟩ := bcell hbl; (try simp only [World.size_alloc, World.size_setCell, World.size_drew, World.heap_drewN] at hz)) | (go_at_call 23; refine (ptrOf_any _ _ _).mono ?_; rintro e w' ⟨rfl, hbl⟩; obtain ⟨hc, hf, hz⟩ := bcell hbl; (try simp only [World.size_alloc, World.size_setCell, World.size_drew, World.heap_drewN] at hz)) | (go_at_call 75; refine (ord_u64 _ _ _ _).mono ?_; rintro e w' ⟨rfl, rfl⟩) | (go_at_call 76; refine (ord_i64 _ _ _ _).mono ?_; rintro e w' ⟨rfl, rfl⟩))
    all_goals (((try simp only [Exit.inBlock, Exit.then]); go_light; refine bodyPost_ret (by simp [results, Try.results56, go_sem, *]; try rfl) rfl ?_); refine ⟨?_, by (repeat' (first | exact Below.refl _ _ | assumption | refine below_next ?_ (by assumption) | refine Below.alloc ?_ ?_ _ | refine Below.setCell ?_ ?_ _ | refine Below.drew ?_ | refine below_drewN ?_ _ | go_size | (simp; omega)))⟩; simp only [HV.out, beq_iff_eq, beq_eq_false_iff_ne] at *; (simp only [flagV_eq, undefV, longV] <;> grind [wrap64_mod, flagV_eq, ptrV, undefV]))

set_option maxRecDepth 100000 in
set_option maxHeartbeats 4000000 in
theorem pointers_po (op b1 l1 b2 l2 k2 : Int) (hk2 : k2 ≠ 2) (hk4 : k2 ≠ 4) (ho : 3 ≤ op ∧ op ≤ 25) (hx : U64 b1) (hy : U64 b2) (w : World) :
    Calls Try.prog 56 #[.int .i64 op, .agg #[.int .i64 4, .int .u64 b1, .int .i64 l1], .agg #[.int .i64 k2, .int .u64 b2, .int .i64 l2]] w fun e w' =>
      e = .returned (.tuple #[.agg #[.int .i64 (pointersV op ⟨4, b1, l1⟩ ⟨k2, b2, l2⟩).1.k, .int .u64 (pointersV op ⟨4, b1, l1⟩ ⟨k2, b2, l2⟩).1.b, .int .i64 (pointersV op ⟨4, b1, l1⟩ ⟨k2, b2, l2⟩).1.l], .bool (pointersV op ⟨4, b1, l1⟩ ⟨k2, b2, l2⟩).2]) ∧ Below w.heap.size w w' := by
  have u1 : wrap64 b1 = 0 ↔ b1 = 0 := wrap64_zero b1 hx
  have u2 : wrap64 b2 = 0 ↔ b2 = 0 := wrap64_zero b2 hy
  obtain ⟨o1, o2⟩ := ho
  have d2 : (k2 == 2) = false := beq_eq_false_iff_ne.2 hk2
  have d4 : (4 == k2) = false := beq_eq_false_iff_ne.2 (fun h => hk4 h.symm)
  have d3 : (k2 != 2) = true := by simp [hk2]
  clear u1 u2
  have hv : pointersV op ⟨4, b1, l1⟩ ⟨k2, b2, l2⟩ = (undefV, false) := by simp [pointersV, hk2, hk4]
  have HV := Lib.hid hv
  clear hv hk2 hk4
  by_cases c1 : l1 = 0
  · subst c1
    go_enter Try.func56, Try.ntmps56
    go_wp2
    go_quiet (fail)
    go_wp2_with (first | (go_at_call 27; refine (longOf_any _ _).mono ?_; rintro e w' ⟨rfl, hbl⟩; obtain ⟨hc, hf, hz⟩ := bcell hbl; (try simp only [World.size_alloc, World.size_setCell, World.size_drew, World.heap_drewN] at hz)) | (go_at_call 50; refine (flag_any _ _).mono ?_; rintro e w' ⟨rfl, hbl⟩; obtain ⟨hc, hf, hz⟩ := bcell hbl; (try simp only [World.size_alloc, World.size_setCell, World.size_drew, World.heap_drewN] at hz)) | (go_at_call 23; refine (ptrOf_any _ _ _).mono ?_; rintro e w' ⟨rfl, hbl⟩; obtain ⟨hc, hf, hz⟩ := bcell hbl; (try simp only [World.size_alloc, World.size_setCell, World.size_drew, World.heap_drewN] at hz)) | (go_at_call 75; refine (ord_u64 _ _ _ _).mono ?_; rintro e w' ⟨rfl, rfl⟩) | (go_at_call 76; refine (ord_i64 _ _ _ _).mono ?_; rintro e w' ⟨rfl, rfl⟩))
    all_goals (((try simp only [Exit.inBlock, Exit.then]); go_light; refine bodyPost_ret (by simp [results, Try.results56, go_sem, *]; try rfl) rfl ?_); refine ⟨?_, by (repeat' (first | exact Below.refl _ _ | assumption | refine below_next ?_ (by assumption) | refine Below.alloc ?_ ?_ _ | refine Below.setCell ?_ ?_ _ | refine Below.drew ?_ | refine below_drewN ?_ _ | go_size | (simp; omega)))⟩; simp [HV.out, undefV])
  · have c3 : (l1 == 0) = false := beq_eq_false_iff_ne.2 c1
    clear c1
    go_enter Try.func56, Try.ntmps56
    go_wp2
    go_quiet (fail)
    go_wp2_with (first | (go_at_call 27; refine (longOf_any _ _).mono ?_; rintro e w' ⟨rfl, hbl⟩; obtain ⟨hc, hf, hz⟩ := bcell hbl; (try simp only [World.size_alloc, World.size_setCell, World.size_drew, World.heap_drewN] at hz)) | (go_at_call 50; refine (flag_any _ _).mono ?_; rintro e w' ⟨rfl, hbl⟩; obtain ⟨hc, hf, hz⟩ := bcell hbl; (try simp only [World.size_alloc, World.size_setCell, World.size_drew, World.heap_drewN] at hz)) | (go_at_call 23; refine (ptrOf_any _ _ _).mono ?_; rintro e w' ⟨rfl, hbl⟩; obtain ⟨hc, hf, hz⟩ := bcell hbl; (try simp only [World.size_alloc, World.size_setCell, World.size_drew, World.heap_drewN] at hz)) | (go_at_call 75; refine (ord_u64 _ _ _ _).mono ?_; rintro e w' ⟨rfl, rfl⟩) | (go_at_call 76; refine (ord_i64 _ _ _ _).mono ?_; rintro e w' ⟨rfl, rfl⟩))
    go_quiet (fail)
    go_wp2_with (first | (go_at_call 27; refine (longOf_any _ _).mono ?_; rintro e w' ⟨rfl, hbl⟩; obtain ⟨hc, hf, hz⟩ := bcell hbl; (try simp only [World.size_alloc, World.size_setCell, World.size_drew, World.heap_drewN] at hz)) | (go_at_call 50; refine (flag_any _ _).mono ?_; rintro e w' ⟨rfl, hbl⟩; obtain ⟨hc, hf, hz⟩ := bcell hbl; (try simp only [World.size_alloc, World.size_setCell, World.size_drew, World.heap_drewN] at hz)) | (go_at_call 23; refine (ptrOf_any _ _ _).mono ?_; rintro e w' ⟨rfl, hbl⟩; obtain ⟨hc, hf, hz⟩ := bcell hbl; (try simp only [World.size_alloc, World.size_setCell, World.size_drew, World.heap_drewN] at hz)) | (go_at_call 75; refine (ord_u64 _ _ _ _).mono ?_; rintro e w' ⟨rfl, rfl⟩) | (go_at_call 76; refine (ord_i64 _ _ _ _).mono ?_; rintro e w' ⟨rfl, rfl⟩))
    all_goals (((try simp only [Exit.inBlock, Exit.then]); go_light; refine bodyPost_ret (by simp [results, Try.results56, go_sem, *]; try rfl) rfl ?_); refine ⟨?_, by (repeat' (first | exact Below.refl _ _ | assumption | refine below_next ?_ (by assumption) | refine Below.alloc ?_ ?_ _ | refine Below.setCell ?_ ?_ _ | refine Below.drew ?_ | refine below_drewN ?_ _ | go_size | (simp; omega)))⟩; simp [HV.out, undefV])

set_option maxRecDepth 100000 in
set_option maxHeartbeats 4000000 in
theorem pointers_op (op b1 l1 b2 l2 k1 : Int) (hk2 : k1 ≠ 2) (hk4 : k1 ≠ 4) (ho : 3 ≤ op ∧ op ≤ 25) (hx : U64 b1) (hy : U64 b2) (w : World) :
    Calls Try.prog 56 #[.int .i64 op, .agg #[.int .i64 k1, .int .u64 b1, .int .i64 l1], .agg #[.int .i64 4, .int .u64 b2, .int .i64 l2]] w fun e w' =>
      e = .returned (.tuple #[.agg #[.int .i64 (pointersV op ⟨k1, b1, l1⟩ ⟨4, b2, l2⟩).1.k, .int .u64 (pointersV op ⟨k1, b1, l1⟩ ⟨4, b2, l2⟩).1.b, .int .i64 (pointersV op ⟨k1, b1, l1⟩ ⟨4, b2, l2⟩).1.l], .bool (pointersV op ⟨k1, b1, l1⟩ ⟨4, b2, l2⟩).2]) ∧ Below w.heap.size w w' := by
  have u1 : wrap64 b1 = 0 ↔ b1 = 0 := wrap64_zero b1 hx
  have u2 : wrap64 b2 = 0 ↔ b2 = 0 := wrap64_zero b2 hy
  obtain ⟨o1, o2⟩ := ho
  have d2 : (k1 == 2) = false := beq_eq_false_iff_ne.2 hk2
  have d4 : (k1 == 4) = false := beq_eq_false_iff_ne.2 hk4
  have d5 : (k1 != 4) = true := by simp [hk4]
  have d3 : (k1 != 2) = true := by simp [hk2]
  clear u1 u2
  have hv : pointersV op ⟨k1, b1, l1⟩ ⟨4, b2, l2⟩ = (undefV, false) := by simp [pointersV, hk2, hk4]
  have HV := Lib.hid hv
  clear hv hk2 hk4
  by_cases c1 : l2 = 0
  · subst c1
    go_enter Try.func56, Try.ntmps56
    go_wp2
    go_quiet (fail)
    go_wp2_with (first | (go_at_call 27; refine (longOf_any _ _).mono ?_; rintro e w' ⟨rfl, hbl⟩; obtain ⟨hc, hf, hz⟩ := bcell hbl; (try simp only [World.size_alloc, World.size_setCell, World.size_drew, World.heap_drewN] at hz)) | (go_at_call 50; refine (flag_any _ _).mono ?_; rintro e w' ⟨rfl, hbl⟩; obtain ⟨hc, hf, hz⟩ := bcell hbl; (try simp only [World.size_alloc, World.size_setCell, World.size_drew, World.heap_drewN] at hz)) | (go_at_call 23; refine (ptrOf_any _ _ _).mono ?_; rintro e w' ⟨rfl, hbl⟩; obtain ⟨hc, hf, hz⟩ := bcell hbl; (try simp only [World.size_alloc, World.size_setCell, World.size_drew, World.heap_drewN] at hz)) | (go_at_call 75; refine (ord_u64 _ _ _ _).mono ?_; rintro e w' ⟨rfl, rfl⟩) | (go_at_call 76; refine (ord_i64 _ _ _ _).mono ?_; rintro e w' ⟨rfl, rfl⟩))
    all_goals (((try simp only [Exit.inBlock, Exit.then]); go_light; refine bodyPost_ret (by simp [results, Try.results56, go_sem, *]; try rfl) rfl ?_); refine ⟨?_, by (repeat' (first | exact Below.refl _ _ | assumption | refine below_next ?_ (by assumption) | refine Below.alloc ?_ ?_ _ | refine Below.setCell ?_ ?_ _ | refine Below.drew ?_ | refine below_drewN ?_ _ | go_size | (simp; omega)))⟩; simp [HV.out, undefV])
  · have c3 : (l2 == 0) = false := beq_eq_false_iff_ne.2 c1
    clear c1
    go_enter Try.func56, Try.ntmps56
    go_wp2
    go_quiet (fail)
    go_wp2_with (first | (go_at_call 27; refine (longOf_any _ _).mono ?_; rintro e w' ⟨rfl, hbl⟩; obtain ⟨hc, hf, hz⟩ := bcell hbl; (try simp only [World.size_alloc, World.size_setCell, World.size_drew, World.heap_drewN] at hz)) | (go_at_call 50; refine (flag_any _ _).mono ?_; rintro e w' ⟨rfl, hbl⟩; obtain ⟨hc, hf, hz⟩ := bcell hbl; (try simp only [World.size_alloc, World.size_setCell, World.size_drew, World.heap_drewN] at hz)) | (go_at_call 23; refine (ptrOf_any _ _ _).mono ?_; rintro e w' ⟨rfl, hbl⟩; obtain ⟨hc, hf, hz⟩ := bcell hbl; (try simp only [World.size_alloc, World.size_setCell, World.size_drew, World.heap_drewN] at hz)) | (go_at_call 75; refine (ord_u64 _ _ _ _).mono ?_; rintro e w' ⟨rfl, rfl⟩) | (go_at_call 76; refine (ord_i64 _ _ _ _).mono ?_; rintro e w' ⟨rfl, rfl⟩))
    go_quiet (fail)
    go_wp2_with (first | (go_at_call 27; refine (longOf_any _ _).mono ?_; rintro e w' ⟨rfl, hbl⟩; obtain ⟨hc, hf, hz⟩ := bcell hbl; (try simp only [World.size_alloc, World.size_setCell, World.size_drew, World.heap_drewN] at hz)) | (go_at_call 50; refine (flag_any _ _).mono ?_; rintro e w' ⟨rfl, hbl⟩; obtain ⟨hc, hf, hz⟩ := bcell hbl; (try simp only [World.size_alloc, World.size_setCell, World.size_drew, World.heap_drewN] at hz)) | (go_at_call 23; refine (ptrOf_any _ _ _).mono ?_; rintro e w' ⟨rfl, hbl⟩; obtain ⟨hc, hf, hz⟩ := bcell hbl; (try simp only [World.size_alloc, World.size_setCell, World.size_drew, World.heap_drewN] at hz)) | (go_at_call 75; refine (ord_u64 _ _ _ _).mono ?_; rintro e w' ⟨rfl, rfl⟩) | (go_at_call 76; refine (ord_i64 _ _ _ _).mono ?_; rintro e w' ⟨rfl, rfl⟩))
    all_goals (((try simp only [Exit.inBlock, Exit.then]); go_light; refine bodyPost_ret (by simp [results, Try.results56, go_sem, *]; try rfl) rfl ?_); refine ⟨?_, by (repeat' (first | exact Below.refl _ _ | assumption | refine below_next ?_ (by assumption) | refine Below.alloc ?_ ?_ _ | refine Below.setCell ?_ ?_ _ | refine Below.drew ?_ | refine below_drewN ?_ _ | go_size | (simp; omega)))⟩; simp [HV.out, undefV])

end Go.Proofs.Ytddipbpllogbaaa
