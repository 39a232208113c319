/-
  The walks of layer 1's functions on whole numbers.
-/
import Derived.Test.YtddipbpllogbaaaMachW1
import Derived.Lib.Hide
namespace Go.Proofs.Ytddipbpllogbaaa
set_option linter.unusedVariables false
set_option linter.unusedSimpArgs false
open Go.RowKit

/-! ### the quotients -/
set_option maxHeartbeats 1000000 in
theorem divided_i32 (x y : Int) (rest : Bool) (hx : I32 x) (hy : I32 y) (w : World) :
    Calls Try.prog 90 #[.int .i32 x, .int .i32 y, .bool rest] w fun e w' => e = .returned (.tuple #[.int .i32 (sdiv (-2147483648) x y rest).1, .bool (sdiv (-2147483648) x y rest).2]) ∧ w = w' := by
  have hx0 := hx
  obtain ⟨hx1, hx2⟩ := hx
  obtain ⟨hy1, hy2⟩ := hy
  have hn : bits .xor .i32 (-1) 0 = -1 := by decide
  go_enter Try.func90, Try.ntmps90
  go_wp2
  all_goals (go_returns; refine ⟨congrArg Ending.returned ?_, rfl⟩; go_light; simp; have f1 := tdiv_i32 x y hx0; have f2 := neg_i32 x hx0; have f3 := tdiv_neg_one x; have f4 := tmod_neg_one x; grind [sdiv])

set_option maxHeartbeats 1000000 in
theorem divided_i64 (x y : Int) (rest : Bool) (hx : I64 x) (hy : I64 y) (w : World) :
    Calls Try.prog 88 #[.int .i64 x, .int .i64 y, .bool rest] w fun e w' => e = .returned (.tuple #[.int .i64 (sdiv (-9223372036854775808) x y rest).1, .bool (sdiv (-9223372036854775808) x y rest).2]) ∧ w = w' := by
  have hx0 := hx
  obtain ⟨hx1, hx2⟩ := hx
  obtain ⟨hy1, hy2⟩ := hy
  have hn : bits .xor .i64 (-1) 0 = -1 := by decide
  go_enter Try.func88, Try.ntmps88
  go_wp2
  all_goals (go_returns; refine ⟨congrArg Ending.returned ?_, rfl⟩; go_light; simp; have f1 := tdiv_i64 x y hx0; have f2 := neg_i64 x hx0; have f3 := tdiv_neg_one x; have f4 := tmod_neg_one x; grind [sdiv])

set_option maxHeartbeats 1000000 in
theorem divided_u32 (x y : Int) (rest : Bool) (hx : U32 x) (hy : U32 y) (w : World) :
    Calls Try.prog 91 #[.int .u32 x, .int .u32 y, .bool rest] w fun e w' => e = .returned (.tuple #[.int .u32 (udiv x y rest).1, .bool (udiv x y rest).2]) ∧ w = w' := by
  obtain ⟨hx1, hx2⟩ := hx
  obtain ⟨hy1, hy2⟩ := hy
  have hn : bits .xor .u32 4294967295 0 = 4294967295 := by decide
  go_enter Try.func91, Try.ntmps91
  go_wp2
  all_goals (go_returns; refine ⟨congrArg Ending.returned ?_, rfl⟩; go_light; simp; grind [udiv])

set_option maxHeartbeats 1000000 in
theorem divided_u64 (x y : Int) (rest : Bool) (hx : U64 x) (hy : U64 y) (w : World) :
    Calls Try.prog 89 #[.int .u64 x, .int .u64 y, .bool rest] w fun e w' => e = .returned (.tuple #[.int .u64 (udiv x y rest).1, .bool (udiv x y rest).2]) ∧ w = w' := by
  obtain ⟨hx1, hx2⟩ := hx
  obtain ⟨hy1, hy2⟩ := hy
  have hn : bits .xor .u64 18446744073709551615 0 = 18446744073709551615 := by decide
  go_enter Try.func89, Try.ntmps89
  go_wp2
  all_goals (go_returns; refine ⟨congrArg Ending.returned ?_, rfl⟩; go_light; simp; grind [udiv])

/-! ### the shifts -/
def cut32 (op v : Int) : Int := if op = 13 then v % 4294967296 else v % 18446744073709551616

set_option maxHeartbeats 1000000 in
theorem shifted_32 (op x ux n : Int) (hn : 0 ≤ n ∧ n ≤ 31) (hu : U32 ux) (w : World) :
    Calls Try.prog 82 #[.int .i64 op, .int .i32 x, .int .u32 ux, .int .u64 n] w fun e w' => e = .returned (.int .u64 (cut32 op (shiftU op x ux n))) ∧ w = w' := by
  obtain ⟨h1, h2⟩ := hn
  obtain ⟨h3, h4⟩ := hu
  go_enter Try.func82, Try.ntmps82
  go_wp2
  all_goals (go_returns; refine ⟨congrArg (fun b => Ending.returned (Value.int .u64 b)) ?_, rfl⟩; go_light; simp only [IntKind.wrap_u64, cut32, shiftU, beq_iff_eq, beq_eq_false_iff_ne] at *; simp [*]; try omega)

set_option maxHeartbeats 1000000 in
theorem shifted_64 (op x ux n : Int) (hn : 0 ≤ n ∧ n ≤ 63) (hu : U64 ux) (w : World) :
    Calls Try.prog 78 #[.int .i64 op, .int .i64 x, .int .u64 ux, .int .u64 n] w fun e w' => e = .returned (.int .u64 (shiftU op x ux n % 18446744073709551616)) ∧ w = w' := by
  obtain ⟨h1, h2⟩ := hn
  obtain ⟨h3, h4⟩ := hu
  have h5 : 0 ≤ ux / 2 ^ n.toNat := Int.ediv_nonneg h3 (Int.pow_nonneg (by omega))
  have h6 : ux / 2 ^ n.toNat ≤ ux := Int.ediv_le_self _ h3
  go_enter Try.func78, Try.ntmps78
  go_wp2
  all_goals (go_returns; refine ⟨congrArg (fun b => Ending.returned (Value.int .u64 b)) ?_, rfl⟩; go_light; simp only [IntKind.wrap_u64, shiftU, beq_iff_eq, beq_eq_false_iff_ne] at *; simp [*]; try omega)

set_option maxHeartbeats 1000000 in
theorem ref_i32_any (k b l : Int) (w : World) :
    Calls Try.prog 65 #[.agg #[.int .i64 k, .int .u64 b, .int .i64 l]] w fun e w' => e = .returned (.int .i32 (wrap32 (b % 4294967296))) ∧ Below w.heap.size w w' := by
  go_enter Try.func65, Try.ntmps65
  go_wp2
  go_returns
  exact ⟨rfl, by go_grown⟩
set_option maxHeartbeats 1000000 in
theorem ref_u32_any (k b l : Int) (w : World) :
    Calls Try.prog 66 #[.agg #[.int .i64 k, .int .u64 b, .int .i64 l]] w fun e w' => e = .returned (.int .u32 (b % 4294967296)) ∧ Below w.heap.size w w' := by
  go_enter Try.func66, Try.ntmps66
  go_wp2
  go_returns
  exact ⟨rfl, by go_grown⟩
set_option maxHeartbeats 1000000 in
theorem ref_i64_any (k b l : Int) (w : World) :
    Calls Try.prog 64 #[.agg #[.int .i64 k, .int .u64 b, .int .i64 l]] w fun e w' => e = .returned (.int .i64 (wrap64 b)) ∧ Below w.heap.size w w' := by
  go_enter Try.func64, Try.ntmps64
  go_wp2
  go_returns
  exact ⟨rfl, by go_grown⟩


-- ref.shift of 32 bits, where it has a meaning, and where it has none
set_option maxHeartbeats 1000000 in
theorem ref_shift_32 (op x b l : Int) (hx : U64 x) (hb : b % 4294967296 ≤ 31) (w : World) :
    Calls Try.prog 69 #[.int .i64 op, .int .u64 x, .agg #[.int .i64 1, .int .u64 b, .int .i64 l], .int .i64 32] w fun e w' =>
      e = .returned (.tuple #[.int .u64 (shiftU op (wrap32 (x % 4294967296)) (x % 4294967296) (b % 4294967296) % 18446744073709551616), .bool true]) ∧ Below w.heap.size w w' := by
  obtain ⟨h1, h2⟩ := hx
  have e1 : wrap32 (b % 4294967296) = b % 4294967296 := by unfold wrap32; omega
  have h5 : 0 ≤ b % 4294967296 := by omega
  obtain ⟨n, hn⟩ : ∃ n, n = b % 4294967296 := ⟨_, rfl⟩
  have HI := ref_i32_any 1 b l
  rw [e1, ← hn] at HI
  have HH := Lib.hid HI; clear HI
  rw [← hn] at hb h5
  rw [← hn]
  clear e1 hn
  have h6 : 0 ≤ x % 4294967296 / 2 ^ n.toNat := Int.ediv_nonneg (by omega) (Int.pow_nonneg (by omega))
  have h7 : x % 4294967296 / 2 ^ n.toNat ≤ x % 4294967296 := Int.ediv_le_self _ (by omega)
  go_enter Try.func69, Try.ntmps69
  go_wp2_with (go_at_call 65; refine (HH.out _).mono ?_; rintro e w' ⟨rfl, hbl⟩; obtain ⟨hc, hf, hz⟩ := bcell hbl; (try simp only [World.size_alloc, World.size_setCell, World.size_drew, World.heap_drewN] at hz))
  all_goals (go_returns; refine ⟨congrArg Ending.returned ?_, by (repeat' (first | exact Below.refl _ _ | assumption | refine below_next ?_ (by assumption) | refine Below.alloc ?_ ?_ _ | refine Below.setCell ?_ ?_ _ | refine Below.drew ?_ | refine below_drewN ?_ _ | go_size | (simp; omega)))⟩; go_light; simp only [IntKind.wrap_u64, shiftU, beq_iff_eq, beq_eq_false_iff_ne] at *; simp [*, wrap64_wrap32]; try omega)

set_option maxHeartbeats 1000000 in
theorem ref_shift_64 (op x b l : Int) (hx : U64 x) (hb : b % 4294967296 ≤ 63) (w : World) :
    Calls Try.prog 69 #[.int .i64 op, .int .u64 x, .agg #[.int .i64 1, .int .u64 b, .int .i64 l], .int .i64 64] w fun e w' =>
      e = .returned (.tuple #[.int .u64 (shiftU op (wrap64 x) x (b % 4294967296) % 18446744073709551616), .bool true]) ∧ Below w.heap.size w w' := by
  obtain ⟨h1, h2⟩ := hx
  have e1 : wrap32 (b % 4294967296) = b % 4294967296 := by unfold wrap32; omega
  have h5 : 0 ≤ b % 4294967296 := by omega
  obtain ⟨n, hn⟩ : ∃ n, n = b % 4294967296 := ⟨_, rfl⟩
  have HI := ref_i32_any 1 b l
  rw [e1, ← hn] at HI
  have HH := Lib.hid HI; clear HI
  rw [← hn] at hb h5
  rw [← hn]
  clear e1 hn
  have h6 : 0 ≤ x / 2 ^ n.toNat := Int.ediv_nonneg (by omega) (Int.pow_nonneg (by omega))
  have h7 : x / 2 ^ n.toNat ≤ x := Int.ediv_le_self _ (by omega)
  go_enter Try.func69, Try.ntmps69
  go_wp2_with (go_at_call 65; refine (HH.out _).mono ?_; rintro e w' ⟨rfl, hbl⟩; obtain ⟨hc, hf, hz⟩ := bcell hbl; (try simp only [World.size_alloc, World.size_setCell, World.size_drew, World.heap_drewN] at hz))
  all_goals (go_returns; refine ⟨congrArg Ending.returned ?_, by (repeat' (first | exact Below.refl _ _ | assumption | refine below_next ?_ (by assumption) | refine Below.alloc ?_ ?_ _ | refine Below.setCell ?_ ?_ _ | refine Below.drew ?_ | refine below_drewN ?_ _ | go_size | (simp; omega)))⟩; go_light; simp only [IntKind.wrap_u64, shiftU, beq_iff_eq, beq_eq_false_iff_ne] at *; simp [*, wrap64_wrap32]; try omega)

set_option maxHeartbeats 1000000 in
theorem ref_shift_32_no (op x b l : Int) (hb : 31 < b % 4294967296) (w : World) :
    Calls Try.prog 69 #[.int .i64 op, .int .u64 x, .agg #[.int .i64 1, .int .u64 b, .int .i64 l], .int .i64 32] w fun e w' =>
      e = .returned (.tuple #[.int .u64 0, .bool false]) ∧ Below w.heap.size w w' := by
  have HI := ref_i32_any 1 b l
  have e1 : wrap32 (b % 4294967296) < 0 ∨ 32 ≤ wrap32 (b % 4294967296) := by unfold wrap32; omega
  have e2 : -2147483648 ≤ wrap32 (b % 4294967296) ∧ wrap32 (b % 4294967296) ≤ 2147483647 := wrap32_I32 _
  obtain ⟨n, hn⟩ : ∃ n, n = wrap32 (b % 4294967296) := ⟨_, rfl⟩
  rw [← hn] at HI e1 e2
  have HH := Lib.hid HI; clear HI hn hb
  obtain ⟨e2, e3⟩ := e2
  rcases e1 with e1 | e1
  all_goals
    go_enter Try.func69, Try.ntmps69
    go_wp2_with (go_at_call 65; refine (HH.out _).mono ?_; rintro e w' ⟨rfl, hbl⟩; obtain ⟨hc, hf, hz⟩ := bcell hbl; (try simp only [World.size_alloc, World.size_setCell, World.size_drew, World.heap_drewN] at hz))
    all_goals (go_returns; exact ⟨rfl, by (repeat' (first | exact Below.refl _ _ | assumption | refine below_next ?_ (by assumption) | refine Below.alloc ?_ ?_ _ | refine Below.setCell ?_ ?_ _ | refine Below.drew ?_ | refine below_drewN ?_ _ | go_size | (simp; omega)))⟩)
set_option maxHeartbeats 1000000 in
theorem ref_shift_64_no (op x b l : Int) (hb : 63 < b % 4294967296) (w : World) :
    Calls Try.prog 69 #[.int .i64 op, .int .u64 x, .agg #[.int .i64 1, .int .u64 b, .int .i64 l], .int .i64 64] w fun e w' =>
      e = .returned (.tuple #[.int .u64 0, .bool false]) ∧ Below w.heap.size w w' := by
  have HI := ref_i32_any 1 b l
  have e1 : wrap32 (b % 4294967296) < 0 ∨ 64 ≤ wrap32 (b % 4294967296) := by unfold wrap32; omega
  have e2 : -2147483648 ≤ wrap32 (b % 4294967296) ∧ wrap32 (b % 4294967296) ≤ 2147483647 := wrap32_I32 _
  obtain ⟨n, hn⟩ : ∃ n, n = wrap32 (b % 4294967296) := ⟨_, rfl⟩
  rw [← hn] at HI e1 e2
  have HH := Lib.hid HI; clear HI hn hb
  obtain ⟨e2, e3⟩ := e2
  rcases e1 with e1 | e1
  all_goals
    go_enter Try.func69, Try.ntmps69
    go_wp2_with (go_at_call 65; refine (HH.out _).mono ?_; rintro e w' ⟨rfl, hbl⟩; obtain ⟨hc, hf, hz⟩ := bcell hbl; (try simp only [World.size_alloc, World.size_setCell, World.size_drew, World.heap_drewN] at hz))
    all_goals (go_returns; exact ⟨rfl, by (repeat' (first | exact Below.refl _ _ | assumption | refine below_next ?_ (by assumption) | refine Below.alloc ?_ ?_ _ | refine Below.setCell ?_ ?_ _ | refine Below.drew ?_ | refine below_drewN ?_ _ | go_size | (simp; omega)))⟩)

/-! ### whole -/
set_option maxHeartbeats 1000000 in
theorem whole_32 (op x y ux uy : Int) (hx : I32 x) (hy : I32 y) (hux : U32 ux) (huy : U32 uy) (w : World) :
    Calls Try.prog 83 #[.int .i64 op, .int .i32 x, .int .i32 y, .int .u32 ux, .int .u32 uy] w fun e w' =>
      e = .returned (.tuple #[.int .u64 (w32 op (wholeU (-2147483648) op x y ux uy).1), .bool (wholeU (-2147483648) op x y ux uy).2]) ∧ w = w' := by
  have b1 := bits_and_u32 ux uy hux huy
  have b2 := bits_or_u32 ux uy hux huy
  have b3 := bits_xor_u32 ux uy hux huy
  have q1 := band_lt32 ux uy (by have := hux.2; omega) (by have := huy.2; omega)
  have q2 := bor_lt32 ux uy (by have := hux.2; omega) (by have := huy.2; omega)
  have q3 := bxor_lt32 ux uy (by have := hux.2; omega) (by have := huy.2; omega)
  have q4 := udiv_le ux uy true 4294967295 hux huy
  have q5 := udiv_le ux uy false 4294967295 hux huy
  have hux0 := hux; have huy0 := huy; have hx0 := hx; have hy0 := hy
  obtain ⟨h1, h2⟩ := hux
  obtain ⟨h3, h4⟩ := huy
  go_enter Try.func83, Try.ntmps83
  go_wp2_with (first | (go_at_call 90; refine (divided_i32 _ _ _ hx0 hy0 _).mono ?_; rintro e w' ⟨rfl, rfl⟩) | (go_at_call 91; refine (divided_u32 _ _ _ hux0 huy0 _).mono ?_; rintro e w' ⟨rfl, rfl⟩))
  all_goals (go_returns; refine ⟨congrArg Ending.returned ?_, rfl⟩; go_light; simp only [IntKind.wrap_u64, beq_iff_eq, beq_eq_false_iff_ne] at *; try subst op)
  all_goals (simp [*, wholeU, w32]; try omega)
  all_goals
    by_cases h9 : op = 9
    · subst h9; simp; try omega
    · have h10 : (op == 9) = false := beq_eq_false_iff_ne.2 h9
      rw [h10, if_neg h9]; simp; try omega

set_option maxHeartbeats 1000000 in
theorem whole_64 (op x y ux uy : Int) (hx : I64 x) (hy : I64 y) (hux : U64 ux) (huy : U64 uy) (w : World) :
    Calls Try.prog 79 #[.int .i64 op, .int .i64 x, .int .i64 y, .int .u64 ux, .int .u64 uy] w fun e w' =>
      e = .returned (.tuple #[.int .u64 ((wholeU (-9223372036854775808) op x y ux uy).1 % 18446744073709551616), .bool (wholeU (-9223372036854775808) op x y ux uy).2]) ∧ w = w' := by
  have b1 := bits_and_u64 ux uy hux huy
  have b2 := bits_or_u64 ux uy hux huy
  have b3 := bits_xor_u64 ux uy hux huy
  have q1 := band_lt64 ux uy (by have := hux.2; omega) (by have := huy.2; omega)
  have q2 := bor_lt64 ux uy (by have := hux.2; omega) (by have := huy.2; omega)
  have q3 := bxor_lt64 ux uy (by have := hux.2; omega) (by have := huy.2; omega)
  have q4 := udiv_le ux uy true 18446744073709551615 hux huy
  have q5 := udiv_le ux uy false 18446744073709551615 hux huy
  have hux0 := hux; have huy0 := huy; have hx0 := hx; have hy0 := hy
  obtain ⟨h1, h2⟩ := hux
  obtain ⟨h3, h4⟩ := huy
  go_enter Try.func79, Try.ntmps79
  go_wp2_with (first | (go_at_call 88; refine (divided_i64 _ _ _ hx0 hy0 _).mono ?_; rintro e w' ⟨rfl, rfl⟩) | (go_at_call 89; refine (divided_u64 _ _ _ hux0 huy0 _).mono ?_; rintro e w' ⟨rfl, rfl⟩))
  all_goals (go_returns; refine ⟨congrArg Ending.returned ?_, rfl⟩; go_light; simp only [IntKind.wrap_u64, beq_iff_eq, beq_eq_false_iff_ne] at *; try subst op)
  all_goals (simp [*, wholeU]; try omega)
  all_goals
    by_cases h9 : op = 9
    · subst h9; simp; try omega
    · have h10 : (op == 9) = false := beq_eq_false_iff_ne.2 h9
      rw [h10, if_neg h9]; simp; try omega


set_option maxHeartbeats 4000000 in
theorem ref_whole_32' (op x y ux uy sx sy : Int) (hux : x % 4294967296 = ux) (huy : y % 4294967296 = uy) (hsx : wrap32 ux = sx) (hsy : wrap32 uy = sy) (ho : 3 ≤ op ∧ op ≤ 12) (w : World) :
    Calls Try.prog 70 #[.int .i64 op, .int .u64 x, .int .u64 y, .int .i64 32] w fun e w' =>
      e = .returned (.tuple #[.int .u64 ((wholeU (-2147483648) op sx sy ux uy).1 % 18446744073709551616), .bool (wholeU (-2147483648) op sx sy ux uy).2]) ∧ w = w' := by
  have hu1 : U64 ux := by unfold U64; omega
  have hu3 : U64 uy := by unfold U64; omega
  have hu2 : U32 ux := hux ▸ mod_U32 _
  have hu4 : U32 uy := huy ▸ mod_U32 _
  have hs2 : I32 sx := hsx ▸ wrap32_I32 _
  have hs4 : I32 sy := hsy ▸ wrap32_I32 _
  have e1 : wrap64 sx = sx := hsx ▸ wrap64_wrap32 _
  have e2 : wrap64 sy = sy := hsy ▸ wrap64_wrap32 _
  have z1 : uy = 0 ↔ sy = 0 := by rw [← hsy]; have := hu4.1; have := hu4.2; unfold wrap32; omega
  have d1 := Int.ediv_nonneg hu2.1 hu4.1
  have d2 := Int.ediv_le_self uy hu2.1
  have d3 : uy ≠ 0 → 0 ≤ ux % uy := fun h => Int.emod_nonneg _ h
  have d4 : uy ≠ 0 → ux % uy < uy := fun h => Int.emod_lt_of_pos _ (by have := hu4.1; omega)
  have q7 := udiv_le ux uy true 4294967295 hu2 hu4
  have q8 := udiv_le ux uy false 4294967295 hu2 hu4
  have b1 := bits_and_u64 ux uy hu1 hu3
  have b2 := bits_or_u64 ux uy hu1 hu3
  have b3 := bits_xor_u64 ux uy hu1 hu3
  obtain ⟨h1, h2⟩ := hu2
  obtain ⟨h3, h4⟩ := hs2
  obtain ⟨h5, h6⟩ := ho
  obtain ⟨h7, h8⟩ := hu4
  obtain ⟨h9, h10⟩ := hs4
  have q1 := band_lt32 ux uy (by omega) (by omega)
  have q2 := bor_lt32 ux uy (by omega) (by omega)
  have q3 := bxor_lt32 ux uy (by omega) (by omega)
  by_cases c1 : uy = 0
  · have c2 := z1.1 c1
    clear d3 d4
    subst c1; subst c2
    clear z1
    go_enter Try.func70, Try.ntmps70
    go_wp2
    all_goals (go_returns; refine ⟨congrArg Ending.returned ?_, rfl⟩; go_light; simp only [beq_iff_eq, beq_eq_false_iff_ne, IntKind.wrap_u64, wrap64_mod] at *)
    all_goals (simp [wholeU, sdiv, udiv, Int.tmod_eq_emod_of_nonneg (show (0 : Int) ≤ 9223372036854775808 by decide), *]; try omega)
  · have c2 : sy ≠ 0 := fun h => c1 (z1.2 h)
    have c3 : (uy == 0) = false := beq_eq_false_iff_ne.2 c1
    have c4 : (sy == 0) = false := beq_eq_false_iff_ne.2 c2
    have d3 := d3 c1
    have d4 := d4 c1
    clear z1
    have c6 : (sx == -9223372036854775808) = false := beq_eq_false_iff_ne.2 (by omega)
    by_cases c5 : sy = -1 ∧ sx = -2147483648
    · obtain ⟨rfl, rfl⟩ := c5
      go_enter Try.func70, Try.ntmps70
      go_wp2
      all_goals (go_returns; refine ⟨congrArg Ending.returned ?_, rfl⟩; go_light; simp only [beq_iff_eq, beq_eq_false_iff_ne, IntKind.wrap_u64, wrap64_mod] at *)
      all_goals (simp [wholeU, sdiv, udiv, Int.tmod_eq_emod_of_nonneg (show (0 : Int) ≤ 9223372036854775808 by decide), *]; try omega)
    · have t1 := tdiv_in sx sy 2147483647 (by omega) (by omega) (by omega) c5
      have t2 := tmod_bound sx sy 2147483648 2147483647 (by omega) (by omega) (by omega)
      go_enter Try.func70, Try.ntmps70
      go_wp2
      all_goals (go_returns; refine ⟨congrArg Ending.returned ?_, rfl⟩; go_light; simp only [beq_iff_eq, beq_eq_false_iff_ne, IntKind.wrap_u64, wrap64_mod] at *)
      all_goals (simp [wholeU, sdiv, udiv, Int.tmod_eq_emod_of_nonneg (show (0 : Int) ≤ 9223372036854775808 by decide), *]; try omega)

theorem ref_whole_32 (op x y : Int) (ho : 3 ≤ op ∧ op ≤ 12) (w : World) :
    Calls Try.prog 70 #[.int .i64 op, .int .u64 x, .int .u64 y, .int .i64 32] w fun e w' =>
      e = .returned (.tuple #[.int .u64 ((wholeU (-2147483648) op (wrap32 (x % 4294967296)) (wrap32 (y % 4294967296)) (x % 4294967296) (y % 4294967296)).1 % 18446744073709551616), .bool (wholeU (-2147483648) op (wrap32 (x % 4294967296)) (wrap32 (y % 4294967296)) (x % 4294967296) (y % 4294967296)).2]) ∧ w = w' :=
  ref_whole_32' op x y _ _ _ _ rfl rfl rfl rfl ho w

set_option maxHeartbeats 4000000 in
theorem ref_whole_64' (op x y sx sy : Int) (hx : U64 x) (hy : U64 y) (hsx : wrap64 x = sx) (hsy : wrap64 y = sy) (ho : 3 ≤ op ∧ op ≤ 12) (w : World) :
    Calls Try.prog 70 #[.int .i64 op, .int .u64 x, .int .u64 y, .int .i64 64] w fun e w' =>
      e = .returned (.tuple #[.int .u64 ((wholeU (-9223372036854775808) op sx sy x y).1 % 18446744073709551616), .bool (wholeU (-9223372036854775808) op sx sy x y).2]) ∧ w = w' := by
  have hs2 : I64 sx := hsx ▸ wrap64_I64 _
  have hs4 : I64 sy := hsy ▸ wrap64_I64 _
  have z1 : y = 0 ↔ sy = 0 := by rw [← hsy]; have := hy.1; have := hy.2; unfold wrap64; omega
  have d1 := Int.ediv_nonneg hx.1 hy.1
  have d2 := Int.ediv_le_self y hx.1
  have d3 : y ≠ 0 → 0 ≤ x % y := fun h => Int.emod_nonneg _ h
  have d4 : y ≠ 0 → x % y < y := fun h => Int.emod_lt_of_pos _ (by have := hy.1; omega)
  have q7 := udiv_le x y true 18446744073709551615 hx hy
  have q8 := udiv_le x y false 18446744073709551615 hx hy
  have b1 := bits_and_u64 x y hx hy
  have b2 := bits_or_u64 x y hx hy
  have b3 := bits_xor_u64 x y hx hy
  obtain ⟨h1, h2⟩ := hx
  obtain ⟨h3, h4⟩ := hs2
  obtain ⟨h5, h6⟩ := ho
  obtain ⟨h7, h8⟩ := hy
  obtain ⟨h9, h10⟩ := hs4
  have q1 := band_lt64 x y (by omega) (by omega)
  have q2 := bor_lt64 x y (by omega) (by omega)
  have q3 := bxor_lt64 x y (by omega) (by omega)
  by_cases c1 : y = 0
  · have c2 := z1.1 c1
    clear d3 d4
    subst c1; subst c2
    clear z1
    go_enter Try.func70, Try.ntmps70
    go_wp2
    all_goals (go_returns; refine ⟨congrArg Ending.returned ?_, rfl⟩; go_light; simp only [beq_iff_eq, beq_eq_false_iff_ne, IntKind.wrap_u64, wrap64_mod] at *)
    all_goals (simp [wholeU, sdiv, udiv, Int.tmod_eq_emod_of_nonneg (show (0 : Int) ≤ 9223372036854775808 by decide), *]; try omega)
  · have c2 : sy ≠ 0 := fun h => c1 (z1.2 h)
    have c3 : (y == 0) = false := beq_eq_false_iff_ne.2 c1
    have c4 : (sy == 0) = false := beq_eq_false_iff_ne.2 c2
    have d3 := d3 c1
    have d4 := d4 c1
    clear z1
    by_cases c5 : sy = -1 ∧ sx = -9223372036854775808
    · obtain ⟨rfl, rfl⟩ := c5
      go_enter Try.func70, Try.ntmps70
      go_wp2
      all_goals (go_returns; refine ⟨congrArg Ending.returned ?_, rfl⟩; go_light; simp only [beq_iff_eq, beq_eq_false_iff_ne, IntKind.wrap_u64, wrap64_mod] at *)
      all_goals (simp [wholeU, sdiv, udiv, Int.tmod_eq_emod_of_nonneg (show (0 : Int) ≤ 9223372036854775808 by decide), *]; try omega)
    · have t1 := tdiv_in sx sy 9223372036854775807 (by omega) (by omega) (by omega) c5
      have t2 := tmod_bound sx sy 9223372036854775808 9223372036854775807 (by omega) (by omega) (by omega)
      go_enter Try.func70, Try.ntmps70
      go_wp2
      all_goals (go_returns; refine ⟨congrArg Ending.returned ?_, rfl⟩; go_light; simp only [beq_iff_eq, beq_eq_false_iff_ne, IntKind.wrap_u64, wrap64_mod] at *)
      all_goals (simp [wholeU, sdiv, udiv, Int.tmod_eq_emod_of_nonneg (show (0 : Int) ≤ 9223372036854775808 by decide), *]; try omega)

end Go.Proofs.Ytddipbpllogbaaa
