/-
  A double's whole part, asked whether it lies in a range: of the part, or of the double itself. No program in sight.
-/
import Derived.Test.YteeojgepgjndgaaDoorFloat
namespace Go.Proofs.YteeojgepgjndgaaDoor
open Ieee
set_option linter.unusedVariables false
set_option exponentiation.threshold 4096

/-- The whole part of a word; none: it isn't finite. -/
def wholeOf (x : Nat) : Option Int := (Ieee.double.read x).toInt .zero

/-- y is x made whole. -/
def TruncOf (x y : Nat) : Prop := match Ieee.double.read x with
  | .number s m p => ∃ s' m' p', Ieee.double.read y = .number s' m' p' ∧ -1074 ≤ p' ∧ sval s' m' p' = ((sval s m p).tdiv unit1) * unit1
  | .infinity s => Ieee.double.read y = .infinity s
  | .nan _ _ => ∃ s t, Ieee.double.read y = .nan s t

theorem unit1_cast : unit1 = ((2 ^ 1074 : Nat) : Int) := two_cast 1074

theorem sval_zero (s : Bool) (M : Nat) : sval s M 0 = (if s then -(M : Int) else (M : Int)) * unit1 := by
  unfold sval
  rw [unit1_cast]
  have e : ((0 : Int) + 1074).toNat = 1074 := by omega
  rw [e]
  cases s
  · simp only [Bool.false_eq_true, if_false]; rw [Int.natCast_mul]
  · simp only [if_true]; rw [Int.natCast_mul, Int.neg_mul]

theorem trunc_number {x : Nat} {s : Bool} {m : Nat} {p : Int} (h : Ieee.double.read x = .number s m p) : TruncOf x (Ieee.double.write ((Datum.number s m p).integral .zero)) := by
  obtain ⟨h1, h2, h3⟩ := read_num h
  have hT := int_num s m p h2
  unfold TruncOf
  rw [h]
  dsimp only
  unfold Datum.toInt at hT
  unfold Datum.integral at hT ⊢
  dsimp only at hT ⊢
  rw [cut_zero] at hT ⊢
  obtain ⟨M, hM⟩ : ∃ M, M = (m <<< p.toNat) / 2 ^ (-p).toNat := ⟨_, rfl⟩
  rw [← hM] at hT ⊢
  have hrep : ∃ m0 e, M = m0 * 2 ^ e ∧ m0 < 2 ^ 53 ∧ e ≤ 971 := by
    by_cases c : 0 ≤ p
    · have e1 : (-p).toNat = 0 := by omega
      refine ⟨m, p.toNat, ?_, h1, by omega⟩
      rw [hM, e1, Nat.pow_zero, Nat.div_one, Nat.shiftLeft_eq]
    · have e1 : p.toNat = 0 := by omega
      refine ⟨M, 0, by rw [Nat.pow_zero, Nat.mul_one], ?_, by omega⟩
      rw [hM, e1]
      exact Nat.lt_of_le_of_lt (Nat.div_le_self _ _) h1
  obtain ⟨m0, e, hM2, hm0, he⟩ := hrep
  obtain ⟨m', p', r1, r2, r3⟩ := read_nearest s m0 e hm0 he
  rw [← hM2] at r1 r3
  refine ⟨s, m', p', r1, r2, ?_⟩
  rw [r3, sval_zero]
  injection hT with hT
  rw [← hT]
  unfold signed
  rw [Nat.shiftLeft_eq, Nat.pow_zero, Nat.mul_one]

theorem wholeOf_trunc {x y : Nat} (h : TruncOf x y) : wholeOf y = wholeOf x := by
  unfold TruncOf at h
  unfold wholeOf
  cases hx : Ieee.double.read x with
  | number s m p =>
    rw [hx] at h
    obtain ⟨s', m', p', h1, h2, h3⟩ := h
    rw [h1, int_num _ _ _ h2, int_num _ _ _ (read_num hx).2.1, h3, Int.mul_tdiv_cancel _ (Int.ne_of_gt unit1_pos)]
  | infinity s => rw [hx] at h; rw [show Ieee.double.read y = _ from h]
  | nan s t => rw [hx] at h; obtain ⟨s', t', h1⟩ := h; rw [h1]; rfl

/-- A constant that is a whole number. -/
def Const (c : Nat) (C : Int) : Prop := ∃ t n q, Ieee.double.read c = .number t n q ∧ -1074 ≤ q ∧ sval t n q = C * unit1

def okT (o : Option Int) (lo hi : Int) : Bool := match o with
  | some T => decide (lo ≤ T) && decide (T < hi)
  | none => false

theorem cmp_lt (a b : Int) : (some (compare a b) == some Ordering.lt) = decide (a < b) := by
  show (some (compareOfLessAndEq a b) == _) = _
  unfold compareOfLessAndEq
  by_cases h : a < b
  · simp [h]
  · by_cases h2 : a = b <;> simp [h, h2]
theorem cmp_gt (a b : Int) : (some (compare a b) == some Ordering.gt) = decide (b < a) := by
  show (some (compareOfLessAndEq a b) == _) = _
  unfold compareOfLessAndEq
  by_cases h : a < b
  · simp [h]; omega
  · by_cases h2 : a = b
    · simp [h2]
    · simp [h, h2]; omega
theorem cmp_ge (a b : Int) : ((some (compare a b) == some Ordering.gt) || (some (compare a b) == some Ordering.eq)) = decide (b ≤ a) := by
  show ((some (compareOfLessAndEq a b) == _) || (some (compareOfLessAndEq a b) == _)) = _
  unfold compareOfLessAndEq
  by_cases h : a < b
  · simp [h]
  · by_cases h2 : a = b
    · simp [h2]
    · simp [h, h2]; omega

/-- The program's question: of the whole part. -/
theorem in_trunc {x y lo hi : Nat} {L H : Int} (h : TruncOf x y) (hl : Const lo L) (hh : Const hi H) :
    ((Ieee.double.order y lo == some .gt || Ieee.double.order y lo == some .eq) && (Ieee.double.order y hi == some .lt)) = okT (wholeOf x) L H := by
  obtain ⟨t, n, q, l1, l2, l3⟩ := hl
  obtain ⟨t', n', q', k1, k2, k3⟩ := hh
  unfold TruncOf at h
  unfold wholeOf Format.order
  cases hx : Ieee.double.read x with
  | number s m p =>
    rw [hx] at h
    obtain ⟨s', m', p', h1, h2, h3⟩ := h
    rw [h1, l1, k1, order_num _ _ _ _ _ _ h2 l2, order_num _ _ _ _ _ _ h2 k2, h3, l3, k3, int_num _ _ _ (read_num hx).2.1, unit1_cast,
      compare_scale _ _ _ (Nat.two_pow_pos _), compare_scale _ _ _ (Nat.two_pow_pos _), cmp_ge, cmp_lt]
    rfl
  | infinity s =>
    rw [hx] at h
    rw [show Ieee.double.read y = _ from h, l1, k1]
    cases s <;> rfl
  | nan s t =>
    rw [hx] at h
    obtain ⟨s', t', h1⟩ := h
    rw [h1, l1, k1]
    rfl

theorem tdiv_ge (S K C : Int) (hK : 0 < K) (hC : C ≤ 0) : (C ≤ S.tdiv K) ↔ ((C - 1) * K < S) := by
  have h1 := Int.mul_tdiv_add_tmod S K
  have e1 : (C - 1) * K = C * K - K := by rw [Int.sub_mul, Int.one_mul]
  rw [e1]
  obtain ⟨q, hq⟩ : ∃ q, q = S.tdiv K := ⟨_, rfl⟩
  obtain ⟨r, hr⟩ : ∃ r, r = S.tmod K := ⟨_, rfl⟩
  rw [← hq, ← hr] at h1
  rw [← hq]
  have h3 : r < K := by rw [hr]; exact Int.tmod_lt_of_pos _ hK
  have h4 : -K < r := by
    have := Int.tmod_lt_of_pos (-S) hK
    rw [Int.neg_tmod] at this; omega
  have h5 : 0 ≤ S → 0 ≤ r := fun h => by rw [hr]; exact Int.tmod_nonneg _ h
  have h6 : S ≤ 0 → r ≤ 0 := fun h => by
    have := Int.tmod_nonneg K (show 0 ≤ -S by omega)
    rw [Int.neg_tmod] at this; omega
  have h7 : 0 ≤ S → 0 ≤ q := fun h => by rw [hq]; exact Int.tdiv_nonneg h (by omega)
  constructor
  · intro h
    have h2 : C * K ≤ q * K := Int.mul_le_mul_of_nonneg_right h (by omega)
    rw [Int.mul_comm] at h1
    omega
  · intro h
    rw [Int.mul_comm] at h1
    by_cases c : 0 ≤ S
    · have := h7 c; omega
    · have := h6 (by omega)
      have h8 : (C - 1) * K < q * K := by rw [e1]; omega
      have := Int.lt_of_mul_lt_mul_right h8 (by omega)
      omega

theorem tdiv_lt (S K C : Int) (hK : 0 < K) (hC : 0 < C) : (S.tdiv K < C) ↔ (S < C * K) := by
  have h := tdiv_ge (-S) K (1 - C) hK (by omega)
  rw [Int.neg_tdiv] at h
  have e : (1 - C - 1) * K = -(C * K) := by rw [show (1 - C - 1) = -C by omega, Int.neg_mul]
  rw [e] at h
  omega

/-- The reference's question: of the double itself. -/
theorem in_self {x lo hi : Nat} {L H : Int} (hL : L ≤ 0) (hH : 0 < H) (hl : Const lo (L - 1)) (hh : Const hi H) :
    ((Ieee.double.order x lo == some .gt) && (Ieee.double.order x hi == some .lt)) = okT (wholeOf x) L H := by
  obtain ⟨t, n, q, l1, l2, l3⟩ := hl
  obtain ⟨t', n', q', k1, k2, k3⟩ := hh
  unfold wholeOf Format.order
  cases hx : Ieee.double.read x with
  | number s m p =>
    have h2 := (read_num hx).2.1
    rw [l1, k1, order_num _ _ _ _ _ _ h2 l2, order_num _ _ _ _ _ _ h2 k2, l3, k3, int_num _ _ _ h2, cmp_gt, cmp_lt]
    have e1 := tdiv_ge (sval s m p) unit1 L unit1_pos hL
    have e2 := tdiv_lt (sval s m p) unit1 H unit1_pos hH
    show _ = (decide _ && decide _)
    rw [decide_eq_decide.2 e1, decide_eq_decide.2 e2]
  | infinity s => rw [l1, k1]; cases s <;> rfl
  | nan s t => rw [l1, k1]; rfl

/-- Below -2^63 the next double is -2^63-2048. -/
theorem next63 {x : Nat} {s : Bool} {m : Nat} {p : Int} (h : Ieee.double.read x = .number s m p) : (-9223372036854777856 * unit1 < sval s m p) ↔ (-9223372036854775809 * unit1 < sval s m p) := by
  obtain ⟨h1, h2, h3⟩ := read_num h
  have hu := unit1_pos
  have key : s = true → ¬ (9223372036854775808 * (2 ^ 1074 : Nat) < m * 2 ^ (p + 1074).toNat ∧ m * 2 ^ (p + 1074).toNat < 9223372036854777856 * 2 ^ 1074) := by
    rintro _ ⟨a, b⟩
    by_cases c : p ≤ 10
    · have e1 : m * 2 ^ (p + 1074).toNat ≤ m * 2 ^ 1084 := Nat.mul_le_mul_left _ (Nat.pow_le_pow_right (by omega) (by omega))
      have e2 : m * 2 ^ 1084 < 2 ^ 53 * 2 ^ 1084 := Nat.mul_lt_mul_of_pos_right h1 (Nat.two_pow_pos _)
      have e3 : (2 : Nat) ^ 53 * 2 ^ 1084 = 9223372036854775808 * 2 ^ 1074 := by decide +kernel
      omega
    · obtain ⟨k, hk⟩ : ∃ k, (p + 1074).toNat = k + 11 + 1074 := ⟨(p - 11).toNat, by omega⟩
      rw [hk, Nat.pow_add, Nat.pow_add, ← Nat.mul_assoc, ← Nat.mul_assoc] at a b
      have a' := Nat.lt_of_mul_lt_mul_right a
      have b' := Nat.lt_of_mul_lt_mul_right b
      omega
  unfold sval
  rw [unit1_cast] at hu ⊢
  cases s
  · simp only [Bool.false_eq_true, if_false]
    obtain ⟨A, hA⟩ : ∃ A : Nat, A = m * 2 ^ (p + 1074).toNat := ⟨_, rfl⟩
    rw [← hA]
    obtain ⟨U, hU⟩ : ∃ U : Nat, U = 2 ^ 1074 := ⟨_, rfl⟩
    rw [← hU] at hu ⊢
    omega
  · have := key rfl
    simp only [if_true]
    obtain ⟨A, hA⟩ : ∃ A : Nat, A = m * 2 ^ (p + 1074).toNat := ⟨_, rfl⟩
    rw [← hA] at this ⊢
    obtain ⟨U, hU⟩ : ∃ U : Nat, U = 2 ^ 1074 := ⟨_, rfl⟩
    rw [← hU] at hu this ⊢
    omega

theorem in_self63 {x lo hi : Nat} {H : Int} (hH : 0 < H) (hl : Const lo (-9223372036854777856)) (hh : Const hi H) :
    ((Ieee.double.order x lo == some .gt) && (Ieee.double.order x hi == some .lt)) = okT (wholeOf x) (-9223372036854775808) H := by
  obtain ⟨t, n, q, l1, l2, l3⟩ := hl
  obtain ⟨t', n', q', k1, k2, k3⟩ := hh
  unfold wholeOf Format.order
  cases hx : Ieee.double.read x with
  | number s m p =>
    have h2 := (read_num hx).2.1
    rw [l1, k1, order_num _ _ _ _ _ _ h2 l2, order_num _ _ _ _ _ _ h2 k2, l3, k3, int_num _ _ _ h2, cmp_gt, cmp_lt]
    have e1 := tdiv_ge (sval s m p) unit1 (-9223372036854775808) unit1_pos (by omega)
    have e2 := tdiv_lt (sval s m p) unit1 H unit1_pos hH
    have e3 := next63 hx
    rw [show ((-9223372036854775808 : Int) - 1) = -9223372036854775809 by decide] at e1
    show _ = (decide _ && decide _)
    rw [decide_eq_decide.2 (e3.trans e1.symm), decide_eq_decide.2 e2]
  | infinity s => rw [l1, k1]; cases s <;> rfl
  | nan s t => rw [l1, k1]; rfl

theorem const_of (c : Nat) (C : Int) (t : Bool) (n : Nat) (q : Int) (h : Ieee.double.read c = .number t n q ∧ -1074 ≤ q ∧ sval t n q = C * unit1) : Const c C := ⟨t, n, q, h⟩
theorem c_m31 : Const 13970166044103278592 (-2147483648) := const_of _ _ true (2 ^ 52) (-21) (by decide +kernel)
theorem c_p31 : Const 4746794007248502784 2147483648 := const_of _ _ false (2 ^ 52) (-21) (by decide +kernel)
theorem c_zero : Const 0 0 := const_of _ _ false 0 (-1074) (by decide +kernel)
theorem c_p32 : Const 4751297606875873280 4294967296 := const_of _ _ false (2 ^ 52) (-20) (by decide +kernel)
theorem c_m63 : Const 14114281232179134464 (-9223372036854775808) := const_of _ _ true (2 ^ 52) 11 (by decide +kernel)
theorem c_p63 : Const 4890909195324358656 9223372036854775808 := const_of _ _ false (2 ^ 52) 11 (by decide +kernel)
theorem c_p64 : Const 4895412794951729152 18446744073709551616 := const_of _ _ false (2 ^ 52) 12 (by decide +kernel)
theorem c_m31b : Const 13970166044105375744 (-2147483649) := const_of _ _ true 4503599629467648 (-21) (by decide +kernel)
theorem c_m1 : Const 13830554455654793216 (-1) := const_of _ _ true (2 ^ 52) (-52) (by decide +kernel)
theorem c_m63b : Const 14114281232179134465 (-9223372036854777856) := const_of _ _ true (2 ^ 52 + 1) 11 (by decide +kernel)

/-- A whole number that a double has, as a double and back. -/
theorem whole_nearest (n : Int) (m e : Nat) (hn : n.natAbs = m * 2 ^ e) (hm : m < 2 ^ 53) (he : e ≤ 971) : wholeOf (Ieee.double.nearest (decide (n < 0)) n.natAbs 0) = some n := by
  obtain ⟨m', p', r1, r2, r3⟩ := read_nearest (decide (n < 0)) m e hm he
  rw [← hn] at r1 r3
  unfold wholeOf
  rw [r1, int_num _ _ _ r2, r3, sval_zero, Int.mul_tdiv_cancel _ (Int.ne_of_gt unit1_pos)]
  congr 1
  by_cases c : n < 0
  · simp [c]; omega
  · simp [c]; omega

end Go.Proofs.YteeojgepgjndgaaDoor
