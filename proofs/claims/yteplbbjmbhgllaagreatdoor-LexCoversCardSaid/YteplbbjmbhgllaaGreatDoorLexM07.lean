/-
  Doubles as whole multiples of the least one: their order, their whole part, and numbers that are written exactly. No program in sight.
  A number with a point: the quotient of two whole numbers, as a double. No program in sight.
-/
import Ieee.Arith
import Derived.Test.YteplbbjmbhgllaaGreatDoorLexM00
namespace Go.Proofs.YteplbbjmbhgllaaGreatDoor
open Ieee
set_option linter.unusedVariables false
set_option linter.unusedSimpArgs false
set_option exponentiation.threshold 4096

/-- A number's value, counted in the least double's units. -/
def sval (s : Bool) (m : Nat) (p : Int) : Int := if s then -((m * 2 ^ (p + 1074).toNat : Nat) : Int) else ((m * 2 ^ (p + 1074).toNat : Nat) : Int)
theorem two_cast (n : Nat) : ((2 : Int) ^ n) = ((2 ^ n : Nat) : Int) := by simp
def unit1 : Int := 2 ^ 1074
theorem unit1_pos : 0 < unit1 := by decide +kernel

theorem signed_scale (s : Bool) (m : Nat) (p b : Int) (h1 : -1074 ≤ b) (h2 : b ≤ p) : sval s m p = signed s m (p - b).toNat * (2 ^ (b + 1074).toNat : Nat) := by
  have e : (p + 1074).toNat = (p - b).toNat + (b + 1074).toNat := by omega
  unfold sval signed
  rw [Nat.shiftLeft_eq, e, Nat.pow_add, ← Nat.mul_assoc]
  split
  · push_cast; rw [Int.neg_mul]
  · push_cast; rfl

theorem compare_scale (a b : Int) (k : Nat) (h : 0 < k) : compare (a * (k : Int)) (b * (k : Int)) = compare a b := by
  have hk : (0 : Int) < (k : Int) := by omega
  have e1 : (a * (k : Int) < b * (k : Int)) = (a < b) := propext ⟨fun h => Int.lt_of_mul_lt_mul_right h (Int.le_of_lt hk), fun h => Int.mul_lt_mul_of_pos_right h hk⟩
  have e2 : (a * (k : Int) = b * (k : Int)) = (a = b) := propext ⟨fun h => Int.eq_of_mul_eq_mul_right (by omega) h, fun h => by rw [h]⟩
  show compareOfLessAndEq _ _ = compareOfLessAndEq _ _
  simp only [compareOfLessAndEq, e1, e2]

theorem order_num (s t : Bool) (m n : Nat) (p q : Int) (hp : -1074 ≤ p) (hq : -1074 ≤ q) :
    (Datum.number s m p).order (Datum.number t n q) = some (compare (sval s m p) (sval t n q)) := by
  show some (compare (signed s m (p - min p q).toNat) (signed t n (q - min p q).toNat)) = _
  rw [signed_scale s m p (min p q) (by omega) (by omega), signed_scale t n q (min p q) (by omega) (by omega), compare_scale _ _ _ (Nat.two_pow_pos _)]

/-- What a word that is a number reads as. -/
theorem read_num {x : Nat} {s : Bool} {m : Nat} {p : Int} (h : Ieee.double.read x = .number s m p) : m < 2 ^ 53 ∧ -1074 ≤ p ∧ p ≤ 971 := by
  unfold Format.read at h
  have eb : Ieee.double.binade = 2 ^ 52 := by decide +kernel
  have el : Ieee.double.leastPlace = -1074 := by decide +kernel
  have ei : Ieee.double.infRung = 2047 * 2 ^ 52 := by decide +kernel
  have es : Ieee.double.signWeight = 2 ^ 63 := by decide +kernel
  rw [eb, el, ei, es] at h
  dsimp only at h
  split at h
  · injection h with h1 h2 h3; subst h2; subst h3; omega
  · split at h
    · injection h with h1 h2 h3; subst h2; subst h3
      have := Nat.mod_lt (x % 2 ^ 63) (show 0 < 2 ^ 52 by decide)
      have h4 : x % 2 ^ 63 / 2 ^ 52 < 2047 := by omega
      omega
    · split at h <;> cases h

theorem cut_zero (s : Bool) (n d : Nat) : Toward.cut .zero s n d = n / 2 ^ d := by
  unfold Toward.cut
  dsimp only
  rw [Nat.shiftLeft_eq, Nat.one_mul]
  show n / 2 ^ min d (n.log2 + 2) + 0 = n / 2 ^ d
  by_cases h : d ≤ n.log2 + 2
  · rw [Nat.min_eq_left h]; omega
  · rw [Nat.min_eq_right (by omega)]
    have h1 : n < 2 ^ (n.log2 + 1) := Nat.lt_log2_self
    have h2 : n < 2 ^ (n.log2 + 2) := Nat.lt_of_lt_of_le h1 (Nat.pow_le_pow_right (by omega) (by omega))
    have h3 : n < 2 ^ d := Nat.lt_of_lt_of_le h2 (Nat.pow_le_pow_right (by omega) (by omega))
    rw [Nat.div_eq_of_lt h2, Nat.div_eq_of_lt h3]

theorem cut_even_exact (s : Bool) (n d k : Nat) (hn : n = k * 2 ^ d) (hd : d ≤ n.log2 + 2) : Toward.cut .even s n d = k := by
  unfold Toward.cut
  dsimp only
  rw [Nat.shiftLeft_eq, Nat.one_mul, Nat.min_eq_left hd]
  have hp : 0 < 2 ^ d := Nat.two_pow_pos _
  have e1 : n / 2 ^ d = k := by rw [hn]; exact Nat.mul_div_cancel _ hp
  have e2 : n % 2 ^ d = 0 := by rw [hn]; exact Nat.mul_mod_left _ _
  rw [e1, e2]
  have e3 : (decide (2 ^ d < 2 * 0) || (2 ^ d == 2 * 0) && (k % 2 == 1)) = false := by
    rw [Bool.or_eq_false_iff]
    refine ⟨by simp, ?_⟩
    rw [Bool.and_eq_false_iff]
    left
    exact beq_eq_false_iff_ne.2 (by omega)
  rw [e3]
  rfl

/-- The whole part of a number: as the quotient. -/
theorem int_num (s : Bool) (m : Nat) (p : Int) (hp : -1074 ≤ p) : (Datum.number s m p).toInt .zero = some ((sval s m p).tdiv unit1) := by
  unfold Datum.toInt Datum.integral
  dsimp only
  rw [cut_zero]
  unfold signed sval unit1
  rw [Nat.shiftLeft_eq, Nat.shiftLeft_eq, Nat.pow_zero, Nat.mul_one]
  have key : m * 2 ^ p.toNat / 2 ^ (-p).toNat = m * 2 ^ (p + 1074).toNat / 2 ^ 1074 := by
    by_cases h : 0 ≤ p
    · have e1 : (-p).toNat = 0 := by omega
      have e2 : (p + 1074).toNat = p.toNat + 1074 := by omega
      rw [e1, e2, Nat.pow_add, ← Nat.mul_assoc, Nat.mul_div_cancel _ (Nat.two_pow_pos _)]
      simp
    · have e1 : p.toNat = 0 := by omega
      have e2 : 1074 = (p + 1074).toNat + (-p).toNat := by omega
      have e3 : (2 : Nat) ^ 1074 = 2 ^ (p + 1074).toNat * 2 ^ (-p).toNat := by rw [← Nat.pow_add, ← e2]
      rw [e1, e3, Nat.pow_zero, Nat.mul_one, ← Nat.div_div_eq_div_mul, Nat.mul_div_cancel _ (Nat.two_pow_pos _)]
  rw [key]
  have e : ((2 : Int) ^ 1074) = ((2 ^ 1074 : Nat) : Int) := two_cast 1074
  rw [e]
  cases s
  · simp only [Bool.false_eq_true, if_false]; rw [← Int.ofNat_tdiv]
  · simp only [if_true]; rw [Int.neg_tdiv, ← Int.ofNat_tdiv]


theorem d_binade : Ieee.double.binade = 2 ^ 52 := by decide +kernel
theorem d_least : Ieee.double.leastPlace = -1074 := by decide +kernel
theorem d_inf : Ieee.double.infRung = 2047 * 2 ^ 52 := by decide +kernel
theorem d_sign : Ieee.double.signWeight = 2 ^ 63 := by decide +kernel
theorem d_fract : Ieee.double.fractionBits = 52 := rfl

/-- A word of a sign and a rung of a number, read. -/
theorem read_word (s : Bool) (r : Nat) (h : r < 2047 * 2 ^ 52) (h2 : 2 ^ 52 ≤ r) : Ieee.double.read (Ieee.double.word s r) = .number s (2 ^ 52 + r % 2 ^ 52) (-1074 + ((r / 2 ^ 52 - 1 : Nat) : Int)) := by
  have e1 : Ieee.double.word s r / 2 ^ 63 % 2 = cond s 1 0 := by
    unfold Format.word; rw [d_sign]
    cases s
    · simp only [Bool.false_eq_true, if_false, cond_false]; omega
    · simp only [if_true, cond_true]; omega
  have e2 : Ieee.double.word s r % 2 ^ 63 = r := by
    unfold Format.word; rw [d_sign]
    cases s
    · simp only [Bool.false_eq_true, if_false]; omega
    · simp only [if_true]; omega
  unfold Format.read
  rw [d_sign, d_binade, d_least, d_inf]
  dsimp only
  rw [e1, e2, if_neg (by omega), if_pos h]
  cases s <;> rfl
theorem read_word0 (s : Bool) : Ieee.double.read (Ieee.double.word s 0) = .number s 0 (-1074) := by
  cases s <;> decide +kernel

theorem ar1 (B R k : Nat) (h1 : B ≤ k) (h2 : k < 2 * B) : B + (R * B + k) % B = k ∧ (R * B + k) / B - 1 = R := by
  have hB : 0 < B := by omega
  have e1 : (R * B + k) % B = k - B := by
    rw [Nat.add_comm, Nat.add_mul_mod_self_right, Nat.mod_eq_sub_mod h1, Nat.mod_eq_of_lt (by omega)]
  have e2 : (R * B + k) / B = R + 1 := by
    rw [Nat.add_comm, Nat.add_mul_div_right _ _ hB, Nat.div_eq_sub_div hB h1, Nat.div_eq_of_lt (by omega)]; omega
  rw [e1, e2]; omega
theorem ar2 (B R k : Nat) (h1 : B ≤ k) (h2 : k < 2 * B) (hR : R ≤ 2045) : R * B + k < 2047 * B ∧ B ≤ R * B + k := by
  have h3 : R * B ≤ 2045 * B := Nat.mul_le_mul_right _ hR
  omega
theorem two53 : (2 : Nat) ^ 53 = 2 * 2 ^ 52 := by decide
/-- A whole number that a double has, written and read: the same number. -/
theorem read_nearest (s : Bool) (m e : Nat) (hm : m < 2 ^ 53) (he : e ≤ 971) : ∃ m' p', Ieee.double.read (Ieee.double.nearest s (m * 2 ^ e) 0) = .number s m' p' ∧ -1074 ≤ p' ∧ sval s m' p' = sval s (m * 2 ^ e) 0 := by
  by_cases h0 : m * 2 ^ e = 0
  · rw [h0]
    refine ⟨0, -1074, ?_, by omega, ?_⟩
    · have : Ieee.double.nearest s 0 0 = Ieee.double.word s 0 := rfl
      rw [this, read_word0]
    · unfold sval; simp
  · obtain ⟨M, hM⟩ : ∃ M, M = m * 2 ^ e := ⟨_, rfl⟩
    rw [← hM] at h0 ⊢
    have hlo : 2 ^ M.log2 ≤ M := Nat.log2_self_le h0
    have hhi : M < 2 ^ (M.log2 + 1) := Nat.lt_log2_self
    obtain ⟨L, hL⟩ : ∃ L, L = M.log2 := ⟨_, rfl⟩
    have hLe : L < 53 + e := by
      have h1 : M < 2 ^ (53 + e) := by rw [hM, Nat.pow_add]; exact Nat.mul_lt_mul_of_pos_right hm (Nat.two_pow_pos _)
      have h2 : 2 ^ L < 2 ^ (53 + e) := by rw [hL]; omega
      exact (Nat.pow_lt_pow_iff_right (by omega)).1 h2
    have hN : Ieee.double.nearest s M 0 = Ieee.double.word s (min ((((L : Int) - 52) + 1074).toNat * 2 ^ 52 + Toward.even.cut s (M <<< (52 - L)) (L - 52)) (2047 * 2 ^ 52)) := by
      unfold Format.nearest
      rw [if_neg h0, d_fract, d_least, d_binade, d_inf, ← hL]
      dsimp only
      have e1 : max (0 + (L : Int) - (52 : Nat)) (-1074) = (L : Int) - 52 := by omega
      rw [e1]
      have e2 : (0 - ((L : Int) - 52)).toNat = 52 - L := by omega
      have e3 : ((L : Int) - 52 - 0).toNat = L - 52 := by omega
      have e4 : ((L : Int) - 52 - -1074).toNat = ((L : Int) - 52 + 1074).toNat := by omega
      rw [e2, e3, e4]
    obtain ⟨k, hk⟩ : ∃ k, k = Toward.even.cut s (M <<< (52 - L)) (L - 52) := ⟨_, rfl⟩
    have hk2 : k * 2 ^ (L - 52) = M * 2 ^ (52 - L) := by
      by_cases c : L ≤ 52
      · have e5 : L - 52 = 0 := by omega
        have : k = M * 2 ^ (52 - L) := by
          rw [hk, Nat.shiftLeft_eq, e5]
          exact cut_even_exact s _ 0 _ (by rw [Nat.pow_zero, Nat.mul_one]) (by omega)
        rw [this, e5, Nat.pow_zero, Nat.mul_one]
      · have e6 : 52 - L = 0 := by omega
        have e7 : e = (e - (L - 52)) + (L - 52) := by omega
        have e8 : M = m * 2 ^ (e - (L - 52)) * 2 ^ (L - 52) := by rw [Nat.mul_assoc, ← Nat.pow_add, ← e7, hM]
        have : k = m * 2 ^ (e - (L - 52)) := by
          rw [hk, Nat.shiftLeft_eq, e6, Nat.pow_zero, Nat.mul_one]
          exact cut_even_exact s _ _ _ e8 (by omega)
        rw [this, e6, Nat.pow_zero, Nat.mul_one, ← e8]
    have hk3 : 2 ^ 52 ≤ k ∧ k < 2 ^ 53 := by
      rw [← hL] at hlo hhi
      by_cases c : L ≤ 52
      · have e5 : L - 52 = 0 := by omega
        rw [e5, Nat.pow_zero, Nat.mul_one] at hk2
        have e9 : (2 : Nat) ^ 52 = 2 ^ L * 2 ^ (52 - L) := by rw [← Nat.pow_add]; congr 1; omega
        have e10 : (2 : Nat) ^ 53 = 2 ^ (L + 1) * 2 ^ (52 - L) := by rw [← Nat.pow_add]; congr 1; omega
        rw [hk2, e9, e10]
        exact ⟨Nat.mul_le_mul_right _ hlo, Nat.mul_lt_mul_of_pos_right hhi (Nat.two_pow_pos _)⟩
      · have e6 : 52 - L = 0 := by omega
        rw [e6, Nat.pow_zero, Nat.mul_one] at hk2
        have e9 : (2 : Nat) ^ L = 2 ^ 52 * 2 ^ (L - 52) := by rw [← Nat.pow_add]; congr 1; omega
        have e10 : (2 : Nat) ^ (L + 1) = 2 ^ 53 * 2 ^ (L - 52) := by rw [← Nat.pow_add]; congr 1; omega
        rw [← hk2, e9] at hlo
        rw [← hk2, e10] at hhi
        exact ⟨Nat.le_of_mul_le_mul_right hlo (Nat.two_pow_pos _), Nat.lt_of_mul_lt_mul_right hhi⟩
    rw [hN, ← hk]
    have hr : ((L : Int) - 52 + 1074).toNat = L + 1022 := by omega
    rw [hr]
    have hB := ar2 (2 ^ 52) (L + 1022) k hk3.1 (two53 ▸ hk3.2) (by omega)
    have hA := ar1 (2 ^ 52) (L + 1022) k hk3.1 (two53 ▸ hk3.2)
    rw [Nat.min_eq_left (Nat.le_of_lt hB.1), read_word s ((L + 1022) * 2 ^ 52 + k) hB.1 hB.2, hA.1, hA.2]
    refine ⟨k, _, rfl, by omega, ?_⟩
    unfold sval
    have e13 : (-1074 + ((L + 1022 : Nat) : Int) + 1074).toNat = L + 1022 := by omega
    have e14 : ((0 : Int) + 1074).toNat = 1074 := by omega
    rw [e13, e14]
    have e15 : k * 2 ^ (L + 1022) = M * 2 ^ 1074 := by
      by_cases c : L ≤ 52
      · have e5 : L - 52 = 0 := by omega
        rw [e5, Nat.pow_zero, Nat.mul_one] at hk2
        have e17 : 52 - L + (L + 1022) = 1074 := by omega
        rw [hk2, Nat.mul_assoc, ← Nat.pow_add, e17]
      · have e6 : 52 - L = 0 := by omega
        rw [e6, Nat.pow_zero, Nat.mul_one] at hk2
        have e16 : L + 1022 = (L - 52) + 1074 := by omega
        rw [e16, Nat.pow_add, ← Nat.mul_assoc, hk2]
    rw [e15]

end Go.Proofs.YteplbbjmbhgllaaGreatDoor

namespace Go.Proofs.YteplbbjmbhgllaaGreatDoor.Lx
open Ieee
set_option linter.unusedVariables false
set_option linter.unusedSimpArgs false
set_option exponentiation.threshold 4096

/-- A whole number as a double. -/
def dblN (n : Nat) : Nat := Ieee.double.write (.number false n 0)
def quoN (n p : Nat) : Nat := (Ieee.double.div (dblN n) (dblN (10 ^ p))).getD 0
/-- What Float answers. -/
def flF (l : Bs) (p : Nat) : Option Nat := if l.length < 1 ∨ 15 < l.length ∨ 15 < p then none else (numB 10 0 l).map fun n => quoN n p
theorem read_word_le (s : Bool) (r : Nat) (h : r ≤ 2047 * 2 ^ 52) : (∃ m p, Ieee.double.read (Ieee.double.word s r) = .number s m p) ∨ ∃ t, Ieee.double.read (Ieee.double.word s r) = .infinity t := by
  have e1 : Ieee.double.word s r / Ieee.double.signWeight % 2 = (if s then 1 else 0) := by
    unfold Format.word
    rw [d_sign]
    cases s
    · simp only [Bool.false_eq_true, if_false]; omega
    · simp only [if_true]; omega
  have e2 : Ieee.double.word s r % Ieee.double.signWeight = r := by
    unfold Format.word
    rw [d_sign]
    cases s
    · simp only [Bool.false_eq_true, if_false]; omega
    · simp only [if_true]; omega
  have e3 : (Ieee.double.word s r / Ieee.double.signWeight % 2 == 1) = s := by rw [e1]; cases s <;> rfl
  unfold Format.read
  simp only [e2, e3]
  by_cases h1 : r < Ieee.double.binade
  · rw [if_pos h1]; exact .inl ⟨_, _, rfl⟩
  · rw [if_neg h1]
    by_cases h2 : r < Ieee.double.infRung
    · rw [if_pos h2]; exact .inl ⟨_, _, rfl⟩
    · rw [if_neg h2, if_pos (by rw [d_inf] at h2 ⊢; omega)]
      exact .inr ⟨_, rfl⟩
theorem order_self_num (s : Bool) (m : Nat) (p : Int) : (Datum.number s m p).order (.number s m p) = some .eq := by
  unfold Datum.order
  dsimp only
  rw [show ∀ x : Int, compare x x = .eq from fun x => by show compareOfLessAndEq x x = .eq; unfold compareOfLessAndEq; simp]
theorem order_self_inf (s : Bool) : (Datum.infinity s).order (.infinity s) = some .eq := by cases s <;> rfl
theorem order_nearest (s : Bool) (m : Nat) (p : Int) : Ieee.double.order (Ieee.double.nearest s m p) (Ieee.double.nearest s m p) = some .eq := by
  have h : ∃ r, r ≤ 2047 * 2 ^ 52 ∧ Ieee.double.nearest s m p = Ieee.double.word s r := by
    unfold Format.nearest
    split
    · exact ⟨0, by omega, rfl⟩
    · exact ⟨_, by rw [← d_inf]; exact Nat.min_le_right _ _, rfl⟩
  obtain ⟨r, hr, e⟩ := h
  rw [e]
  unfold Format.order
  rcases read_word_le s r hr with ⟨m, p, h⟩ | ⟨t, h⟩
  · rw [h]; exact order_self_num _ _ _
  · rw [h]; exact order_self_inf _
theorem order_dblN (n : Nat) : Ieee.double.order (dblN n) (dblN n) = some .eq := order_nearest _ _ _
theorem dblN_lt (n : Nat) : dblN n < 2 ^ 63 := by
  have h : ∃ r, r ≤ 2047 * 2 ^ 52 ∧ dblN n = Ieee.double.word false r := by
    have e0 : dblN n = Ieee.double.nearest false n 0 := rfl
    rw [e0]
    unfold Format.nearest
    split
    · exact ⟨0, by omega, rfl⟩
    · exact ⟨_, by rw [← d_inf]; exact Nat.min_le_right _ _, rfl⟩
  obtain ⟨r, hr, e⟩ := h
  rw [e]
  unfold Format.word
  simp only [Bool.false_eq_true, if_false]
  omega
/-- A power of ten is a double, and not nought. -/
theorem ten_read : ∀ p, p ≤ 15 → ∃ m q, Ieee.double.read (dblN (10 ^ p)) = .number false (m + 1) q := by
  intro p hp
  have h : ∀ p ∈ List.range 16, (match Ieee.double.read (dblN (10 ^ p)) with | .number false (_ + 1) _ => true | _ => false) = true := by decide +kernel
  have := h p (List.mem_range.2 (by omega))
  split at this
  · rename_i m q hh; exact ⟨m, q, hh⟩
  · cases this
theorem small_read {n : Nat} (hn : n < 2 ^ 53) : ∃ m q, Ieee.double.read (dblN n) = .number false m q := by
  obtain ⟨m, q, h, _⟩ := read_nearest false n 0 hn (by omega)
  rw [Nat.pow_zero, Nat.mul_one] at h
  exact ⟨m, q, h⟩
/-- The quotient is there, and is a number. -/
theorem quo_some {n p : Nat} (hn : n < 2 ^ 53) (hp : p ≤ 15) : Ieee.double.div (dblN n) (dblN (10 ^ p)) = some (quoN n p) ∧ Ieee.double.order (quoN n p) (quoN n p) = some .eq := by
  obtain ⟨m, q, h1⟩ := small_read hn
  obtain ⟨k, j, h2⟩ := ten_read p hp
  have hq : ∃ s M P, Ieee.double.div (dblN n) (dblN (10 ^ p)) = some (Ieee.double.nearest s M P) := by
    unfold Format.div
    rw [h1, h2]
    unfold Datum.quotient
    dsimp only
    rw [if_neg (by omega)]
    exact ⟨_, _, _, rfl⟩
  obtain ⟨s, M, P, h3⟩ := hq
  have e : quoN n p = Ieee.double.nearest s M P := by unfold quoN; rw [h3]; rfl
  rw [e]
  exact ⟨h3, order_nearest _ _ _⟩
/-- A power of ten out of the tables. -/
theorem ten_mul : ∀ p, p ≤ 15 → Ieee.double.mul (dblN 1) (dblN (10 ^ p)) = some (dblN (10 ^ p)) := by
  intro p hp
  have h : ∀ p ∈ List.range 16, Ieee.double.mul (dblN 1) (dblN (10 ^ p)) = some (dblN (10 ^ p)) := by decide +kernel
  exact h p (List.mem_range.2 (by omega))
/-- Fifteen digits stay below 10^15. -/
theorem numB_bound : ∀ (l : Bs) (a n : Nat), numB 10 a l = some n → n < (a + 1) * 10 ^ l.length
  | [], a, n, h => by unfold numB at h; injection h with h; simp; omega
  | b :: l, a, n, h => by
    unfold numB at h
    cases hd : hexV b.toNat with
    | none => rw [hd] at h; cases h
    | some d =>
      rw [hd] at h
      dsimp only at h
      split at h
      · rename_i hc
        have := numB_bound l _ n h
        rw [List.length_cons, Nat.pow_succ, Nat.mul_comm (10 ^ l.length) 10, ← Nat.mul_assoc]
        exact Nat.lt_of_lt_of_le this (Nat.mul_le_mul_right _ (by omega))
      · cases h
theorem numB_53 {l : Bs} {n : Nat} (h : numB 10 0 l = some n) (hl : l.length ≤ 15) : n < 10 ^ 15 ∧ n < 2 ^ 53 := by
  have h1 := numB_bound l 0 n h
  have h2 : 10 ^ l.length ≤ 10 ^ 15 := Nat.pow_le_pow_right (by omega) hl
  have h3 : (10 : Nat) ^ 15 < 2 ^ 53 := by decide
  simp only [Nat.zero_add, Nat.one_mul] at h1
  omega
end Go.Proofs.YteplbbjmbhgllaaGreatDoor.Lx
