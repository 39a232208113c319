/-
  The plain functions that layer 1 (mach) computes, over whole numbers, and small lemmas on them. No program in sight.
-/
import Derived.Handy
import Derived.WalkSpells
import Derived.WalkLawsBesides
import Derived.Lib.Hide
import Derived.Deep.Light
namespace Go.Proofs.YteepjngkbjbheaaDoor
set_option linter.unusedVariables false
set_option linter.unusedSimpArgs false
open Go.RowKit

def I64 (n : Int) : Prop := -9223372036854775808 ≤ n ∧ n ≤ 9223372036854775807
def U64 (n : Int) : Prop := 0 ≤ n ∧ n ≤ 18446744073709551615
def I32 (n : Int) : Prop := -2147483648 ≤ n ∧ n ≤ 2147483647
def U32 (n : Int) : Prop := 0 ≤ n ∧ n ≤ 4294967295

/-- A value: its kind, its bits, its block. -/
structure V where
  k : Int
  b : Int
  l : Int

structure V.ok (v : V) : Prop where
  k1 : -9223372036854775808 ≤ v.k
  k2 : v.k ≤ 9223372036854775807
  b1 : 0 ≤ v.b
  b2 : v.b ≤ 18446744073709551615
  l1 : -9223372036854775808 ≤ v.l
  l2 : v.l ≤ 9223372036854775807

/-- Behind a contract that ends in Below: all old cells and marks read as before; the heap has not shrunk. -/
theorem bcell {W w1 : World} (hb : Below W.heap.size W w1) : (∀ b o, b < W.heap.size → w1.cell? ⟨b, o, none⟩ = W.cell? ⟨b, o, none⟩) ∧ (∀ b o, b < W.heap.size → w1.frozen? ⟨b, o, none⟩ = W.frozen? ⟨b, o, none⟩) ∧ W.heap.size ≤ w1.heap.size :=
  ⟨fun b o h => hb.cell (p := ⟨b, o, none⟩) h, fun b o h => hb.frozen (p := ⟨b, o, none⟩) h, hb.size⟩
theorem below_next {w a b : World} (h1 : Below w.heap.size w a) (h2 : Below a.heap.size a b) : Below w.heap.size w b := h1.trans (h2.mono h1.size)

def undefV : V := ⟨0, 0, 0⟩
def intV (n : Int) : V := ⟨1, n % 4294967296, 0⟩
def longV (n : Int) : V := ⟨2, n % 18446744073709551616, 0⟩
def dblV (n : Int) : V := ⟨3, n, 0⟩
def ptrV (b o : Int) : V := if b = 0 then undefV else ⟨4, o % 18446744073709551616, b⟩
def flagV (b : Bool) : V := if b then intV 1 else intV 0
theorem flagV_eq (b : Bool) : flagV b = ⟨1, cond b 1 0, 0⟩ := by cases b <;> rfl

def split (op : Int) : Int × Int := if 30 < op ∧ op ≤ 55 then (op - 30, 2) else (op, 1)

def shape (op : Int) : Int × Int × Int :=
  if (split op).1 ≤ 0 then (0, 0, 0)
  else if (split op).1 ≤ 2 then ((split op).2, 0, (split op).2)
  else if (split op).1 < 13 then ((split op).2, (split op).2, (split op).2)
  else if (split op).1 ≤ 15 then ((split op).2, 1, (split op).2)
  else if (split op).1 ≤ 25 then ((split op).2, (split op).2, 1)
  else if op = 61 then (3, 0, 3)
  else if 62 ≤ op ∧ op ≤ 65 then (3, 3, 3)
  else if 66 ≤ op ∧ op ≤ 71 then (3, 3, 1)
  else if 80 ≤ op ∧ op ≤ 83 then (1, 0, 1)
  else if 84 ≤ op ∧ op ≤ 85 then (1, 0, 2)
  else if op = 86 then (2, 0, 1)
  else if 87 ≤ op ∧ op ≤ 88 then (1, 0, 3)
  else if 89 ≤ op ∧ op ≤ 90 then (2, 0, 3)
  else if 91 ≤ op ∧ op ≤ 92 then (3, 0, 1)
  else if 93 ≤ op ∧ op ≤ 94 then (3, 0, 2)
  else if 95 ≤ op ∧ op ≤ 96 then (1, 0, 1)
  else (0, 0, 0)

theorem split_b (op : Int) (h : I64 op) : I64 (split op).1 := by
  unfold I64 split at *; split <;> dsimp only <;> omega

/-- A quotient or what is left, by sign; the least number by -1 has none. -/
def sdiv (least x y : Int) (rest : Bool) : Int × Bool :=
  if y = 0 ∨ (y = -1 ∧ x = least) then (0, false) else if rest then (x.tmod y, true) else (x.tdiv y, true)
def udiv (x y : Int) (rest : Bool) : Int × Bool :=
  if y = 0 then (0, false) else if rest then (x % y, true) else (x / y, true)

/-- A comparison's answer, by which is less. -/
def cmpd (op : Int) (less same : Bool) : Bool :=
  if op = 16 then same else if op = 17 then !same else if op = 18 ∨ op = 22 then less
  else if op = 19 ∨ op = 23 then less || same else if op = 20 ∨ op = 24 then !less && !same else !less

def band (x y : Int) : Int := ((x.toNat &&& y.toNat : Nat) : Int)
def bor (x y : Int) : Int := ((x.toNat ||| y.toNat : Nat) : Int)
def bxor (x y : Int) : Int := ((x.toNat ^^^ y.toNat : Nat) : Int)

/-- An operation of two whole numbers, sx and sy by sign, ux and uy without: the number itself, not yet brought into its range. -/
def wholeU (least op sx sy ux uy : Int) : Int × Bool :=
  if op = 3 then (ux + uy, true) else if op = 4 then (ux - uy, true) else if op = 5 then (ux * uy, true)
  else if op = 10 then (band ux uy, true) else if op = 11 then (bor ux uy, true) else if op = 12 then (bxor ux uy, true)
  else if op = 6 then sdiv least sx sy false else if op = 8 then sdiv least sx sy true
  else if op = 9 then udiv ux uy true else udiv ux uy false

def shiftU (op sx ux n : Int) : Int := if op = 13 then ux * 2 ^ n.toNat else if op = 14 then sx / 2 ^ n.toNat else ux / 2 ^ n.toNat

theorem tdiv_bound (x y a b : Int) (h1 : -a ≤ x) (h2 : x ≤ b) (hab : b ≤ a) : -a ≤ x.tdiv y ∧ x.tdiv y ≤ a := by
  have h := Int.natAbs_tdiv x y
  have h3 : x.natAbs.div y.natAbs ≤ x.natAbs := Nat.div_le_self _ _
  rw [← h] at h3
  omega
theorem tmod_bound (x y a b : Int) (h1 : -a ≤ x) (h2 : x ≤ b) (hab : b ≤ a) : -a ≤ x.tmod y ∧ x.tmod y ≤ a := by
  have h := Int.natAbs_tmod x y
  have h3 : x.natAbs % y.natAbs ≤ x.natAbs := Nat.mod_le _ _
  rw [← h] at h3
  omega

theorem bits_and_u32 (x y : Int) (hx : U32 x) (hy : U32 y) : bits .and .u32 x y = band x y := by
  obtain ⟨a, rfl⟩ := Int.eq_ofNat_of_zero_le hx.1
  obtain ⟨b, rfl⟩ := Int.eq_ofNat_of_zero_le hy.1
  have h1 := hx.2; have h2 := hy.2
  show IntKind.u32.wrap ((BitVec.ofInt 32 (a : Int) &&& BitVec.ofInt 32 (b : Int)).toNat : Int) = _
  have ea : (BitVec.ofInt 32 (a : Int)).toNat = a := by rw [BitVec.ofInt_natCast, BitVec.toNat_ofNat]; exact Nat.mod_eq_of_lt (by omega)
  have eb : (BitVec.ofInt 32 (b : Int)).toNat = b := by rw [BitVec.ofInt_natCast, BitVec.toNat_ofNat]; exact Nat.mod_eq_of_lt (by omega)
  have hz : a &&& b < 2 ^ 32 := Nat.and_lt_two_pow _ (by omega)
  rw [BitVec.toNat_and, ea, eb, IntKind.wrap_u32]
  simp only [band, Int.toNat_natCast]
  omega
theorem bits_or_u32 (x y : Int) (hx : U32 x) (hy : U32 y) : bits .or .u32 x y = bor x y := by
  obtain ⟨a, rfl⟩ := Int.eq_ofNat_of_zero_le hx.1
  obtain ⟨b, rfl⟩ := Int.eq_ofNat_of_zero_le hy.1
  have h1 := hx.2; have h2 := hy.2
  show IntKind.u32.wrap ((BitVec.ofInt 32 (a : Int) ||| BitVec.ofInt 32 (b : Int)).toNat : Int) = _
  have ea : (BitVec.ofInt 32 (a : Int)).toNat = a := by rw [BitVec.ofInt_natCast, BitVec.toNat_ofNat]; exact Nat.mod_eq_of_lt (by omega)
  have eb : (BitVec.ofInt 32 (b : Int)).toNat = b := by rw [BitVec.ofInt_natCast, BitVec.toNat_ofNat]; exact Nat.mod_eq_of_lt (by omega)
  have hz : a ||| b < 2 ^ 32 := Nat.or_lt_two_pow (by omega) (by omega)
  rw [BitVec.toNat_or, ea, eb, IntKind.wrap_u32]
  simp only [bor, Int.toNat_natCast]
  omega
theorem bits_xor_u32 (x y : Int) (hx : U32 x) (hy : U32 y) : bits .xor .u32 x y = bxor x y := by
  obtain ⟨a, rfl⟩ := Int.eq_ofNat_of_zero_le hx.1
  obtain ⟨b, rfl⟩ := Int.eq_ofNat_of_zero_le hy.1
  have h1 := hx.2; have h2 := hy.2
  show IntKind.u32.wrap ((BitVec.ofInt 32 (a : Int) ^^^ BitVec.ofInt 32 (b : Int)).toNat : Int) = _
  have ea : (BitVec.ofInt 32 (a : Int)).toNat = a := by rw [BitVec.ofInt_natCast, BitVec.toNat_ofNat]; exact Nat.mod_eq_of_lt (by omega)
  have eb : (BitVec.ofInt 32 (b : Int)).toNat = b := by rw [BitVec.ofInt_natCast, BitVec.toNat_ofNat]; exact Nat.mod_eq_of_lt (by omega)
  have hz : a ^^^ b < 2 ^ 32 := Nat.xor_lt_two_pow (by omega) (by omega)
  rw [BitVec.toNat_xor, ea, eb, IntKind.wrap_u32]
  simp only [bxor, Int.toNat_natCast]
  omega
theorem bits_and_u64 (x y : Int) (hx : U64 x) (hy : U64 y) : bits .and .u64 x y = band x y := by
  obtain ⟨a, rfl⟩ := Int.eq_ofNat_of_zero_le hx.1
  obtain ⟨b, rfl⟩ := Int.eq_ofNat_of_zero_le hy.1
  have h1 := hx.2; have h2 := hy.2
  show IntKind.u64.wrap ((BitVec.ofInt 64 (a : Int) &&& BitVec.ofInt 64 (b : Int)).toNat : Int) = _
  have ea : (BitVec.ofInt 64 (a : Int)).toNat = a := by rw [BitVec.ofInt_natCast, BitVec.toNat_ofNat]; exact Nat.mod_eq_of_lt (by omega)
  have eb : (BitVec.ofInt 64 (b : Int)).toNat = b := by rw [BitVec.ofInt_natCast, BitVec.toNat_ofNat]; exact Nat.mod_eq_of_lt (by omega)
  have hz : a &&& b < 2 ^ 64 := Nat.and_lt_two_pow _ (by omega)
  rw [BitVec.toNat_and, ea, eb, IntKind.wrap_u64]
  simp only [band, Int.toNat_natCast]
  omega
theorem bits_or_u64 (x y : Int) (hx : U64 x) (hy : U64 y) : bits .or .u64 x y = bor x y := by
  obtain ⟨a, rfl⟩ := Int.eq_ofNat_of_zero_le hx.1
  obtain ⟨b, rfl⟩ := Int.eq_ofNat_of_zero_le hy.1
  have h1 := hx.2; have h2 := hy.2
  show IntKind.u64.wrap ((BitVec.ofInt 64 (a : Int) ||| BitVec.ofInt 64 (b : Int)).toNat : Int) = _
  have ea : (BitVec.ofInt 64 (a : Int)).toNat = a := by rw [BitVec.ofInt_natCast, BitVec.toNat_ofNat]; exact Nat.mod_eq_of_lt (by omega)
  have eb : (BitVec.ofInt 64 (b : Int)).toNat = b := by rw [BitVec.ofInt_natCast, BitVec.toNat_ofNat]; exact Nat.mod_eq_of_lt (by omega)
  have hz : a ||| b < 2 ^ 64 := Nat.or_lt_two_pow (by omega) (by omega)
  rw [BitVec.toNat_or, ea, eb, IntKind.wrap_u64]
  simp only [bor, Int.toNat_natCast]
  omega
theorem bits_xor_u64 (x y : Int) (hx : U64 x) (hy : U64 y) : bits .xor .u64 x y = bxor x y := by
  obtain ⟨a, rfl⟩ := Int.eq_ofNat_of_zero_le hx.1
  obtain ⟨b, rfl⟩ := Int.eq_ofNat_of_zero_le hy.1
  have h1 := hx.2; have h2 := hy.2
  show IntKind.u64.wrap ((BitVec.ofInt 64 (a : Int) ^^^ BitVec.ofInt 64 (b : Int)).toNat : Int) = _
  have ea : (BitVec.ofInt 64 (a : Int)).toNat = a := by rw [BitVec.ofInt_natCast, BitVec.toNat_ofNat]; exact Nat.mod_eq_of_lt (by omega)
  have eb : (BitVec.ofInt 64 (b : Int)).toNat = b := by rw [BitVec.ofInt_natCast, BitVec.toNat_ofNat]; exact Nat.mod_eq_of_lt (by omega)
  have hz : a ^^^ b < 2 ^ 64 := Nat.xor_lt_two_pow (by omega) (by omega)
  rw [BitVec.toNat_xor, ea, eb, IntKind.wrap_u64]
  simp only [bxor, Int.toNat_natCast]
  omega
theorem band_lt32 (x y : Int) (hx : x < 4294967296) (hy : y < 4294967296) : 0 ≤ band x y ∧ band x y < 4294967296 := by
  have h : x.toNat &&& y.toNat < 2 ^ 32 := Nat.and_lt_two_pow _ (by omega)
  unfold band; omega
theorem bor_lt32 (x y : Int) (hx : x < 4294967296) (hy : y < 4294967296) : 0 ≤ bor x y ∧ bor x y < 4294967296 := by
  have h : x.toNat ||| y.toNat < 2 ^ 32 := Nat.or_lt_two_pow (by omega) (by omega)
  unfold bor; omega
theorem bxor_lt32 (x y : Int) (hx : x < 4294967296) (hy : y < 4294967296) : 0 ≤ bxor x y ∧ bxor x y < 4294967296 := by
  have h : x.toNat ^^^ y.toNat < 2 ^ 32 := Nat.xor_lt_two_pow (by omega) (by omega)
  unfold bxor; omega
theorem band_lt64 (x y : Int) (hx : x < 18446744073709551616) (hy : y < 18446744073709551616) : 0 ≤ band x y ∧ band x y < 18446744073709551616 := by
  have h : x.toNat &&& y.toNat < 2 ^ 64 := Nat.and_lt_two_pow _ (by omega)
  unfold band; omega
theorem bor_lt64 (x y : Int) (hx : x < 18446744073709551616) (hy : y < 18446744073709551616) : 0 ≤ bor x y ∧ bor x y < 18446744073709551616 := by
  have h : x.toNat ||| y.toNat < 2 ^ 64 := Nat.or_lt_two_pow (by omega) (by omega)
  unfold bor; omega
theorem bxor_lt64 (x y : Int) (hx : x < 18446744073709551616) (hy : y < 18446744073709551616) : 0 ≤ bxor x y ∧ bxor x y < 18446744073709551616 := by
  have h : x.toNat ^^^ y.toNat < 2 ^ 64 := Nat.xor_lt_two_pow (by omega) (by omega)
  unfold bxor; omega

theorem tdiv_neg_one (x : Int) : x.tdiv (-1) = -x := by rw [Int.tdiv_neg]; simp
theorem tmod_neg_one (x : Int) : x.tmod (-1) = 0 := by rw [Int.tmod_neg]; simp
theorem tdiv_in (x y m : Int) (h1 : -(m + 1) ≤ x) (h2 : x ≤ m) (hm : 2 ≤ m) (h : ¬ (y = -1 ∧ x = -(m + 1))) : -(m + 1) ≤ x.tdiv y ∧ x.tdiv y ≤ m := by
  have h5 := Int.natAbs_tdiv x y
  have hb : x.natAbs.div y.natAbs ≤ x.natAbs := Nat.div_le_self _ _
  rw [← h5] at hb
  by_cases hx : x = -(m + 1)
  · by_cases hy : y = -1
    · exact absurd ⟨hy, hx⟩ h
    · by_cases hy1 : y = 1
      · subst hy1; simp; omega
      · by_cases hy0 : y = 0
        · subst hy0; simp; omega
        · have h6 : x.natAbs.div y.natAbs ≤ x.natAbs / 2 := Nat.div_le_div_left (by omega) (by omega)
          rw [← h5] at h6
          omega
  · omega
theorem tdiv_i32 (x y : Int) (hx : I32 x) (h : ¬ (y = -1 ∧ x = -2147483648)) : wrap32 (x.tdiv y) = x.tdiv y := by
  have := tdiv_in x y 2147483647 hx.1 hx.2 (by omega) h
  unfold wrap32; omega
theorem tdiv_i64 (x y : Int) (hx : I64 x) (h : ¬ (y = -1 ∧ x = -9223372036854775808)) : wrap64 (x.tdiv y) = x.tdiv y := by
  have := tdiv_in x y 9223372036854775807 hx.1 hx.2 (by omega) h
  unfold wrap64; omega
theorem neg_i32 (x : Int) (hx : I32 x) : wrap32 (-x) = if x = -2147483648 then x else -x := by
  have := hx.1; have := hx.2
  unfold wrap32; split <;> omega
theorem neg_i64 (x : Int) (hx : I64 x) : wrap64 (-x) = if x = -9223372036854775808 then x else -x := by
  have := hx.1; have := hx.2
  unfold wrap64; split <;> omega

theorem wrap64_wrap32 (x : Int) : wrap64 (wrap32 x) = wrap32 x := by unfold wrap64 wrap32; omega
theorem wrap32_mod (x : Int) : wrap32 x % 4294967296 = x % 4294967296 := by unfold wrap32; omega
theorem wrap64_mod (x : Int) : wrap64 x % 18446744073709551616 = x % 18446744073709551616 := by unfold wrap64; omega
theorem wrap32_I32 (x : Int) : I32 (wrap32 x) := by unfold I32 wrap32; omega
theorem wrap64_I64 (x : Int) : I64 (wrap64 x) := by unfold I64 wrap64; omega
theorem mod_U32 (x : Int) : U32 (x % 4294967296) := by unfold U32; omega
theorem udiv_le (x y : Int) (r : Bool) (m : Int) (hx : 0 ≤ x ∧ x ≤ m) (hy : 0 ≤ y ∧ y ≤ m) : 0 ≤ (udiv x y r).1 ∧ (udiv x y r).1 ≤ m := by
  unfold udiv
  split
  · dsimp only; omega
  · split
    · dsimp only
      have h1 := Int.emod_nonneg x (b := y) (by omega)
      have h2 := Int.emod_lt_of_pos x (b := y) (by omega)
      omega
    · dsimp only
      have h1 := Int.ediv_nonneg hx.1 hy.1
      have h2 := Int.ediv_le_self y hx.1
      omega
/-- What whole answers as 64 bits, of an operation of 32. -/
def w32 (op v : Int) : Int := if op = 3 ∨ op = 4 ∨ op = 5 then v % 4294967296 else v % 18446744073709551616
theorem w32_mod (op v : Int) : w32 op v % 4294967296 = v % 4294967296 := by unfold w32; split <;> omega

end Go.Proofs.YteepjngkbjbheaaDoor
