/-
  What a run's text is, in plain words, on lists of bytes; no program in sight.
-/
import Derived.Test.YteepjngkbjbheaaDoorTraceDefs
import Derived.Lib.ItoaLen
import Derived.Lib.Join
namespace Go.Proofs.YteepjngkbjbheaaDoor
open Go.RowKit
set_option linter.unusedVariables false
set_option linter.unusedSimpArgs false

/-- A digit in sixteens. -/
def digH (n : Nat) : UInt8 := UInt8.ofNat (if n < 10 then 48 + n else 87 + n)
/-- k digits of n in sixteens, the low ones. -/
def hexN : Nat → Nat → List UInt8
  | 0, _ => []
  | k + 1, n => hexN k (n / 16) ++ [digH (n % 16)]
/-- n in sixteens, without noughts ahead. -/
def hexD (n : Nat) : List UInt8 := if h : n < 16 then [digH n] else hexD (n / 16) ++ [digH (n % 16)]
termination_by n
decreasing_by omega

theorem hexN_len : ∀ (k n : Nat), (hexN k n).length = k
  | 0, _ => rfl
  | k + 1, n => by rw [hexN, List.length_append, hexN_len k]; rfl
theorem hexN_zero : ∀ (k : Nat), hexN k 0 = List.replicate k 48
  | 0 => rfl
  | k + 1 => by
    rw [hexN, Nat.zero_div, hexN_zero k, List.replicate_succ']
    rfl
theorem hexD_pad : ∀ (k n : Nat), n < 16 ^ (k + 1) → (hexD n).length ≤ k + 1 ∧ List.replicate (k + 1 - (hexD n).length) 48 ++ hexD n = hexN (k + 1) n
  | 0, n, h => by
    have h1 : n < 16 := by simpa using h
    rw [hexD, dif_pos h1, hexN, hexN, Nat.mod_eq_of_lt h1]
    simp
  | k + 1, n, h => by
    by_cases h1 : n < 16
    · rw [hexD, dif_pos h1, hexN, Nat.div_eq_of_lt h1, hexN_zero, Nat.mod_eq_of_lt h1]
      simp
    · have h2 : n / 16 < 16 ^ (k + 1) := by
        rw [Nat.div_lt_iff_lt_mul (by omega)]
        rw [Nat.pow_succ] at h
        exact h
      obtain ⟨h3, h4⟩ := hexD_pad k (n / 16) h2
      rw [hexD, dif_neg h1, List.length_append, List.length_singleton]
      refine ⟨by omega, ?_⟩
      rw [hexN, ← h4, List.append_assoc]
      congr 2
      omega
/-- One more digit, at the low end, of what stands above. -/
theorem hexN_next (k n : Nat) : hexN k (n / 16) ++ [digH (n % 16)] = hexN (k + 1) n := rfl
/-- The digits so far: v is yet to be written ahead of t. -/
def HexS (u v : Nat) (t : List UInt8) : Prop := hexD v ++ t = hexD u
theorem HexS.step {u v : Nat} {t : List UInt8} (h : HexS u v t) (hv : 16 ≤ v) : HexS u (v / 16) (digH (v % 16) :: t) := by
  unfold HexS at *
  rw [hexD, dif_neg (by omega)] at h
  rw [← h, List.append_assoc]; rfl
theorem HexS.done {u v : Nat} {t : List UInt8} (h : HexS u v t) (hv : v < 16) : digH v :: t = hexD u := by
  unfold HexS at h
  rw [hexD, dif_pos hv] at h
  exact h
theorem hexD_pos (n : Nat) : 0 < (hexD n).length := by
  rw [hexD]; split <;> simp
theorem HexS.short {u v : Nat} {t : List UInt8} (h : HexS u v t) (hu : u < 18446744073709551616) : t.length ≤ 15 := by
  have h1 := (hexD_pad 15 u hu).1
  have h2 := congrArg List.length h
  have h3 := hexD_pos v
  rw [List.length_append] at h2
  omega

/-- The parts with ", " between. -/
def commas : List (List UInt8) → List UInt8
  | [] => []
  | [a] => a
  | a :: b :: l => a ++ ([44, 32] ++ commas (b :: l))

def sgn32 (b : Int) : Int := (b + 2147483648) % 4294967296 - 2147483648
def sgn64 (b : Int) : Int := (b + 9223372036854775808) % 18446744073709551616 - 9223372036854775808
/-- A value as it is written. -/
def valT (v : V) : List UInt8 :=
  if v.k = 1 then Lib.itoa (sgn32 v.b) else if v.k = 2 then Lib.itoa (sgn64 v.b) ++ [76]
  else if v.k = 3 then [48, 120] ++ hexN 16 v.b.toNat else if v.k = 4 then [112, 116, 114] else [117, 110, 100, 101, 102]
/-- What stands behind an event's arguments. -/
def resT (v : V) : List UInt8 := if v.k = 0 then [] else [32, 61, 32] ++ valT v
def evT (e : Ev) : List UInt8 := e.name.data.toList ++ ([40] ++ (commas (e.args.map valT) ++ ([41] ++ (resT e.res ++ [10]))))
def endT (o : Out) : List UInt8 :=
  if o.st = 0 then [114, 117, 110, 110, 105, 110, 103] else if o.st = 1 then [101, 120, 105, 116, 101, 100, 32] ++ Lib.itoa o.code
  else if o.st = 2 then [119, 114, 111, 110, 103] else if o.st = 3 then [115, 116, 97, 99, 107, 32, 111, 117, 116] else [117, 110, 107, 110, 111, 119, 110]
def evsT (l : List Ev) : List UInt8 := l.flatMap evT
def outT (o : Out) : List UInt8 := evsT o.tr ++ (endT o ++ [10])

theorem sgn32_i64 (b : Int) : I64 (sgn32 b) := by unfold sgn32 I64; omega
theorem sgn64_i64 (b : Int) : I64 (sgn64 b) := by unfold sgn64 I64; omega
theorem itoa_len (n : Int) (h : I64 n) : (Lib.itoa n).length ≤ 21 := Lib.itoa_length_le n h.1 h.2
theorem valT_len (v : V) : (valT v).length ≤ 22 := by
  unfold valT
  split
  · have := itoa_len _ (sgn32_i64 v.b); omega
  split
  · have := itoa_len _ (sgn64_i64 v.b); simp; omega
  split
  · rw [List.length_append, hexN_len]; simp
  split <;> simp
theorem commas_len : ∀ (l : List (List UInt8)) (n : Nat), (∀ x ∈ l, x.length ≤ n) → (commas l).length ≤ (n + 2) * l.length
  | [], n, _ => by simp [commas]
  | [a], n, h => by
    have := h a (by simp)
    simp [commas]; omega
  | a :: b :: l, n, h => by
    have h1 := h a (by simp)
    have h2 := commas_len (b :: l) n (fun x hx => h x (by simp at hx ⊢; exact .inr hx))
    simp only [commas, List.length_append, List.length_cons, List.length_nil] at h2 ⊢
    rw [Nat.mul_add (n + 2) (l.length + 1) 1]
    omega
theorem args_len (l : List V) : (commas (l.map valT)).length ≤ 24 * l.length := by
  have h := commas_len (l.map valT) 22 (fun x hx => by
    obtain ⟨v, _, rfl⟩ := List.mem_map.1 hx
    exact valT_len v)
  rw [List.length_map] at h
  exact h
theorem resT_len (v : V) : (resT v).length ≤ 25 := by
  have := valT_len v
  unfold resT
  split <;> simp <;> omega
/-- What an event's text takes at most. -/
def evC (e : Ev) : Nat := e.name.size + 24 * e.args.length + 40
theorem evT_len (e : Ev) : (evT e).length ≤ evC e := by
  have h1 := args_len e.args
  have h2 := resT_len e.res
  have h3 : e.name.data.toList.length = e.name.size := by rw [Array.length_toList]; rfl
  unfold evT evC
  simp only [List.length_append, List.length_cons, List.length_nil]
  omega
def evsC (l : List Ev) : Nat := (l.map evC).sum
theorem evsT_len : ∀ (l : List Ev), (evsT l).length ≤ evsC l
  | [] => by simp [evsT, evsC]
  | e :: l => by
    have h1 := evT_len e
    have h2 := evsT_len l
    unfold evsT evsC at *
    simp only [List.flatMap_cons, List.map_cons, List.sum_cons, List.length_append]
    omega
theorem evsT_snoc (l : List Ev) (e : Ev) : evsT (l ++ [e]) = evsT l ++ evT e := by simp [evsT]
theorem evsC_take : ∀ (l : List Ev) (k : Nat), evsC (l.take k) ≤ evsC l
  | [], k => by simp [evsC]
  | e :: l, 0 => by simp [evsC]
  | e :: l, k + 1 => by
    have := evsC_take l k
    unfold evsC at *
    simp only [List.take_succ_cons, List.map_cons, List.sum_cons]
    omega
theorem evsC_at {l : List Ev} {k : Nat} {e : Ev} (h : l[k]? = some e) : evsC (l.take k) + evC e ≤ evsC l := by
  have h1 := evsC_take l (k + 1)
  rw [List.take_add_one, h] at h1
  unfold evsC at *
  simpa using h1
theorem endT_len (o : Out) (h : I64 o.code) : (endT o).length ≤ 28 := by
  have := itoa_len _ h
  unfold endT
  split
  · simp
  split
  · simp; omega
  split
  · simp
  split <;> simp
theorem ba_app (a b : List UInt8) : (⟨a.toArray⟩ : ByteArray) ++ ⟨b.toArray⟩ = ⟨(a ++ b).toArray⟩ := by
  apply ByteArray.ext
  simp
theorem ba_size (a : List UInt8) : (⟨a.toArray⟩ : ByteArray).size = a.length := by simp [ByteArray.size]
theorem ba_self (s : ByteArray) : s = ⟨s.data.toList.toArray⟩ := by simp
theorem ret_str {a b : ByteArray} (h : a = b) : Ending.returned (.string a) = .returned (.string b) := by rw [h]
theorem join_commas : ∀ (l : List (List UInt8)), Lib.join l [44, 32] = commas l
  | [] => rfl
  | [a] => by rw [Lib.join_one]; rfl
  | a :: b :: l => by
    have h := join_commas (b :: l)
    rw [Lib.join_cons] at h ⊢
    rw [commas, ← h]
    simp [Lib.joinTail]
/-- The bytes of a number in sixteens, one by one. -/
theorem digH_nat (n : Nat) (h : n < 16) : (digH n).toNat = if n < 10 then 48 + n else 87 + n := by
  unfold digH
  rw [UInt8.toNat_ofNat']
  split <;> omega
end Go.Proofs.YteepjngkbjbheaaDoor
