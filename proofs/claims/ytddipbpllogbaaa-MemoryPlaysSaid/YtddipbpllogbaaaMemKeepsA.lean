/-
  MemoryKeeps in plain words: what was stored is loaded again; what lies outside stays.
-/
import Derived.Test.YtddipbpllogbaaaMemW4
import Derived.Lib.EndianBits
import Derived.Lib.VarintBits
namespace Go.Proofs.Ytddipbpllogbaaa
open Go.RowKit
set_option linter.unusedVariables false
set_option linter.unusedSimpArgs false

theorem orS_add (x y : Int) (k : Nat) (hk : k < 8) (hx : 0 ≤ x ∧ x < 2 ^ (8 * k)) (hy : 0 ≤ y ∧ y < 256) : orS x y k = x + y * 2 ^ (8 * k) := by
  obtain ⟨x0, x1⟩ := hx
  obtain ⟨y0, y1⟩ := hy
  unfold orS
  have e : IntKind.u64.wrap y = y := by rw [IntKind.wrap_u64]; omega
  rw [e]
  rcases (by omega : k = 0 ∨ k = 1 ∨ k = 2 ∨ k = 3 ∨ k = 4 ∨ k = 5 ∨ k = 6 ∨ k = 7) with rfl | rfl | rfl | rfl | rfl | rfl | rfl | rfl
  · rw [show (2 : Int) ^ (8 * 0) = 1 from by decide] at x1 ⊢
    rw [show IntKind.u64.wrap (y * 1) = y * 1 from by rw [IntKind.wrap_u64]; omega]
    exact u64_orv0 x (y * 1) x0 x1 (by omega) (by omega) (by omega)
  · rw [show (2 : Int) ^ (8 * 1) = 256 from by decide] at x1 ⊢
    rw [show IntKind.u64.wrap (y * 256) = y * 256 from by rw [IntKind.wrap_u64]; omega]
    exact u64_or8 x (y * 256) x0 x1 (by omega) (by omega) (by omega)
  · rw [show (2 : Int) ^ (8 * 2) = 65536 from by decide] at x1 ⊢
    rw [show IntKind.u64.wrap (y * 65536) = y * 65536 from by rw [IntKind.wrap_u64]; omega]
    exact u64_or16 x (y * 65536) x0 x1 (by omega) (by omega) (by omega)
  · rw [show (2 : Int) ^ (8 * 3) = 16777216 from by decide] at x1 ⊢
    rw [show IntKind.u64.wrap (y * 16777216) = y * 16777216 from by rw [IntKind.wrap_u64]; omega]
    exact u64_or24 x (y * 16777216) x0 x1 (by omega) (by omega) (by omega)
  · rw [show (2 : Int) ^ (8 * 4) = 4294967296 from by decide] at x1 ⊢
    rw [show IntKind.u64.wrap (y * 4294967296) = y * 4294967296 from by rw [IntKind.wrap_u64]; omega]
    exact u64_or32 x (y * 4294967296) x0 x1 (by omega) (by omega) (by omega)
  · rw [show (2 : Int) ^ (8 * 5) = 1099511627776 from by decide] at x1 ⊢
    rw [show IntKind.u64.wrap (y * 1099511627776) = y * 1099511627776 from by rw [IntKind.wrap_u64]; omega]
    exact u64_or40 x (y * 1099511627776) x0 x1 (by omega) (by omega) (by omega)
  · rw [show (2 : Int) ^ (8 * 6) = 281474976710656 from by decide] at x1 ⊢
    rw [show IntKind.u64.wrap (y * 281474976710656) = y * 281474976710656 from by rw [IntKind.wrap_u64]; omega]
    exact u64_or48 x (y * 281474976710656) x0 x1 (by omega) (by omega) (by omega)
  · rw [show (2 : Int) ^ (8 * 7) = 72057594037927936 from by decide] at x1 ⊢
    rw [show IntKind.u64.wrap (y * 72057594037927936) = y * 72057594037927936 from by rw [IntKind.wrap_u64]; omega]
    exact u64_or56 x (y * 72057594037927936) x0 x1 (by omega) (by omega) (by omega)

/-- The bytes of a number, put together again. -/
theorem bitsN_eq (cells : List Int) (off : Nat) (b : Int) (hb : U64 b) : ∀ k : Nat, k ≤ 8 → (∀ j : Nat, j < k → cells.getD (off + j) 0 = (b / 2 ^ (8 * j)) % 256) → bitsN cells off k = b % 2 ^ (8 * k)
  | 0, _, _ => by show (0 : Int) = b % 1; omega
  | k + 1, hk, h => by
    have ih := bitsN_eq cells off b hb k (by omega) (fun j hj => h j (by omega))
    have hc := h k (by omega)
    obtain ⟨b0, b1⟩ := hb
    show orS (bitsN cells off k) (cells.getD (off + k) 0) k = _
    rw [ih, hc]
    rcases (by omega : k = 0 ∨ k = 1 ∨ k = 2 ∨ k = 3 ∨ k = 4 ∨ k = 5 ∨ k = 6 ∨ k = 7) with rfl | rfl | rfl | rfl | rfl | rfl | rfl | rfl
    · rw [orS_add _ _ 0 (by omega) (by rw [show (2 : Int) ^ (8 * 0) = 1 from by decide]; omega) (by omega)]
      rw [show (2 : Int) ^ (8 * 0) = 1 from by decide, show (2 : Int) ^ (8 * (0 + 1)) = 256 from by decide]
      omega
    · rw [orS_add _ _ 1 (by omega) (by rw [show (2 : Int) ^ (8 * 1) = 256 from by decide]; omega) (by omega)]
      rw [show (2 : Int) ^ (8 * 1) = 256 from by decide, show (2 : Int) ^ (8 * (1 + 1)) = 65536 from by decide]
      omega
    · rw [orS_add _ _ 2 (by omega) (by rw [show (2 : Int) ^ (8 * 2) = 65536 from by decide]; omega) (by omega)]
      rw [show (2 : Int) ^ (8 * 2) = 65536 from by decide, show (2 : Int) ^ (8 * (2 + 1)) = 16777216 from by decide]
      omega
    · rw [orS_add _ _ 3 (by omega) (by rw [show (2 : Int) ^ (8 * 3) = 16777216 from by decide]; omega) (by omega)]
      rw [show (2 : Int) ^ (8 * 3) = 16777216 from by decide, show (2 : Int) ^ (8 * (3 + 1)) = 4294967296 from by decide]
      omega
    · rw [orS_add _ _ 4 (by omega) (by rw [show (2 : Int) ^ (8 * 4) = 4294967296 from by decide]; omega) (by omega)]
      rw [show (2 : Int) ^ (8 * 4) = 4294967296 from by decide, show (2 : Int) ^ (8 * (4 + 1)) = 1099511627776 from by decide]
      omega
    · rw [orS_add _ _ 5 (by omega) (by rw [show (2 : Int) ^ (8 * 5) = 1099511627776 from by decide]; omega) (by omega)]
      rw [show (2 : Int) ^ (8 * 5) = 1099511627776 from by decide, show (2 : Int) ^ (8 * (5 + 1)) = 281474976710656 from by decide]
      omega
    · rw [orS_add _ _ 6 (by omega) (by rw [show (2 : Int) ^ (8 * 6) = 281474976710656 from by decide]; omega) (by omega)]
      rw [show (2 : Int) ^ (8 * 6) = 281474976710656 from by decide, show (2 : Int) ^ (8 * (6 + 1)) = 72057594037927936 from by decide]
      omega
    · rw [orS_add _ _ 7 (by omega) (by rw [show (2 : Int) ^ (8 * 7) = 72057594037927936 from by decide]; omega) (by omega)]
      rw [show (2 : Int) ^ (8 * 7) = 72057594037927936 from by decide, show (2 : Int) ^ (8 * (7 + 1)) = 18446744073709551616 from by decide]
      omega

theorem setN_out (cells : List Int) (off : Nat) (v : V) (i : Nat) : ∀ k : Nat, (i < off ∨ off + k ≤ i) → (setN cells off v k).getD i 0 = cells.getD i 0
  | 0, _ => rfl
  | k + 1, h => by
    show ((setN cells off v k).set (off + k) _).getD i 0 = _
    rw [List.getD_eq_getElem?_getD, List.getElem?_set_ne (by omega), ← List.getD_eq_getElem?_getD]
    exact setN_out cells off v i k (by omega)
theorem setN_in (cells : List Int) (off : Nat) (v : V) (j : Nat) : ∀ k : Nat, j < k → off + k ≤ cells.length → (setN cells off v k).getD (off + j) 0 = pieceOf v j
  | k + 1, h, hl => by
    show ((setN cells off v k).set (off + k) _).getD (off + j) 0 = _
    have hlen := setN_len cells off v k
    by_cases c : j = k
    · subst c
      rw [List.getD_eq_getElem?_getD, List.getElem?_set_self (by omega)]
      rfl
    · rw [List.getD_eq_getElem?_getD, List.getElem?_set_ne (by omega), ← List.getD_eq_getElem?_getD]
      exact setN_in cells off v j k (by omega) (by omega)

/-- What C8U loads at a cell. -/
def b8 (c : Int) : V := if c < 256 then valOf 2 (orS 0 c 0) else ⟨0, 0, 0⟩
theorem find8 {M : Int → Option Bk} {B : Bk} (h : M 1 = some B) (i : Nat) (hi : i < B.cells.length) (hl : B.cells.length ≤ 16777216) : findA M 2 ⟨4, i, 1⟩ = some (B, i) := by
  unfold findA
  have hw : wrap64 (i : Int) = i := by unfold wrap64; omega
  have hs : sizeV 2 = 1 := by decide
  simp only [h, hw, hs]
  rw [if_neg (by omega), if_neg (by omega)]
  simp
theorem load8 {M : Int → Option Bk} {B : Bk} (h : M 1 = some B) (i : Nat) (hi : i < B.cells.length) (hl : B.cells.length ≤ 16777216) : loadA M 2 ⟨4, i, 1⟩ = some (b8 (B.cells.getD i 0)) := by
  unfold loadA
  rw [find8 h i hi hl]
  simp only [show (2 : Int) ≠ 6 from by decide, false_and, if_false, show sizeV 2 = 1 from by decide]
  unfold loadB b8
  have hw : whole B.cells i 1 ↔ B.cells.getD i 0 < 256 := by
    unfold whole
    constructor
    · intro g; exact g 0 (by decide)
    · intro g j hj
      have : j = 0 := by have : (1 : Int).toNat = 1 := rfl; omega
      subst this; exact g
  by_cases c : B.cells.getD i 0 < 256
  · rw [if_pos (hw.2 c), if_pos c]; rfl
  · rw [if_neg (fun g => c (hw.1 g)), if_neg c]

/-- A store is done where a load is, and the chunk takes the value. -/
theorem store_when {M : Int → Option Bk} {B : Bk} {l : Int} (h : M l = some B) (hf : B.fixed = false) (chunk k b : Int) (v : V) : (storeA M chunk ⟨k, b, l⟩ v).isSome = ((loadA M chunk ⟨k, b, l⟩).isSome && takesA chunk v.k) := by
  unfold storeA loadA
  cases hfi : findA M chunk ⟨k, b, l⟩ with
  | none => rfl
  | some Bo =>
    obtain ⟨C, off⟩ := Bo
    have := (findA_some hfi).2.1
    dsimp only at this
    rw [h] at this
    injection this with this
    subst this
    cases ht : takesA chunk v.k <;> simp [hf]

end Go.Proofs.Ytddipbpllogbaaa
