/-
  The reference's Eval2, joined.
-/
import Derived.Test.YtddipbpllogbaaaMachW8
namespace Go.Proofs.Ytddipbpllogbaaa
open Go.RowKit
set_option linter.unusedVariables false
set_option linter.unusedSimpArgs false

theorem ref_eval2_any (op k1 b1 l1 k2 b2 l2 : Int) (hi : I64 op) (hx : U64 b1) (hy : U64 b2) (w : World) :
    Calls Try.prog 48 #[.int .i64 op, .agg #[.int .i64 k1, .int .u64 b1, .int .i64 l1], .agg #[.int .i64 k2, .int .u64 b2, .int .i64 l2]] w fun e w' =>
      e = .returned (.tuple #[.agg #[.int .i64 (eval2 op ⟨k1, b1, l1⟩ ⟨k2, b2, l2⟩).1.k, .int .u64 (eval2 op ⟨k1, b1, l1⟩ ⟨k2, b2, l2⟩).1.b, .int .i64 (eval2 op ⟨k1, b1, l1⟩ ⟨k2, b2, l2⟩).1.l], .bool (eval2 op ⟨k1, b1, l1⟩ ⟨k2, b2, l2⟩).2]) ∧ Below w.heap.size w w' := by
  have hsh := ref_shape_any op hi
  have hxx : U32 (b1 % 4294967296) := mod_U32 _
  have hyy : U32 (b2 % 4294967296) := mod_U32 _
  have hev := eval2.eq_1 op ⟨k1, b1, l1⟩ ⟨k2, b2, l2⟩
  generalize eval2 op ⟨k1, b1, l1⟩ ⟨k2, b2, l2⟩ = r at hev ⊢
  rcases shape_two op with h | ⟨h1, h2, h3, h4⟩ | ⟨h1, h2, h3, h4, h5⟩ | ⟨h1, h2, h3, h4, h5⟩ | ⟨h1, h2, h3, h4⟩
  · rw [if_pos h] at hev
    rw [h] at hsh
    exact refe_none op k1 k2 (shape op).1 (shape op).2.2 b1 l1 b2 l2 r hi (Lib.hid hsh) (Lib.hid hev) hx hy w
  · rw [h1, h2] at hev hsh
    simp only [Int.reduceEq, if_false, false_and, if_true] at hev
    by_cases c1 : k1 = 3
    · subst c1
      by_cases c2 : k2 = 3
      · subst c2
        simp only [ne_eq, not_true, or_self, if_false] at hev
        exact refe_dbl op (shape op).2.2 b1 l1 b2 l2 r hi (Lib.hid hsh) ⟨h3, h4⟩ (Lib.hid hev) (Lib.hid (ref_doubles_any op b1.toNat b2.toNat ⟨h3, h4⟩)) hx hy w
      · simp [c2] at hev
        exact refe_not2 op k2 3 3 (shape op).2.2 b1 l1 b2 l2 r hi (Lib.hid hsh) (by omega) (Lib.hid hev) rfl rfl rfl (bneT c2) hx hy w
    · simp [c1] at hev
      exact refe_not1 op k1 k2 3 3 (shape op).2.2 b1 l1 b2 l2 r hi (Lib.hid hsh) (by omega) (Lib.hid hev) rfl rfl (bneT c1) hx hy w
  · rw [h1, h2] at hev hsh
    simp only [Int.reduceEq, if_false, false_and, if_true] at hev
    rw [h3] at hev
    by_cases c1 : k1 = 1
    · subst c1
      by_cases c2 : k2 = 1
      · subst c2
        simp at hev
        by_cases o1 : 22 ≤ op
        · refine refe_int_u op (shape op).2.2 b1 l1 b2 l2 r hi (Lib.hid hsh) o1 (Lib.hid ?_) hx hy w
          rw [hev]; simp [intsV, o1]
        · by_cases o2 : 16 ≤ op
          · refine refe_int_s op (shape op).2.2 b1 l1 b2 l2 r hi (Lib.hid hsh) o2 (by omega) (Lib.hid ?_) hx hy w
            rw [hev]; simp [intsV, o1, o2]
          · by_cases o3 : 13 ≤ op
            · by_cases c : b2 % 4294967296 ≤ 31
              · refine refe_int_sh op (shape op).2.2 _ b1 l1 b2 l2 r hi (Lib.hid hsh) o3 (by omega) (Lib.hid ?_) (Lib.hid (ref_shift_32 op b1 b2 l2 hx c)) hx hy w
                rw [hev]; simp [intsV, o1, o2, o3, show ¬ 31 < b2 % 4294967296 by omega]
              · refine refe_int_shn op (shape op).2.2 b1 l1 b2 l2 r hi (Lib.hid hsh) o3 (by omega) (Lib.hid ?_) (Lib.hid (ref_shift_32_no op b1 b2 l2 (by omega))) hx hy w
                rw [hev]; simp [intsV, o1, o2, o3, show 31 < b2 % 4294967296 by omega]
            · have HW := ref_whole_32 op b1 b2 ⟨h4, by omega⟩
              have hv : r = if (wholeU (-2147483648) op (wrap32 (b1 % 4294967296)) (wrap32 (b2 % 4294967296)) (b1 % 4294967296) (b2 % 4294967296)).2 then (intV (wholeU (-2147483648) op (wrap32 (b1 % 4294967296)) (wrap32 (b2 % 4294967296)) (b1 % 4294967296) (b2 % 4294967296)).1, true) else (undefV, false) := by rw [hev]; simp [intsV, o1, o2, o3]
              generalize wholeU (-2147483648) op (wrap32 (b1 % 4294967296)) (wrap32 (b2 % 4294967296)) (b1 % 4294967296) (b2 % 4294967296) = s at HW hv
              obtain ⟨s, t⟩ := s
              cases t
              · exact refe_int_whn op (shape op).2.2 _ b1 l1 b2 l2 r hi (Lib.hid hsh) (by omega) (by omega) (Lib.hid hv) (Lib.hid HW) hx hy w
              · exact refe_int_wh op (shape op).2.2 _ b1 l1 b2 l2 r hi (Lib.hid hsh) (by omega) (by omega) (Lib.hid hv) (Lib.hid HW) hx hy w
      · simp [c2] at hev
        exact refe_not2 op k2 1 1 (shape op).2.2 b1 l1 b2 l2 r hi (Lib.hid hsh) (by omega) (Lib.hid hev) rfl rfl rfl (bneT c2) hx hy w
    · simp [c1] at hev
      exact refe_not1 op k1 k2 1 1 (shape op).2.2 b1 l1 b2 l2 r hi (Lib.hid hsh) (by omega) (Lib.hid hev) rfl rfl (bneT c1) hx hy w
  · rw [h1, h2] at hev hsh
    simp only [Int.reduceEq, if_false, false_and, and_false, if_true] at hev
    rw [h3] at hev
    by_cases c1 : k1 = 2
    · subst c1
      by_cases c2 : k2 = 1
      · subst c2
        simp at hev
        by_cases c : b2 % 4294967296 ≤ 63
        · refine refe_long_sh op (shape op).2.2 _ b1 l1 b2 l2 r hi (Lib.hid hsh) h4 (by omega) (Lib.hid ?_) (Lib.hid (ref_shift_64 (op - 30) b1 b2 l2 hx c)) hx hy w
          rw [hev]; simp [longsV, show ¬ 22 ≤ op - 30 by omega, show ¬ 16 ≤ op - 30 by omega, h4, show ¬ 63 < b2 % 4294967296 by omega]
        · refine refe_long_shn op (shape op).2.2 b1 l1 b2 l2 r hi (Lib.hid hsh) h4 (by omega) (Lib.hid ?_) (Lib.hid (ref_shift_64_no (op - 30) b1 b2 l2 (by omega))) hx hy w
          rw [hev]; simp [longsV, show ¬ 22 ≤ op - 30 by omega, show ¬ 16 ≤ op - 30 by omega, h4, show 63 < b2 % 4294967296 by omega]
      · simp [c2] at hev
        exact refe_not4 op k2 (shape op).2.2 b1 l1 b2 l2 r hi (Lib.hid hsh) (by omega) (Lib.hid hev) (bneT c2) hx hy w
    · simp [c1] at hev
      exact refe_not3 op k1 k2 (shape op).2.2 b1 l1 b2 l2 r hi (Lib.hid hsh) (by omega) (Lib.hid hev) (bneT c1) hx hy w
  · rw [h1, h2] at hev hsh
    simp only [Int.reduceEq, if_false, true_and, and_true, if_true] at hev
    rw [h3] at hev
    by_cases c1 : k1 = 4
    · subst c1
      simp at hev
      exact refe_ptr1 op k2 (shape op).2.2 b1 l1 b2 l2 r hi (Lib.hid hsh) (by omega) _ (Lib.hid hev) (Lib.hid (ref_pointers_any (op - 30) 4 b1 l1 k2 b2 l2 (by omega) (Or.inl rfl) hx hy)) hx hy w
    · by_cases c2 : k2 = 4
      · subst c2
        simp at hev
        exact refe_ptr2 op k1 (shape op).2.2 b1 l1 b2 l2 r hi (Lib.hid hsh) (by omega) _ (Lib.hid hev) (beqF c1) (Lib.hid (ref_pointers_any (op - 30) k1 b1 l1 4 b2 l2 (by omega) (Or.inr rfl) hx hy)) hx hy w
      · simp only [c1, c2, or_self, if_false] at hev
        by_cases c3 : k1 = 2
        · subst c3
          by_cases c4 : k2 = 2
          · subst c4
            simp at hev
            by_cases o1 : 22 ≤ op - 30
            · refine refe_long_u op (shape op).2.2 b1 l1 b2 l2 r hi (Lib.hid hsh) o1 (Lib.hid ?_) hx hy w
              rw [hev]; simp [longsV, o1]
            · by_cases o2 : 16 ≤ op - 30
              · refine refe_long_s op (shape op).2.2 b1 l1 b2 l2 r hi (Lib.hid hsh) o2 (by omega) (Lib.hid ?_) hx hy w
                rw [hev]; simp [longsV, o1, o2]
              · have HW := ref_whole_64' (op - 30) b1 b2 _ _ hx hy rfl rfl (by omega)
                have hv : r = if (wholeU (-9223372036854775808) (op - 30) (wrap64 b1) (wrap64 b2) b1 b2).2 then (longV (wholeU (-9223372036854775808) (op - 30) (wrap64 b1) (wrap64 b2) b1 b2).1, true) else (undefV, false) := by rw [hev]; simp [longsV, o1, o2, show ¬ 13 ≤ op - 30 by omega]
                generalize wholeU (-9223372036854775808) (op - 30) (wrap64 b1) (wrap64 b2) b1 b2 = s at HW hv
                obtain ⟨s, t⟩ := s
                cases t
                · exact refe_long_whn op (shape op).2.2 _ b1 l1 b2 l2 r hi (Lib.hid hsh) (by omega) (by omega) (Lib.hid hv) (Lib.hid HW) hx hy w
                · exact refe_long_wh op (shape op).2.2 _ b1 l1 b2 l2 r hi (Lib.hid hsh) (by omega) (by omega) (Lib.hid hv) (Lib.hid HW) hx hy w
          · simp [c4] at hev
            exact refe_not6 op k2 (shape op).2.2 b1 l1 b2 l2 r hi (Lib.hid hsh) (by omega) (Lib.hid hev) (beqF c2) (bneT c4) hx hy w
        · simp [c3] at hev
          exact refe_not5 op k1 k2 (shape op).2.2 b1 l1 b2 l2 r hi (Lib.hid hsh) (by omega) (Lib.hid hev) (beqF c1) (beqF c2) (bneT c3) hx hy w

end Go.Proofs.Ytddipbpllogbaaa
