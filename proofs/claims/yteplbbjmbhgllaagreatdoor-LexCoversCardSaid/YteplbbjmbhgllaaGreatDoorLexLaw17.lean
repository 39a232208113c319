/-
  What stands behind a blank changes nothing ahead of it: both texts' tokens in one. No program in sight.
-/
import Derived.Test.YteplbbjmbhgllaaGreatDoorLexM02
import Derived.Test.YteplbbjmbhgllaaGreatDoorLexM10
namespace Go.Proofs.YteplbbjmbhgllaaGreatDoor.Lx
open Go.Lib
set_option linter.unusedVariables false
set_option linter.unusedSimpArgs false

theorem tokensL_inv {fl : Bs → Nat → Option Nat} {l : Bs} {ts : List Tok} (h : tokensL fl l = .ok ts) : l.length ≤ 1048576 ∧ Val l ∧ Toks fl l (1, 1) ts := by
  unfold tokensL at h
  split at h
  · cases h
  · rename_i hl
    cases hs : spoilt l with
    | some k => rw [hs] at h; cases h
    | none =>
      rw [hs] at h
      dsimp only at h
      obtain ⟨us, e, ht⟩ := tokensF_toks _ _ _ _ _ (by omega) h
      rw [List.nil_append] at e
      subst e
      exact ⟨by omega, spoilt_none.1 hs, ht⟩
theorem tokensL_mk {fl : Bs → Nat → Option Nat} {l : Bs} {ts : List Tok} (hl : l.length ≤ 1048576) (hv : Val l) (ht : Toks fl l (1, 1) ts) : tokensL fl l = .ok ts := by
  unfold tokensL
  rw [if_neg (by omega), spoilt_none.2 hv]
  dsimp only
  have := toks_tokensF ht l.length [] (by omega)
  rw [this]
  rfl
theorem tokensL_mkE {fl : Bs → Nat → Option Nat} {l : Bs} {x : Nat × Pl} (hl : l.length ≤ 1048576) (hv : Val l) (ht : TokE fl l (1, 1) x) : tokensL fl l = .error x := by
  unfold tokensL
  rw [if_neg (by omega), spoilt_none.2 hv]
  exact tokE_tokensF ht _ _ (by omega)
/-- BOTH TEXTS, a line's end between. -/
theorem ahead_law {fl : Bs → Nat → Option Nat} {a b : Bs} {ts : List Tok} (ha : tokensL fl a = .ok ts) (hlen : a.length + b.length < 1048576) :
    ∃ ts0, ts = ts0 ++ [⟨8, moved (1, 1) a, [], 0, []⟩] ∧ (∀ ms, tokensL fl b = .ok ms → tokensL fl (a ++ 10 :: b) = .ok (ts0 ++ ms.map (upT (moved (1, 1) a).1))) ∧
      (∀ k p, tokensL fl b = .error (k, p) → ∃ q : Pl, tokensL fl (a ++ 10 :: b) = .error (k, q) ∧ (moved (1, 1) a).1 < q.1) := by
  obtain ⟨_, hv, ht⟩ := tokensL_inv ha
  obtain ⟨ts0, e1, e2, e3⟩ := toks_app ht hv
  have hst : Stops (10 :: b) := .inr ⟨10, b, rfl, by decide⟩
  have h10 : (10 : UInt8).toNat < 128 := by decide
  have hl : (a ++ 10 :: b).length ≤ 1048576 := by simp; omega
  obtain ⟨A, hA⟩ : ∃ A, moved (1, 1) a = A := ⟨_, rfl⟩
  rw [hA] at e1 e2 e3 ⊢
  have hup : stepP A (10 : UInt8).toNat = upP A.1 (1, 1) := by
    unfold upP
    show stepP A 10 = _
    unfold stepP
    rw [if_pos rfl]
    dsimp only
    rw [Int.add_comm]
  refine ⟨ts0, e1, fun ms hm => ?_, fun k p hk => ?_⟩
  · obtain ⟨_, hvb, htb⟩ := tokensL_inv hm
    refine tokensL_mk hl (hv.app (.ascii h10 hvb)) (e2 _ _ hst (.blank (by decide) ?_))
    rw [hup]
    exact toks_up A.1 htb
  · unfold tokensL at hk
    rw [if_neg (by omega)] at hk
    cases hs : spoilt b with
    | some j =>
      rw [hs] at hk
      injection hk with hk
      injection hk with hk1 hk2
      subst hk1
      have hsb : spoilt (a ++ 10 :: b) = some (j + (a ++ [10]).length) := by
        have hva : Val (a ++ [10]) := hv.app (.ascii h10 .nil)
        have e : a ++ 10 :: b = (a ++ [10]) ++ b := by simp
        rw [e]
        unfold spoilt
        rw [spoiltF_app hva _ _ (Nat.le_refl _)]
        have key : ∀ (n : Nat) (l : Bs) (c d : Nat), spoiltF n l (c + d) = (spoiltF n l c).map (· + d) := by
          intro n
          induction n with
          | zero => intro l c d; rfl
          | succ n ih =>
            intro l c d
            unfold spoiltF
            split
            · rfl
            · split
              · rfl
              · rw [← ih]; congr 1; omega
        have := key b.length b 0 (a ++ [10]).length
        rw [this]
        unfold spoilt at hs
        rw [hs]
        rfl
      refine ⟨moved (1, 1) ((a ++ 10 :: b).take (j + (a ++ [10]).length)), ?_, ?_⟩
      · unfold tokensL
        rw [if_neg (by omega), hsb]
      · have et : (a ++ 10 :: b).take (j + (a ++ [10]).length) = a ++ (10 :: b.take j) := by
          rw [show a ++ 10 :: b = (a ++ [10]) ++ b from by simp, Nat.add_comm, List.take_length_add_append]
          simp
        rw [et, moved_app hv, hA]
        have e5 : moved A (10 :: b.take j) = moved (stepP A (10 : UInt8).toNat) (b.take j) := by
          have := moved_app (a := [10]) (.ascii h10 .nil) (b.take j) A
          rw [moved_one h10] at this
          exact this
        rw [e5, hup]
        have hle := movedF_le (b.take j).length (upP A.1 (1, 1)) (b.take j)
        have hu : (upP A.1 (1, 1)).1 = 1 + A.1 := rfl
        rcases hle with h | h
        · show A.1 < (movedF _ _ _).1
          rw [← h, hu]; omega
        · show A.1 < (movedF _ _ _).1
          unfold ltP at h
          omega
    | none =>
      rw [hs] at hk
      dsimp only at hk
      have hvb := spoilt_none.1 hs
      have hE := tokensF_tokE _ _ _ _ _ (by omega) hk
      have hpos := tokensF_err _ _ _ _ _ _ ⟨by decide, by decide⟩ hk
      refine ⟨upP A.1 p, tokensL_mkE hl (hv.app (.ascii h10 hvb)) (e3 _ _ hst (.blank (by decide) ?_)), ?_⟩
      · rw [hup]
        exact tokE_up A.1 hE
      · show A.1 < p.1 + A.1
        have := hpos.1
        omega
end Go.Proofs.YteplbbjmbhgllaaGreatDoor.Lx
