/-
  The tokens cover the text: a step of a loop over them at a time. No program in sight.
-/
import Derived.Test.YteplbbjmbhgllaaGreatDoorLexLaw17
import Derived.Test.YteplbbjmbhgllaaGreatDoorLexM05
namespace Go.Proofs.YteplbbjmbhgllaaGreatDoor.Lx
open Go.Lib
set_option linter.unusedVariables false
set_option linter.unusedSimpArgs false

/-- Ahead of the i-th token, at the text's j-th byte, behind the place q. -/
def CovS (fl : Bs → Nat → Option Nat) (L : Bs) (ts : List Tok) (i j : Nat) (q : Pl) : Prop := j ≤ L.length ∧ ((i < ts.length ∧ ∃ p, Toks fl (L.drop j) p (ts.drop i) ∧ ltP q p) ∨ (i = ts.length ∧ j = L.length))
theorem CovS.start {fl : Bs → Nat → Option Nat} {L : Bs} {ts : List Tok} (h : Toks fl L (1, 1) ts) : CovS fl L ts 0 0 (0, 0) :=
  ⟨by omega, .inl ⟨List.length_pos_iff.2 (toks_ne h), (1, 1), h, .inl (by decide)⟩⟩
theorem CovS.end_ {fl : Bs → Nat → Option Nat} {L : Bs} {ts : List Tok} {j : Nat} {q : Pl} (h : CovS fl L ts ts.length j q) : j = L.length := by
  rcases h.2 with ⟨h1, _⟩ | ⟨_, h2⟩
  · omega
  · exact h2
theorem skipB_at {L : Bs} {j : Nat} (h : j = L.length ∨ (j < L.length ∧ isBlank (byteN L j) = false)) : skipB (L.drop j) = L.drop j := by
  rcases h with rfl | ⟨h1, h2⟩
  · rw [List.drop_of_length_le (Nat.le_refl _)]; rfl
  · rw [drop_byte h1]
    unfold skipB
    rw [List.dropWhile_cons, if_neg]
    show ¬ isBlank (byteN L j) = true
    rw [h2]; simp
theorem skipB_step {L : Bs} {j : Nat} (h1 : j < L.length) (h2 : isBlank (byteN L j) = true) : skipB (L.drop j) = skipB (L.drop (j + 1)) := by
  rw [drop_byte h1]
  unfold skipB
  have h3 : isBlank (L.getD j 0).toNat = true := h2
  rw [List.dropWhile_cons, if_pos h3]
/-- ONE TOKEN ON: j1 stands behind the blanks. -/
theorem CovS.step {fl : Bs → Nat → Option Nat} {L : Bs} {ts : List Tok} {i j j1 : Nat} {q : Pl} (h : CovS fl L ts i j q) (hi : i < ts.length) (hj : j1 ≤ L.length) (hs : skipB (L.drop j) = L.drop j1) :
    ∃ t, ts[i]? = some t ∧ t.text.length ≤ L.length - j1 ∧ (L.drop j1).take t.text.length = t.text ∧ (decide (t.kind = 8) = decide (i + 1 = ts.length)) ∧ (decide (t.text = []) = decide (i + 1 = ts.length)) ∧ ltP q t.at_ ∧ CovS fl L ts (i + 1) (j1 + t.text.length) t.at_ := by
  rcases h.2 with ⟨_, p, hT, hq⟩ | ⟨h1, _⟩
  · obtain ⟨t, ts', l', e1, e2, e3, e4⟩ := toks_head hT
    have ht : ts[i]? = some t := by
      have := congrArg (·[0]?) e1
      simpa using this
    have hd : ts.drop (i + 1) = ts' := by
      have := congrArg List.tail e1
      rw [List.tail_drop] at this
      exact this
    have hlen := congrArg List.length e1
    rw [List.length_drop, List.length_cons] at hlen
    rw [hs] at e2
    have hl := congrArg List.length e2
    rw [List.length_drop, List.length_append] at hl
    have hlt : ltP q t.at_ := by
      rcases e3 with e3 | e3
      · rw [← e3]; exact hq
      · exact hq.trans e3
    have hdr : L.drop (j1 + t.text.length) = l' := by rw [← List.drop_drop, e2, List.drop_append_of_le_length (Nat.le_refl _), List.drop_of_length_le (Nat.le_refl _), List.nil_append]
    refine ⟨t, ht, by omega, by rw [e2, List.take_append_of_le_length (Nat.le_refl _), List.take_of_length_le (Nat.le_refl _)], ?_, ?_, hlt, by omega, ?_⟩
    · rcases e4 with ⟨a1, a2, _, _⟩ | ⟨a1, a2, _, _⟩
      · rw [a1] at hlen; simp at hlen
        rw [decide_eq_true a2, decide_eq_true (by omega)]
      · have : 0 < ts'.length := List.length_pos_iff.2 a1
        rw [decide_eq_false a2, decide_eq_false (by omega)]
    · rcases e4 with ⟨a1, _, a2, _⟩ | ⟨a1, _, a2, _⟩
      · rw [a1] at hlen; simp at hlen
        rw [decide_eq_true a2, decide_eq_true (by omega)]
      · have : 0 < ts'.length := List.length_pos_iff.2 a1
        rw [decide_eq_false a2, decide_eq_false (by omega)]
    · rcases e4 with ⟨a1, _, _, a4⟩ | ⟨a1, _, _, p', a4, a5⟩
      · rw [a1] at hlen; simp at hlen
        rw [a4] at hl
        simp at hl
        exact .inr ⟨by omega, by omega⟩
      · have : 0 < ts'.length := List.length_pos_iff.2 a1
        exact .inl ⟨by omega, p', by rw [hdr, hd]; exact a4, a5⟩
  · omega
theorem toks_length {fl : Bs → Nat → Option Nat} {l : Bs} {p : Pl} {ts : List Tok} (h : Toks fl l p ts) : ts.length ≤ l.length + 1 := by
  induction h with
  | nil => simp
  | blank _ _ ih => simp; omega
  | @tok l p t ts _ ht _ ih =>
    have := tokenL_len ht
    rw [List.length_drop] at ih
    simp
    omega
theorem spaced_snoc {ts : List Tok} {i : Nat} {t : Tok} (h : ts[i]? = some t) : spaced (ts.take (i + 1)) = spaced (ts.take i) ++ t.text ++ [32] := by
  unfold spaced
  rw [List.take_add_one, h]
  simp
theorem spaced_all {ts : List Tok} : spaced (ts.take ts.length) = spaced ts := by rw [List.take_of_length_le (Nat.le_refl _)]
/-- WRITTEN WITH BLANKS BETWEEN THEY ARE THE SAME. -/
theorem spaced_tokens {fl : Bs → Nat → Option Nat} {l : Bs} {ts : List Tok} (h : tokensL fl l = .ok ts) (hl : (spaced ts).length ≤ 1048576) : ∃ us, tokensL fl (spaced ts) = .ok us ∧ ts.map strip = us.map strip := by
  obtain ⟨_, hv, ht⟩ := tokensL_inv h
  obtain ⟨us, h1, h2⟩ := toks_spaced ht (1, 1)
  exact ⟨us, tokensL_mk hl (toks_spacedV ht hv) h1, h2⟩
end Go.Proofs.YteplbbjmbhgllaaGreatDoor.Lx
