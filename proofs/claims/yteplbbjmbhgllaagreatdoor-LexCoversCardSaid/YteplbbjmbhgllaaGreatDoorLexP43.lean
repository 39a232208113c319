/-
  Two texts' tokens: plain facts; what Tokens answers of any text.
-/
import Derived.Test.YteplbbjmbhgllaaGreatDoorLexM33
import Derived.Test.YteplbbjmbhgllaaGreatDoorLexLaw17
import Derived.BigQuiet
namespace Go.Proofs.YteplbbjmbhgllaaGreatDoor
open Go.RowKit
set_option linter.unusedVariables false
set_option linter.unusedSimpArgs false

theorem tokE_num {fl : Lx.Bs → Nat → Option Nat} {l : List UInt8} {p : Lx.Pl} {x : Nat × Lx.Pl} (h : Lx.TokE fl l p x) : x.1 = 2 ∨ x.1 = 7 := by
  induction h with
  | err hl hb ht => exact tokenL_err ht
  | blank hb _ ih => exact ih
  | tok hb ht _ ih => exact ih
theorem tokensL_num {l : List UInt8} {k : Nat} {p : Lx.Pl} (h : Lx.tokensL Lx.flF l = .error (k, p)) : k = 1 ∨ k = 2 ∨ k = 7 := by
  unfold Lx.tokensL at h
  split at h
  · injection h with h; injection h with h _; exact .inl h.symm
  · split at h
    · injection h with h; injection h with h _; exact .inl h.symm
    · have := tokE_num (Lx.tokensF_tokE _ _ _ _ _ (Nat.le_refl _) h)
      exact .inr this
theorem toks_places {fl : Lx.Bs → Nat → Option Nat} {l : List UInt8} {p : Lx.Pl} {ts : List Lx.Tok} (h : Lx.Toks fl l p ts) : ∀ n, 1 ≤ n → PlaceOk n p → ∀ t ∈ ts, PlaceOk (n + l.length) t.at_ := by
  induction h with
  | nil p => intro n _ hp t ht; simp at ht; subst ht; exact hp.mono (by omega)
  | @blank b r p ts hb _ ih =>
    intro n hn hp t ht
    exact (ih (n + 1) (by omega) (stepP_ok hp hn _) t ht).mono (by simp; omega)
  | @tok l p t ts hb ht _ ih =>
    intro n hn hp t' ht'
    have hl := Lx.tokenL_len ht
    rcases List.mem_cons.1 ht' with rfl | ht'
    · exact hp.mono (by omega)
    · have := moved_ok _ (l.take t.len) p (Nat.le_refl _) hp hn
      rw [List.length_take] at this
      exact (ih _ (by omega) this t' ht').mono (by rw [List.length_drop]; omega)
theorem tokensL_places {l : List UInt8} {ts : List Lx.Tok} (h : Lx.tokensL Lx.flF l = .ok ts) : ∀ t ∈ ts, PlaceOk 1048577 t.at_ := fun t ht => by
  obtain ⟨hl, _, hts⟩ := Lx.tokensL_inv h
  exact (toks_places hts 1 (Nat.le_refl _) ⟨by decide, by decide, by decide, by decide⟩ t ht).mono (by omega)
theorem tokens_some (s : ByteArray) (W : World) (h1 : Tabs W) (h2 : 13 ≤ W.heap.size) : Calls Tryz.prog 8 #[.string s] W fun e w' => (∃ (A : Option Addr) (n c : Nat) (p1 p2 k : Int), e = .returned (.tuple #[.slice A n c, .agg #[.int .i64 p1, .int .i64 p2], .int .i64 k])) ∧ Below W.heap.size W w' := by
  cases h : Lx.tokensL Lx.flF s.data.toList with
  | ok ts =>
    refine (tokens_ok h W h1 h2).mono ?_
    rintro e w' ⟨⟨v, hown, rfl⟩, hb⟩
    obtain ⟨A, c, rfl⟩ := OwnL.form hown
    exact ⟨⟨_, _, _, _, _, _, rfl⟩, hb⟩
  | error x =>
    obtain ⟨k, p1, p2⟩ := x
    refine (tokens_err h W h1 h2).mono ?_
    rintro e w' ⟨rfl, hb⟩
    exact ⟨⟨_, _, _, _, _, _, rfl⟩, hb⟩
end Go.Proofs.YteplbbjmbhgllaaGreatDoor
