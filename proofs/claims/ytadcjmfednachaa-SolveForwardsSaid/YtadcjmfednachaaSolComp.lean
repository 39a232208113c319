/-
  Sorted and compacted: a rising list of the same members. No program in sight.
-/
import Derived.Test.YtadcjmfednachaaSolA
import Derived.Lib.RowBridge
namespace Go.Proofs.Ytadcjmfednachaa
open Sol (Rising)

/-- What slices.Sort leaves. -/
def srt (l : List Int) : List Int := l.mergeSort fun x y => decide (x ≤ y)
theorem srt_length (l : List Int) : (srt l).length = l.length := by unfold srt; exact List.length_mergeSort l
theorem mem_srt {l : List Int} {x : Int} : x ∈ srt l ↔ x ∈ l := by unfold srt; exact (List.mergeSort_perm l _).mem_iff
theorem srt_le (l : List Int) : (srt l).Pairwise (· ≤ ·) := by
  have h := List.pairwise_mergeSort (le := fun (x y : Int) => decide (x ≤ y)) (fun a b c h1 h2 => by simp at h1 h2 ⊢; omega) (fun a b => by simp; omega) l
  exact h.imp fun h => by simpa using h
theorem compUp {zs : List Int} (hs : zs.Pairwise (· ≤ ·)) : ∀ m, m ≤ zs.length → Rising (Lib.compactUpTo zs.toArray m) ∧ ∀ x, x ∈ Lib.compactUpTo zs.toArray m ↔ x ∈ zs.take m
  | 0, _ => ⟨List.Pairwise.nil, fun x => by simp [Lib.compactUpTo]⟩
  | m + 1, hm => by
    obtain ⟨h1, h2⟩ := compUp hs m (by omega)
    have hlt : m < zs.length := by omega
    have hg : zs.toArray[m]! = zs[m] := by simp [hlt]
    have ht : zs.take (m + 1) = zs.take m ++ [zs[m]] := by rw [List.take_add_one, List.getElem?_eq_getElem hlt]; rfl
    rw [Lib.compactUpTo_succ, hg, ht]
    have hle : ∀ x ∈ zs.take m, x ≤ zs[m] := by
      intro x hx
      obtain ⟨i, hi, rfl⟩ := List.getElem_of_mem hx
      rw [List.length_take] at hi
      rw [List.getElem_take]
      exact List.pairwise_iff_getElem.1 hs i m (by omega) hlt (by omega)
    by_cases hk : Lib.keeps zs.toArray m = true
    · rw [if_pos hk]
      refine ⟨List.pairwise_append.2 ⟨h1, List.pairwise_singleton _ _, fun a ha b hb => ?_⟩, fun x => by rw [List.mem_append, List.mem_append, h2]⟩
      rw [List.mem_singleton] at hb
      subst hb
      have ha' := (h2 a).1 ha
      have hle1 := hle a ha'
      rcases Nat.eq_zero_or_pos m with h0 | hp
      · subst h0; simp at ha'
      · have hne : zs[m] ≠ zs[m - 1] := by
          have hk' := of_decide_eq_true hk
          rcases hk' with h | h
          · omega
          · rw [hg] at h
            intro e; apply h; rw [e]
            have : m - 1 < zs.length := by omega
            simp [this]
        have hle2 : a ≤ zs[m - 1] := by
          obtain ⟨i, hi, rfl⟩ := List.getElem_of_mem ha'
          rw [List.length_take] at hi
          rw [List.getElem_take]
          rcases Nat.lt_or_ge i (m - 1) with h | h
          · exact List.pairwise_iff_getElem.1 hs i (m - 1) (by omega) (by omega) h
          · have : i = m - 1 := by omega
            subst this; exact Int.le_refl _
        have hle3 := List.pairwise_iff_getElem.1 hs (m - 1) m (by omega) hlt (by omega)
        omega
    · rw [if_neg hk]
      simp only [List.append_nil]
      refine ⟨h1, fun x => ?_⟩
      rw [h2, List.mem_append, List.mem_singleton]
      refine ⟨.inl, fun h => h.elim id fun e => ?_⟩
      subst e
      have hp : 0 < m ∧ zs[m] = zs[m - 1] := by
        unfold Lib.keeps at hk
        simp only [decide_eq_true_eq, not_or, ne_eq, Decidable.not_not] at hk
        refine ⟨by omega, ?_⟩
        have h := hk.2
        rw [hg] at h
        rw [h]
        have : m - 1 < zs.length := by omega
        simp [this]
      rw [hp.2]
      refine List.mem_iff_getElem.2 ⟨m - 1, by rw [List.length_take]; omega, by rw [List.getElem_take]⟩
/-- A set: sorted, one of each. -/
theorem comp_srt (l : List Int) : Rising (Lib.compact (srt l)) ∧ ∀ x, x ∈ Lib.compact (srt l) ↔ x ∈ l := by
  obtain ⟨h1, h2⟩ := compUp (srt_le l) (srt l).length (Nat.le_refl _)
  refine ⟨h1, fun x => ?_⟩
  have := h2 x
  rw [List.take_length, mem_srt] at this
  exact this
end Go.Proofs.Ytadcjmfednachaa
