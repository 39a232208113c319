/-
  Where a type's parts lie; types out of numbers nest no deeper than they may.
-/
import Derived.Test.YteeojgepgjndgaaDoorCtypeMk
import Derived.Test.YteeojgepgjndgaaDoorOwn
namespace Go.Proofs.YteeojgepgjndgaaDoor
open Go.RowKit
set_option linter.unusedVariables false

mutual
/-- All slices of a type lie in blocks of S. -/
def InT (S : Nat → Prop) : Ty → Prop
  | .ptr sv t => (∀ b, sv.ownBlock = some b → S b) ∧ InT S t
  | .arr sv _ t => (∀ b, sv.ownBlock = some b → S b) ∧ InT S t
  | .fn sv r ps => (∀ b, sv.ownBlock = some b → S b) ∧ InT S r ∧ InTs S ps
  | _ => True
def InTs (S : Nat → Prop) : List Ty → Prop
  | [] => True
  | t :: l => InT S t ∧ InTs S l
end
mutual
theorem InT.mono {S S' : Nat → Prop} (h : ∀ b, S b → S' b) : ∀ (t : Ty), InT S t → InT S' t
  | .none, _ | .void, _ | .flt, _ | .num _ _, _ | .rcd _ _, _ => by simp [InT]
  | .ptr sv t, k => by simp only [InT] at k ⊢; exact ⟨fun b hb => h b (k.1 b hb), InT.mono h t k.2⟩
  | .arr sv n t, k => by simp only [InT] at k ⊢; exact ⟨fun b hb => h b (k.1 b hb), InT.mono h t k.2⟩
  | .fn sv r ps, k => by simp only [InT] at k ⊢; exact ⟨fun b hb => h b (k.1 b hb), InT.mono h r k.2.1, InTs.mono h ps k.2.2⟩
theorem InTs.mono {S S' : Nat → Prop} (h : ∀ b, S b → S' b) : ∀ (l : List Ty), InTs S l → InTs S' l
  | [], _ => by simp [InTs]
  | t :: l, k => by simp only [InTs] at k ⊢; exact ⟨InT.mono h t k.1, InTs.mono h l k.2⟩
end
theorem keep_of {w w' : World} {b : Nat} (hlt : b < w.heap.size) (hb : w'.heap[b]? = w.heap[b]?) : b < w'.heap.size ∧ ∀ o, w'.cell? ⟨b, o, none⟩ = w.cell? ⟨b, o, none⟩ := by
  constructor
  · rcases Nat.lt_or_ge b w'.heap.size with h | h
    · exact h
    · rw [Array.getElem?_eq_none h, Array.getElem?_eq_getElem hlt] at hb; cases hb
  · intro o
    exact World.cell?_of_block (a := ⟨b, o, none⟩) hb
mutual
/-- A type reads as before where its blocks are as before. -/
theorem RdT.keepS {w w' : World} {S : Nat → Prop} (hk : ∀ b, S b → b < w.heap.size → w'.heap[b]? = w.heap[b]?) : ∀ (t : Ty), RdT w t → InT S t → RdT w' t
  | .none, _, _ | .void, _, _ | .flt, _, _ | .num _ _, _, _ | .rcd _ _, _, _ => by simp [RdT]
  | .ptr sv t, h, k => by
    simp only [RdT, InT] at h k ⊢
    exact ⟨h.1.keepB fun b hb hlt => keep_of hlt (hk b (k.1 b hb) hlt), RdT.keepS hk t h.2 k.2⟩
  | .arr sv n t, h, k => by
    simp only [RdT, InT] at h k ⊢
    exact ⟨h.1.keepB fun b hb hlt => keep_of hlt (hk b (k.1 b hb) hlt), RdT.keepS hk t h.2 k.2⟩
  | .fn sv r ps, h, k => by
    simp only [RdT, InT] at h k ⊢
    exact ⟨h.1.keepB fun b hb hlt => keep_of hlt (hk b (k.1 b hb) hlt), RdT.keepS hk r h.2.1 k.2.1, RdTs.keepS hk ps h.2.2 k.2.2⟩
theorem RdTs.keepS {w w' : World} {S : Nat → Prop} (hk : ∀ b, S b → b < w.heap.size → w'.heap[b]? = w.heap[b]?) : ∀ (l : List Ty), RdTs w l → InTs S l → RdTs w' l
  | [], _, _ => by simp [RdTs]
  | t :: l, h, k => by simp only [RdTs, InTs] at h k ⊢; exact ⟨RdT.keepS hk t h.1 k.1, RdTs.keepS hk l h.2 k.2⟩
end
theorem InTs.append {S : Nat → Prop} : ∀ {l1 l2 : List Ty}, InTs S l1 → InTs S l2 → InTs S (l1 ++ l2)
  | [], l2, _, h => h
  | t :: l1, l2, h, k => by simp only [List.cons_append, InTs] at h ⊢; exact ⟨h.1, h.2.append k⟩
theorem RdTs.append {w : World} : ∀ {l1 l2 : List Ty}, RdTs w l1 → RdTs w l2 → RdTs w (l1 ++ l2)
  | [], l2, _, h => h
  | t :: l1, l2, h, k => by simp only [List.cons_append, RdTs] at h ⊢; exact ⟨h.1, h.2.append k⟩
theorem ers_append : ∀ (l1 l2 : List Ty), ers (l1 ++ l2) = ers l1 ++ ers l2
  | [], l2 => rfl
  | t :: l1, l2 => by simp [ers, ers_append l1 l2]

mutual
theorem mkE_depth : ∀ (n : Nat) (l : List Int), depth (mkE n l).1 ≤ n
  | 0, _ => by simp [mkE, depth]
  | n + 1, [] => by simp [mkE, depth]
  | n + 1, k :: l => by
    unfold mkE
    split
    · simp [depth]
    split
    · simp [depth]
    split
    · simp [depth]
    split
    · simp only [depth]; have := mkE_depth n l; omega
    split
    · simp [depth]
    cases l with
    | nil => simp [depth]
    | cons c m =>
      dsimp only
      split
      · simp only [depth]; have := mkE_depth n m; omega
      split
      · simp [depth]
      split
      · simp [depth]
      split
      · simp only [depth]
        have := mkE_depth n m
        have := mkEs_depth n (min c.toNat 8) (mkE n m).2
        omega
      · simp [depth]
theorem mkEs_depth : ∀ (n c : Nat) (l : List Int), depths (mkEs n c l).1 ≤ n
  | n, 0, l => by unfold mkEs; simp [depths]
  | n, c + 1, l => by
    unfold mkEs
    simp only [depths]
    have := mkE_depth n l
    have := mkEs_depth n c (mkE n l).2
    omega
end
/-- One type more. -/
theorem mkEs_snoc : ∀ (n c : Nat) (l : List Int), mkEs n (c + 1) l = ((mkEs n c l).1 ++ [(mkE n (mkEs n c l).2).1], (mkE n (mkEs n c l).2).2)
  | n, 0, l => by simp [mkEs]
  | n, c + 1, l => by
    have ih := mkEs_snoc n c (mkE n l).2
    rw [mkEs.eq_def]
    simp only
    rw [ih]
    conv => rhs; rw [mkEs.eq_def]
    simp
end Go.Proofs.YteeojgepgjndgaaDoor
