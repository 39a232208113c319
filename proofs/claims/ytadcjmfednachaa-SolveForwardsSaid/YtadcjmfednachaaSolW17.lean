/-
  Rows of an own matrix that grow by Add.
-/
import Derived.Test.YtadcjmfednachaaSolW16
namespace Go.Proofs.Ytadcjmfednachaa
open Go.RowKit
set_option linter.unusedVariables false
set_option linter.unusedSimpArgs false

/-- Rows that are rising and hold numbers of U alone. -/
def Small (U : List Int) (a : List (List Int)) : Prop := ∀ (i : Nat) (l : List Int), a[i]? = some l → Sol.Rising l ∧ ∀ x ∈ l, x ∈ U
section
variable {U : List Int} {a : List (List Int)} {i : Nat} {l : List Int} {x : Int}
theorem Small.len (h : Small U a) (hl : a[i]? = some l) : l.length ≤ U.length := Sol.nodup_sub_len (Sol.rising_nodup (h i l hl).1) (h i l hl).2
theorem Small.add (h : Small U a) (hl : a[i]? = some l) (hx : x ∈ U) : Small U (a.set i (Sol.addI l x)) := by
  intro j l' hj
  rw [List.getElem?_set] at hj
  split at hj
  · split at hj
    · injection hj with hj
      subst hj
      refine ⟨Sol.addI_rising (h i l hl).1 x, fun y hy => ?_⟩
      rcases Sol.mem_addI.1 hy with rfl | hy
      · exact hx
      · exact (h i l hl).2 y hy
    · cases hj
  · exact h j l' hj
theorem Small.of_inv {n : Nat} {P : Int → Int → Prop} (h : Sol.Inv n P U a) : Small U a := by
  intro i l hl
  have hi : i < a.length := (List.getElem?_eq_some_iff.1 hl).1
  have hr : Sol.InR n (i : Int) := by unfold Sol.InR; have := h.len; omega
  have hd : a.getD ((i : Int)).toNat [] = l := by rw [Int.toNat_natCast, List.getD_eq_getElem?_getD, hl]; rfl
  have h1 := h.rise i (by have := h.len; omega)
  have h2 := h.snd i hr
  rw [hd] at h2
  rw [Int.toNat_natCast] at hd
  rw [hd] at h1
  exact ⟨h1, fun x hx => (h2 x hx).2⟩
theorem Small.mem (h : Small U a) {k : Nat} (hx : x ∈ a.getD k []) : x ∈ U := by
  rw [List.getD_eq_getElem?_getD] at hx
  cases hk : a[k]? with
  | none => rw [hk] at hx; simp at hx
  | some l => rw [hk] at hx; exact (h k l hk).2 x hx
end
theorem passL_nil (but c : List Int) : Sol.passL but c [] = c := rfl
theorem passL_snoc (but c xs : List Int) (x : Int) : Sol.passL but c (xs ++ [x]) = if x ∈ but then Sol.passL but c xs else Sol.addI (Sol.passL but c xs) x := by
  unfold Sol.passL; rw [List.foldl_append]; rfl
theorem passL_step (but c : List Int) {xs : List Int} {j : Nat} {x : Int} (hx : xs[j]? = some x) : Sol.passL but c (xs.take (j + 1)) = if x ∈ but then Sol.passL but c (xs.take j) else Sol.addI (Sol.passL but c (xs.take j)) x := by
  rw [take_step hx, passL_snoc]
/-- A row of an own matrix, to be added to. -/
theorem OwnM.addRow {tR : TypeId} {base i : Nat} {wr : World} {a : List (List Int)} {l : List Int} (h : OwnM 3 tR base wr base a) (hl : a[i]? = some l) (hl20 : l.length ≤ 1048576) (hbase : base ≤ wr.heap.size) :
    ∃ A7 c7, wr.cell? ⟨base, i, none⟩ = some (.slice A7 l.length c7) ∧ wr.frozen? ⟨base, i, none⟩ = false ∧ RdL intC 1 wr (.slice A7 l.length c7) l ∧ (∀ q, (Value.slice A7 l.length c7).ownBlock = some q → q ≠ base) ∧ base < wr.heap.size ∧
      (∀ (x : Int) (W : World), Below wr.heap.size wr W → Calls Try.prog 34 #[.slice A7 l.length c7, .int .i64 x] W (AddP W (.slice A7 l.length c7) l x)) ∧
      ∀ (x : Int) (W w7 : World) (A8 : Option Addr) (c8 : Nat), Below wr.heap.size wr W → Below W.heap.size W w7 →
        ((x ∈ l ∧ .slice A8 (Sol.addI l x).length c8 = Value.slice A7 l.length c7) ∨ (x ∉ l ∧ OwnL 3 intC 1 W.heap.size w7 (.slice A8 (Sol.addI l x).length c8) (Sol.addI l x))) →
        OwnM 3 tR base (w7.setCell ⟨base, i, none⟩ (.slice A8 (Sol.addI l x).length c8)) base (a.set i (Sol.addI l x)) ∧ (∃ u, w7.cell? ⟨base, i, none⟩ = some u) ∧ w7.frozen? ⟨base, i, none⟩ = false := by
  obtain ⟨vs, hV⟩ := h
  obtain ⟨A7, c7, hv7, p2, f2, how⟩ := hV.at_ hl
  refine ⟨A7, c7, p2, f2, how.rdl intC_len, fun q hq => hV.off i _ q hv7 hq, hV.lt, fun x W hW => radd_any A7 l.length c7 l x W ((how.rdl intC_len).next hW) hl20, fun x W w7 A8 c8 hW hb hor => ?_⟩
  have hV2 := hV.next hW
  have hz := hW.size
  obtain ⟨A6, c6, hq1, hq2, hq3, _⟩ := (hV2.next hb).at_ hl
  refine ⟨⟨_, OwnV.added hV2 hv7 hl hb (by omega) hor⟩, ⟨_, hq2⟩, hq3⟩
/-- A row that is ranged over while one of the matrix is turned. -/
theorem RdL.past {base i : Nat} {wr w7 : World} {A : Option Addr} {n c : Nat} {l : List Int} {v : Value} (h : RdL intC 1 wr (.slice A n c) l) (hne : ∀ q, (Value.slice A n c).ownBlock = some q → q ≠ base) (hb : Below wr.heap.size wr w7) :
    RdL intC 1 (w7.setCell ⟨base, i, none⟩ v) (.slice A n c) l := by
  refine h.keepB fun b hq hlt => ?_
  have hz := hb.size
  have hnb := hne b hq
  refine ⟨by simp only [World.setCell, Array.size_modify]; omega, fun o => ?_⟩
  have e : (w7.setCell ⟨base, i, none⟩ v).heap[b]? = wr.heap[b]? := by
    rw [← hb.block b hlt]
    simp only [World.setCell, Array.getElem?_modify]
    rw [if_neg (Ne.symm hnb)]
  exact World.cell?_of_block (a := ⟨b, o, none⟩) e
end Go.Proofs.Ytadcjmfednachaa
