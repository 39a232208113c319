/-
  What the statement of the order asks. No program in sight.
-/
import Derived.Test.YtadcjmfednachaaSolA
namespace Go.Proofs.Ytadcjmfednachaa.Sol
set_option linter.unusedVariables false

def posI (l : List Int) (x : Int) : Int := if x ∈ l then (l.idxOf x : Int) + 1 else 0
def placeL (n : Nat) (l : List Int) : List Int := (List.range n).map fun (k : Nat) => posI l k
theorem posI_pos {l : List Int} {x : Int} : 0 < posI l x ↔ x ∈ l := by
  unfold posI
  split
  · rename_i h; exact ⟨fun _ => h, fun _ => by omega⟩
  · rename_i h; exact ⟨fun h => by omega, fun h2 => absurd h2 h⟩
theorem posI_out {l : List Int} {x : Int} (h : x ∉ l) : posI l x = 0 := by unfold posI; rw [if_neg h]
theorem posI_snoc {l : List Int} {x : Int} (hx : x ∉ l) (y : Int) : posI (l ++ [x]) y = if y = x then (l.length : Int) + 1 else posI l y := by
  unfold posI
  by_cases e : y = x
  · subst e
    rw [if_pos (by simp), if_pos rfl, List.idxOf_append, if_neg hx]
    simp
  · rw [if_neg e]
    by_cases h : y ∈ l
    · rw [if_pos (by simp [h]), if_pos h, List.idxOf_append, if_pos h]
    · rw [if_neg (by simp [h, e]), if_neg h]
theorem placeL_nil (n : Nat) : placeL n [] = List.replicate n 0 := by
  unfold placeL
  refine List.ext_getElem? fun i => ?_
  rw [List.getElem?_map, List.getElem?_replicate]
  by_cases h : i < n
  · rw [List.getElem?_range h, if_pos h]; simp [posI]
  · rw [if_neg h, List.getElem?_eq_none (by simpa using h)]; rfl
theorem placeL_length (n : Nat) (l : List Int) : (placeL n l).length = n := by simp [placeL]
theorem placeL_at {n k : Nat} {l : List Int} (hk : k < n) : (placeL n l).getD k 0 = posI l k := by
  unfold placeL
  rw [List.getD_eq_getElem?_getD, List.getElem?_map, List.getElem?_range hk]; rfl
theorem placeL_snoc {n k : Nat} {l : List Int} (hk : k < n) (hx : (k : Int) ∉ l) : placeL n (l ++ [(k : Int)]) = (placeL n l).set k ((l.length : Int) + 1) := by
  refine List.ext_getElem (by simp [placeL_length]) fun i h1 h2 => ?_
  rw [placeL_length] at h1
  have e1 := placeL_at (l := l ++ [(k : Int)]) h1
  rw [List.getD_eq_getElem?_getD, List.getElem?_eq_getElem (by rw [placeL_length]; exact h1), Option.getD_some] at e1
  rw [e1, posI_snoc hx, List.getElem_set]
  have e2 := placeL_at (l := l) h1
  rw [List.getD_eq_getElem?_getD, List.getElem?_eq_getElem (by rw [placeL_length]; exact h1), Option.getD_some] at e2
  rw [e2]
  by_cases e : k = i
  · subst e; rw [if_pos rfl, if_pos rfl]
  · rw [if_neg (by omega), if_neg e]
structure OrdF (G : List (List Int)) (e : Int) (l : List Int) : Prop where
  nd : l.Nodup
  mem : ∀ k, k ∈ l ↔ InR G.length e ∧ Rch G e k
  head : ∀ x, l[0]? = some x → x = e
  ord : ∀ i k, i ∈ l → k ∈ rowI G i → posI l k ≤ posI l i → Rch G k i
theorem ord_law {G : List (List Int)} (hG : Cln G) (e : Int) : OrdF G e (if InR G.length e then (post G e).reverse else []) := by
  by_cases he : InR G.length e
  · rw [if_pos he]
    obtain ⟨h1, h2, ⟨m, h3⟩, h4⟩ := post_law hG he
    have hnd : (post G e).reverse.Nodup := by unfold List.Nodup at h1 ⊢; rw [List.pairwise_reverse]; exact h1.imp Ne.symm
    refine ⟨hnd, fun k => ?_, fun x hx => ?_, fun i k hi hk hp => ?_⟩
    · rw [List.mem_reverse, h2]; exact ⟨fun h => ⟨he, h⟩, And.right⟩
    · rw [h3] at hx
      simp at hx
      exact hx.symm
    · rw [List.mem_reverse] at hi
      obtain ⟨a, b, hab⟩ := List.append_of_mem hi
      rcases h4 a i b hab k hk with hka | hr
      · exfalso
        rw [hab] at hp hnd h1
        have hr : (a ++ i :: b).reverse = b.reverse ++ (i :: a.reverse) := by simp
        rw [hr] at hp
        have hib : i ∉ b.reverse := by
          rw [List.mem_reverse]
          exact (List.nodup_cons.1 (List.nodup_append.1 h1).2.1).1
        have hdis := (List.nodup_append.1 h1).2.2
        have hkb : k ∉ b.reverse := fun h => hdis k hka k (List.mem_cons_of_mem _ (List.mem_reverse.1 h)) rfl
        have hki : k ≠ i := fun h => hdis k hka i (by simp) h
        have p1 : posI (b.reverse ++ (i :: a.reverse)) i = (b.length : Int) + 1 := by
          unfold posI
          rw [if_pos (by simp), List.idxOf_append, if_neg hib]
          simp
        have p2 : (b.length : Int) + 1 < posI (b.reverse ++ (i :: a.reverse)) k := by
          unfold posI
          rw [if_pos (by simp [hka]), List.idxOf_append, if_neg hkb, List.idxOf_cons]
          have : (i == k) = false := by simp; exact fun h => hki h.symm
          rw [this]
          simp
          omega
        rw [p1] at hp
        omega
      · exact hr
  · rw [if_neg he]
    exact ⟨List.nodup_nil, fun k => ⟨fun h => (by cases h), fun h => absurd h.1 he⟩, fun x hx => (by simp at hx), fun i k hi => (by cases hi)⟩
end Go.Proofs.Ytadcjmfednachaa.Sol
