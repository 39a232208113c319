/-
  Order: the reference's.
-/
import Derived.Test.YtadcjmfednachaaSolW10
namespace Go.Proofs.Ytadcjmfednachaa
open Go.RowKit
set_option linter.unusedVariables false
set_option linter.unusedSimpArgs false

/-- What both sides' Order answers. -/
def ordL (m : List (List Int)) (en : Int) : List Int := if Sol.InR m.length en then (Sol.post (Sol.cleanG m) en).reverse else []
theorem take_rev {l : List Int} {k : Nat} {y : Int} (h : k < l.length) (hy : l[l.length - 1 - k]? = some y) : l.reverse.take (k + 1) = l.reverse.take k ++ [y] := by
  rw [List.take_add_one, List.getElem?_reverse h, hy]; rfl
set_option maxRecDepth 100000 in
set_option maxHeartbeats 4000000 in
theorem rorder_any (A : Option Addr) (n c : Nat) (m : List (List Int)) (en : Int) (w : World) (hs : RdM w (.slice A n c) m) (hn : m.length ≤ 1048576) (hr20 : ∀ l ∈ m, l.length ≤ 1048576) :
    Calls Try.prog 14 #[.slice A n c, .int .i64 en] w (OwnP w (ordL m en)) := by
  obtain ⟨i0, hi0, hz0, hz1, hz2⟩ := info_parts int_info
  obtain ⟨A', c', e⟩ := hs.form
  injection e with e1 e2 e3
  subst e2
  clear e1 e3 A' c'
  by_cases hen : Sol.InR m.length en
  · have hen0 := hen
    unfold Sol.InR at hen
    obtain ⟨eN, rfl⟩ : ∃ k : Nat, en = (k : Int) := ⟨en.toNat, by omega⟩
    have heN : eN < m.length := by omega
    have hwk := walk_any A m.length c m w hs hn hr20 rfl m.length eN [] [] none none 0 0 w (Below.refl _ _) (OwnL.nil _ _ _ _ _) (OwnL.nil _ _ _ _ _) (fun q h => by cases h) ⟨by simp, by simp⟩ heN (by simp) (by simp) (by simp)
    have hpl := post_le (Sol.cln_clean m) (e := (eN : Int)) (by rw [Sol.cleanG_length]; exact hen0)
    rw [Sol.cleanG_length] at hpl
    obtain ⟨st, hst⟩ : ∃ st, st = Sol.walkF (Sol.cleanG m) m.length eN ([], []) := ⟨_, rfl⟩
    rw [← hst] at hwk
    have hpo : Sol.post (Sol.cleanG m) eN = st.2 := by rw [hst]; unfold Sol.post; rw [Sol.cleanG_length]
    have hol : ordL m eN = st.2.reverse := by unfold ordL; rw [if_pos hen0, hpo]
    rw [hpo] at hpl
    rw [hol]
    obtain ⟨sl, left⟩ := st
    obtain ⟨N, hN⟩ : ∃ N, N = m.length := ⟨_, rfl⟩
    rw [← hN] at hn heN hwk hpl hst ⊢
    dsimp only at hpl ⊢
    have d1 : decide ((eN : Int) < 0) = false := by simp
    have d2 : decide ((N : Int) ≤ (eN : Int)) = false := by simp; omega
    have d3 : decide (N ≤ eN) = false := by simp; omega
    simp only [List.length_nil] at hwk
    have HWK := Lib.hid hwk
    clear hwk hpo hol hst hen0 hen hs hr20 hN
    have hA1 := cell_alloc_if
    have hA2 := frozen_alloc_if
    have hA3 := cell_set_if
    go_enter Try.func14, Try.ntmps14
    go_wp2_with (go_at_call 31; (with_reducible refine HWK.out.mono ?_); rintro e w1 ⟨B2, d2', B3, d3', rfl, htw⟩; have HL := Lib.hid htw.own3; have hb1 := htw.low; have hbz := htw.low.size; clear htw)
    go_loopw [7, 8] (fun o jj wr => ∃ (k : Nat) (A7 : Option Addr) (c7 : Nat), k ≤ left.length ∧ jj = .int .i64 ((left.length : Int) - 1 - k) ∧ o = .slice A7 k c7 ∧ Below w.heap.size w wr ∧
      Hid (OwnL 3 intC 1 w.heap.size wr (.slice A7 k c7) (left.reverse.take k)) ∧ Hid (OwnL 3 intC 1 w.heap.size wr (.slice B3 left.length d3') left) ∧ (∀ q, (Value.slice A7 k c7).ownBlock = some q → (Value.slice B3 left.length d3').ownBlock ≠ some q)) (fun _ jj _ => (intOf jj + 1).toNat)
    case atStart => exact ⟨0, none, 0, by omega, by simp, rfl, hb1, Lib.hid (by simpa using OwnL.nil _ _ _ _ _), HL, fun q h => by cases h⟩
    case round =>
      clear hb1 hbz HL
      obtain ⟨k, A7, c7, hk, rfl, rfl, hXb, HO, HL, hne⟩ := hrel
      have hXz := hXb.size
      by_cases hlt : k < left.length
      · obtain ⟨y, hy⟩ : ∃ y, left[left.length - 1 - k]? = some y := ⟨_, List.getElem?_eq_getElem (by omega)⟩
        obtain ⟨b3, off3, e3, _, hb3, p3⟩ := (HL.out.rdl intC_len).intAt hy
        have HTK := Lib.hid (take_rev hlt hy)
        have hjj : (left.length : Int) - 1 - k = ((left.length - 1 - k : Nat) : Int) := by omega
        have hjl : left.length - 1 - k < left.length := by omega
        have hkl : k = left.length - 1 - (left.length - 1 - k) := by omega
        have HT7 : Hid ((left.reverse.take k).length = k) := Lib.hid (by simp; omega)
        have HNE := Lib.hid hne
        obtain ⟨j, hj⟩ : ∃ j, j = left.length - 1 - k := ⟨_, rfl⟩
        rw [← hj] at hy p3 hjj hjl hkl
        rw [hjj]
        have HJ := Lib.hid hj
        have HK := Lib.hid hkl
        subst e3
        have hk20 : k ≤ 1048576 := by omega
        clear hy hjj hj hkl hne
        go_wp2_with (at_builtin; refine wpList_app (e := 3) (f := intC) rfl _ _ 28 rfl w.heap.size i0 _ 8 Try.underlying28 hi0 hz0 hz1 hz2 rfl (by decide) intC_len (.slice A7 k c7) (left.reverse.take k) rfl ?c0 _ 1 _ [y] rfl ?c1 (intC_one _) (by decide) ?c2 ?c3 ?_)
        case c0 => exact HO.out.next (by (repeat' (first | (with_reducible exact Below.refl _ _) | (with_reducible assumption) | (with_reducible refine Below.setCell ?_ ?_ _) | (with_reducible refine Below.alloc ?_ ?_ _) | (with_reducible refine Below.drew ?_) | (with_reducible refine below_drewN ?_ _) | (with_reducible refine below_next ?_ (by with_reducible assumption)) | omega | (dsimp only; omega) | (simp only [World.size_alloc, World.size_setCell, World.size_drew, World.heap_drewN]; omega))))
        case c1 => exact own_one _ _ _
        case c2 => first | omega | (simp; omega)
        case c3 => first | omega | (simp; omega)
        intro A9 c9 w6 hown hg hB hor
        have hbb : Below w.heap.size w w6 := hXb.trans (Below.trans ((Below.refl _ _).alloc (by omega) _) hB)
        have HL6 : Hid (OwnL 3 intC 1 w.heap.size w6 (.slice (some ⟨b3, off3, none⟩) left.length d3') left) := Lib.hid (by
          have h1 := HL.out.next (w' := wr.alloc (.cells #[.int .i64 y] 3)) (by (repeat' (first | (with_reducible exact Below.refl _ _) | (with_reducible assumption) | (with_reducible refine Below.setCell ?_ ?_ _) | (with_reducible refine Below.alloc ?_ ?_ _) | (with_reducible refine Below.drew ?_) | (with_reducible refine below_drewN ?_ _) | (with_reducible refine below_next ?_ (by with_reducible assumption)) | omega | (dsimp only; omega) | (simp only [World.size_alloc, World.size_setCell, World.size_drew, World.heap_drewN]; omega))))
          exact h1.keep fun q hq => hg.block q (h1.lt hq).2 fun e => HNE.out q e.symm hq)
        have HN6 : Hid (∀ q, (Value.slice A9 (k + 1) c9).ownBlock = some q → (Value.slice (some ⟨b3, off3, none⟩) left.length d3').ownBlock ≠ some q) := Lib.hid (by
          intro q hq
          rcases hor with e | e
          · exact HNE.out q (e ▸ hq)
          · rw [e] at hq; injection hq with hq
            intro e2
            have := (HL.out.lt e2).2
            try simp at hq
            omega)
        have HO6 : Hid (OwnL 3 intC 1 w.heap.size w6 (.slice A9 (k + 1) c9) (left.reverse.take (k + 1))) := Lib.hid (by rw [HTK.out]; exact hown)
        clear hown hg hB hor
        go_wp2
        go_roundw
        case rel => exact ⟨k + 1, A9, c9, by omega, by have := HJ.out; go_num, rfl, hbb, HO6, HL6, HN6.out⟩
        case measure => first | (simp [intOf]; done) | (simp [intOf]; omega)
      · obtain rfl : k = left.length := by omega
        have HE : Hid (left.reverse.take left.length = left.reverse) := Lib.hid (List.take_of_length_le (by simp))
        have HLR : Hid (left.reverse.length = left.length) := Lib.hid (by simp)
        have hjj : (left.length : Int) - 1 - left.length = -1 := by omega
        rw [hjj]
        clear hjj hne
        go_wp2
        go_ret
        exact ⟨A7, c7, by rw [HLR.out]; rfl, by rw [HLR.out, ← HE.out]; simpa using HO.out, hXb⟩
  · have hol : ordL m en = [] := by unfold ordL; rw [if_neg hen]
    rw [hol]
    obtain ⟨N, hN⟩ : ∃ N, N = m.length := ⟨_, rfl⟩
    rw [← hN] at hn hen ⊢
    clear hs hr20 hol hN
    unfold Sol.InR at hen
    by_cases h0 : en < 0
    · have d1 : decide (en < 0) = true := by simpa using h0
      have hA1 := cell_alloc_if
      have hA2 := frozen_alloc_if
      have hA3 := cell_set_if
      go_enter Try.func14, Try.ntmps14
      go_wp2
      go_ret
      exact ⟨none, 0, rfl, OwnL.nil _ _ _ _ _, by (repeat' (first | (with_reducible exact Below.refl _ _) | (with_reducible assumption) | (with_reducible refine Below.setCell ?_ ?_ _) | (with_reducible refine Below.alloc ?_ ?_ _) | (with_reducible refine Below.drew ?_) | (with_reducible refine below_drewN ?_ _) | (with_reducible refine below_next ?_ (by with_reducible assumption)) | omega | (dsimp only; omega) | (simp only [World.size_alloc, World.size_setCell, World.size_drew, World.heap_drewN]; omega)))⟩
    · have d1 : decide (en < 0) = false := by simpa using h0
      have h2 : (N : Int) ≤ en := by omega
      have d2 : decide ((N : Int) ≤ en) = true := by simpa using h2
      have hA1 := cell_alloc_if
      have hA2 := frozen_alloc_if
      have hA3 := cell_set_if
      go_enter Try.func14, Try.ntmps14
      go_wp2
      go_ret
      exact ⟨none, 0, rfl, OwnL.nil _ _ _ _ _, by (repeat' (first | (with_reducible exact Below.refl _ _) | (with_reducible assumption) | (with_reducible refine Below.setCell ?_ ?_ _) | (with_reducible refine Below.alloc ?_ ?_ _) | (with_reducible refine Below.drew ?_) | (with_reducible refine below_drewN ?_ _) | (with_reducible refine below_next ?_ (by with_reducible assumption)) | omega | (dsimp only; omega) | (simp only [World.size_alloc, World.size_setCell, World.size_drew, World.heap_drewN]; omega)))⟩
end Go.Proofs.Ytadcjmfednachaa
