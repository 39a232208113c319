/-
  Order: the program's. Own rows that are turned round, sorted, made of one of each.
-/
import Derived.Test.YtadcjmfednachaaSolW11
import Derived.Test.YtadcjmfednachaaSolSort
import Derived.Test.YtadcjmfednachaaSolComp
import Derived.Test.YtadcjmfednachaaShelf
namespace Go.Proofs.Ytadcjmfednachaa
open Go.RowKit
set_option linter.unusedVariables false
set_option linter.unusedSimpArgs false

/-- An own row that a call lays anew. -/
def LaidP (base : Nat) (w : World) (v v' : Value) (l : List Int) (r : Value) (e : Ending) (w' : World) : Prop :=
  e = .returned r ∧ OwnL 3 intC 1 base w' v' l ∧ w.grownBy w' v.ownBlock ∧ Below base w w'
theorem grownBy_below {base : Nat} {w w' : World} {o : Option Nat} (h : w.grownBy w' o) (hb : base ≤ w.heap.size) (ho : ∀ k, o = some k → base ≤ k) : Below base w w' := (Below.refl _ _).grown h hb ho
theorem own_parts {e : TypeId} {base : Nat} {w : World} {l : List Int} {A : Option Addr} {n c : Nat} (h : OwnL e intC 1 base w (.slice A n c) l) : n = l.length ∧ l.length ≤ maxLen ∧ (0 < l.length → ∃ g, A = some ⟨g, 0, none⟩ ∧ base ≤ g) := by
  refine ⟨?_, ?_, fun hp => ?_⟩
  · obtain ⟨A', c', e1, _⟩ := h; injection e1
  · have := (h.rdl intC_len).lenEq
    unfold maxLen
    omega
  · obtain ⟨g, h1, h2, _⟩ := h.addr hp
    exact ⟨g, h1, h2⟩
theorem grown_refl (w : World) (o : Option Nat) : w.grownBy w o := ⟨rfl, rfl, rfl, Nat.le_refl _, fun _ _ _ => rfl⟩
theorem rev_own {base n c : Nat} {A : Option Addr} {l : List Int} {w : World} (h : OwnL 3 intC 1 base w (.slice A n c) l) (hb : base ≤ w.heap.size) :
    Calls Try.prog 30 #[.slice A n c] w (LaidP base w (.slice A n c) (.slice A n c) l.reverse (.tuple #[])) := by
  obtain ⟨hn, hm, ha⟩ := own_parts h
  subst hn
  rcases Nat.eq_zero_or_pos l.length with h0 | hp
  · have := h
    rw [h0] at h ⊢
    refine (Try.slices_Reverse_int_empty A c w).mono ?_
    rintro e w' ⟨rfl, rfl⟩
    have hl : l = [] := List.eq_nil_of_length_eq_zero h0
    subst hl
    exact ⟨rfl, h, grown_refl _ _, Below.refl _ _⟩
  · obtain ⟨g, rfl, hg⟩ := ha hp
    obtain ⟨h1, h2, _, h3⟩ := h.holds
    refine (Try.slices_Reverse_int g 0 c l w h1 (by unfold maxLen at hm; omega)).mono ?_
    rintro e w' ⟨rfl, k, rfl⟩
    obtain ⟨q1, q2⟩ := h.laid (ts := l.reverse) (by simp) k #[]
    rw [grow_none] at q1 q2
    exact ⟨rfl, q1, q2, grownBy_below q2 hb fun k hk => by injection hk with hk; omega⟩
theorem sort_own {base n c : Nat} {A : Option Addr} {l : List Int} {w : World} (h : OwnL 3 intC 1 base w (.slice A n c) l) (hb : base ≤ w.heap.size) (hl : l.length < 4611686018427387904) :
    Calls Try.prog 32 #[.slice A n c] w (LaidP base w (.slice A n c) (.slice A n c) (srt l) (.tuple #[])) := by
  obtain ⟨hn, hm, ha⟩ := own_parts h
  subst hn
  rcases Nat.eq_zero_or_pos l.length with h0 | hp
  · rw [h0] at h ⊢
    refine (Try.slices_Sort_int_none A c w).mono ?_
    rintro e w' ⟨rfl, rfl⟩
    have hl : l = [] := List.eq_nil_of_length_eq_zero h0
    subst hl
    exact ⟨rfl, by unfold srt; simpa using h, grown_refl _ _, Below.refl _ _⟩
  · obtain ⟨g, rfl, hg⟩ := ha hp
    obtain ⟨h1, h2, _, h3⟩ := h.holds
    refine (Try.slices_Sort_int g 0 c l w h1 h2 hl).mono ?_
    rintro e w' ⟨rfl, k, os, rfl⟩
    obtain ⟨q1, q2⟩ := h.laid (ts := srt l) (srt_length l) k os
    exact ⟨rfl, q1, q2, grownBy_below q2 hb fun k hk => by injection hk with hk; omega⟩
theorem compact_le (l : List Int) : (Lib.compact l).length ≤ l.length := Lib.compact_length_le l
theorem compact_own {base n c : Nat} {A : Option Addr} {l : List Int} {w : World} (h : OwnL 3 intC 1 base w (.slice A n c) l) (hb : base ≤ w.heap.size) :
    Calls Try.prog 33 #[.slice A n c] w (LaidP base w (.slice A n c) (.slice A (Lib.compact l).length c) (Lib.compact l) (.slice A (Lib.compact l).length c)) := by
  obtain ⟨hn, hm, ha⟩ := own_parts h
  subst hn
  rcases Nat.eq_zero_or_pos l.length with h0 | hp
  · rw [h0] at h ⊢
    refine (Try.slices_Compact_int_empty A c w).mono ?_
    rintro e w' ⟨rfl, rfl⟩
    have hl : l = [] := List.eq_nil_of_length_eq_zero h0
    subst hl
    exact ⟨rfl, h, grown_refl _ _, Below.refl _ _⟩
  · obtain ⟨g, rfl, hg⟩ := ha hp
    obtain ⟨h1, h2, _, h3⟩ := h.holds
    have hc := compact_le l
    refine (Try.slices_Compact_int g 0 c l w h1 (by unfold maxLen at hm; omega) h3).mono ?_
    rintro e w' ⟨rfl, k, rfl⟩
    obtain ⟨q1, q2⟩ := h.laid (ts := Lib.compact l ++ List.replicate (l.length - (Lib.compact l).length) 0) (by simp; omega) k #[]
    rw [grow_none] at q1 q2
    have q3 := OwnL.cut intC_len q1 (k := (Lib.compact l).length) (by simp)
    rw [List.take_left'  rfl] at q3
    exact ⟨rfl, q3, q2, grownBy_below q2 hb fun k hk => by injection hk with hk; omega⟩
set_option maxRecDepth 100000 in
set_option maxHeartbeats 4000000 in
theorem order_any (A : Option Addr) (n c : Nat) (m : List (List Int)) (en : Int) (w : World) (hs : RdM w (.slice A n c) m) (hn : m.length ≤ 1048576) (hr20 : ∀ l ∈ m, l.length ≤ 1048576) :
    Calls Try.prog 13 #[.slice A n c, .int .i64 en] w (OwnP w (ordL m en)) := by
  obtain ⟨N, hN⟩ : ∃ N, N = (Sol.cleanG m).length := ⟨_, rfl⟩
  have hNm : N = m.length := by rw [hN, Sol.cleanG_length]
  have hn' : N ≤ 1048576 := by omega
  have HCL : Hid (∀ W, Below w.heap.size w W → Calls Try.prog 26 #[.slice A n c] W (MatP W (Sol.cleanG m))) := Lib.hid fun W hW => clean_any A n c m W (hs.next hW) hn hr20
  have HN := Lib.hid hN
  have hG := Sol.cln_clean m
  have HG := Lib.hid hG
  have HR := Lib.hid (clean_rows hr20)
  by_cases hen : Sol.InR N en
  · have hB := inB_yes hen
    have HB := Lib.hid hB
    have hen2 : Sol.InR (Sol.cleanG m).length en := by rw [← hN]; exact hen
    have HPL := Lib.hid (post_le hG hen2)
    have HE2 := Lib.hid hen2
    have HOL : Hid (ordL m en = (Sol.post (Sol.cleanG m) en).reverse) := Lib.hid (by unfold ordL; rw [if_pos (by rw [← hNm]; exact hen)])
    clear hs hn hr20 hN hNm hG hB hen hen2
    have hA1 := cell_alloc_if
    have hA2 := frozen_alloc_if
    have hA3 := cell_set_if
    go_enter Try.func13, Try.ntmps13
    go_wp2_with (go_at_call 26; (with_reducible refine (HCL.out _ (by (repeat' (first | (with_reducible exact Below.refl _ _) | (with_reducible assumption) | (with_reducible refine Below.setCell ?_ ?_ _) | (with_reducible refine Below.alloc ?_ ?_ _) | (with_reducible refine Below.drew ?_) | (with_reducible refine below_drewN ?_ _) | (with_reducible refine below_next ?_ (by with_reducible assumption)) | omega | (dsimp only; omega) | (simp only [World.size_alloc, World.size_setCell, World.size_drew, World.heap_drewN]; omega))))).mono ?_); rintro e w1 ⟨rfl, hom, hb1⟩; have HOM := Lib.hid hom; have hz1 := hb1.size; clear hom; rw [← HN.out])
    have hrd : RdM w1 (.slice (some ⟨w.heap.size, 0, none⟩) N N) (Sol.cleanG m) := by
      have h := HOM.out.rdm (by unfold maxLen; have := HN.out; omega)
      rw [← HN.out] at h
      exact h
    have HLF : Hid (∀ W, Below w1.heap.size w1 W → Calls Try.prog 28 #[.slice (some ⟨w.heap.size, 0, none⟩) N N, .int .i64 en] W (OwnP W (Sol.post (Sol.cleanG m) en))) := Lib.hid fun W hW =>
      left_any _ _ _ _ en W (hrd.next hW) (by have := HN.out; omega) HR.out HG.out HE2.out
    clear hrd
    go_wp2_with (first
      | (go_at_call 27; (with_reducible refine (ghas_any _ _ _ _ _ (by omega)).mono ?_); rintro e w3 ⟨rfl, rfl⟩; rw [HB.out])
      | (go_at_call 28; (with_reducible refine (HLF.out _ (by (repeat' (first | (with_reducible exact Below.refl _ _) | (with_reducible assumption) | (with_reducible refine Below.setCell ?_ ?_ _) | (with_reducible refine Below.alloc ?_ ?_ _) | (with_reducible refine Below.drew ?_) | (with_reducible refine below_drewN ?_ _) | (with_reducible refine below_next ?_ (by with_reducible assumption)) | omega | (dsimp only; omega) | (simp only [World.size_alloc, World.size_setCell, World.size_drew, World.heap_drewN]; omega))))).mono ?_); rintro e w4 ⟨A4, c4, rfl, how, hb4⟩; have HOW := Lib.hid how; have hz4 := hb4.size; clear how)
      | (go_at_call 30; (with_reducible refine (rev_own HOW.out (by omega)).mono ?_); rintro e w5 ⟨rfl, how, hg5, hb5⟩; have HOW5 := Lib.hid how; clear how hg5))
    go_wp2
    go_ret
    rw [HOL.out]
    refine ⟨A4, c4, by rw [List.length_reverse]; rfl, by rw [List.length_reverse]; exact HOW5.out.lower (by omega), ?_⟩
    exact (hb1.trans (hb4.mono (by omega))).trans (hb5.mono (by omega))
  · have hB := inB_no hen
    have HB := Lib.hid hB
    have HOL : Hid (ordL m en = []) := Lib.hid (by unfold ordL; rw [if_neg (by rw [← hNm]; exact hen)])
    clear hs hn hr20 hN hNm hG hB hen
    have hA1 := cell_alloc_if
    have hA2 := frozen_alloc_if
    have hA3 := cell_set_if
    go_enter Try.func13, Try.ntmps13
    go_wp2_with (first
      | (go_at_call 26; (with_reducible refine (HCL.out _ (by (repeat' (first | (with_reducible exact Below.refl _ _) | (with_reducible assumption) | (with_reducible refine Below.setCell ?_ ?_ _) | (with_reducible refine Below.alloc ?_ ?_ _) | (with_reducible refine Below.drew ?_) | (with_reducible refine below_drewN ?_ _) | (with_reducible refine below_next ?_ (by with_reducible assumption)) | omega | (dsimp only; omega) | (simp only [World.size_alloc, World.size_setCell, World.size_drew, World.heap_drewN]; omega))))).mono ?_); rintro e w1 ⟨rfl, hom, hb1⟩; have HOM := Lib.hid hom; have hz1 := hb1.size; clear hom; rw [← HN.out])
      | (go_at_call 27; (with_reducible refine (ghas_any _ _ _ _ _ (by omega)).mono ?_); rintro e w3 ⟨rfl, rfl⟩; rw [HB.out]))
    go_ret
    rw [HOL.out]
    exact ⟨none, 0, rfl, OwnL.nil _ _ _ _ _, hb1⟩
end Go.Proofs.Ytadcjmfednachaa
