/-
  The program's Reach.
-/
import Derived.Test.YtadcjmfednachaaSolW6
namespace Go.Proofs.Ytadcjmfednachaa
open Go.RowKit
set_option linter.unusedVariables false
set_option linter.unusedSimpArgs false

/-- A row of Booleans is answered. -/
def BoolP (w : World) (l : List Bool) (e : Ending) (w' : World) : Prop := ∃ b, e = .returned (.slice (some ⟨b, 0, none⟩) l.length l.length) ∧ BoolR 4 w' b l ∧ Below w.heap.size w w'
theorem markL_snoc (out : List Bool) (ks : List Int) (k : Int) : Sol.markL out (ks ++ [k]) = (Sol.markL out ks).set k.toNat true := by
  unfold Sol.markL; rw [List.foldl_append]; rfl
theorem inB_yes {n : Nat} {i : Int} (h : Sol.InR n i) : inB n i = true := by unfold inB; unfold Sol.InR at h; simp [h.1, h.2]
theorem inB_no {n : Nat} {i : Int} (h : ¬ Sol.InR n i) : inB n i = false := by unfold inB; unfold Sol.InR at h; simpa using h
theorem clean_rows {m : List (List Int)} (h : ∀ l ∈ m, l.length ≤ 1048576) : ∀ l ∈ Sol.cleanG m, l.length ≤ 1048576 := by
  intro l hl
  unfold Sol.cleanG at hl
  obtain ⟨l0, h0, rfl⟩ := List.mem_map.1 hl
  exact Nat.le_trans (List.length_filter_le _ _) (h l0 h0)
theorem post_le {G : List (List Int)} (hG : Sol.Cln G) {e : Int} (he : Sol.InR G.length e) : (Sol.post G e).length ≤ G.length := by
  obtain ⟨h1, h2, _⟩ := Sol.post_law hG he
  exact Sol.nodup_le _ _ h1 fun k hk => ((h2 k).1 hk).inR hG he
set_option maxRecDepth 100000 in
set_option maxHeartbeats 4000000 in
theorem reach_any (A : Option Addr) (n c : Nat) (m : List (List Int)) (en : Int) (w : World) (hs : RdM w (.slice A n c) m) (hn : m.length ≤ 1048576) (hr20 : ∀ l ∈ m, l.length ≤ 1048576) :
    Calls Try.prog 10 #[.slice A n c, .int .i64 en] w (BoolP w (Sol.reachB (Sol.cleanG m) en)) := by
  obtain ⟨j0, hj0, hy0, hy1, hy2⟩ := info_parts bool_info
  obtain ⟨N, hN⟩ : ∃ N, N = (Sol.cleanG m).length := ⟨_, rfl⟩
  have hNm : N = m.length := by rw [hN, Sol.cleanG_length]
  have hn' : N ≤ 1048576 := by omega
  have HCL : Hid (∀ W, Below w.heap.size w W → Calls Try.prog 26 #[.slice A n c] W (MatP W (Sol.cleanG m))) := Lib.hid fun W hW => clean_any A n c m W (hs.next hW) hn hr20
  have HN := Lib.hid hN
  have hG := Sol.cln_clean m
  have HG := Lib.hid hG
  have HR := Lib.hid (clean_rows hr20)
  by_cases hen : Sol.InR N en
  · have hB := inB_yes hen
    have HB := Lib.hid hB
    have hen2 : Sol.InR (Sol.cleanG m).length en := by rw [← hN]; exact hen
    have HPL := Lib.hid (post_le hG hen2)
    have HE2 := Lib.hid hen2
    have HRE := Lib.hid (Sol.reach_post hG hen2)
    clear hs hn hr20 hN hNm hG hB hen hen2
    have hA1 := cell_alloc_if
    have hA2 := frozen_alloc_if
    have hA3 := cell_set_if
    go_enter Try.func10, Try.ntmps10
    go_wp2_with (first
      | (go_at_call 26; (with_reducible refine (HCL.out _ (by (repeat' (first | (with_reducible exact Below.refl _ _) | (with_reducible assumption) | (with_reducible refine Below.setCell ?_ ?_ _) | (with_reducible refine Below.alloc ?_ ?_ _) | (with_reducible refine Below.drew ?_) | (with_reducible refine below_drewN ?_ _) | (with_reducible refine below_next ?_ (by with_reducible assumption)) | omega | (dsimp only; omega) | (simp only [World.size_alloc, World.size_setCell, World.size_drew, World.heap_drewN]; omega))))).mono ?_); rintro e w1 ⟨rfl, hom, hb1⟩; have HOM := Lib.hid hom; have hz1 := hb1.size; clear hom; rw [← HN.out])
      | (refine wpList_make_full _ rfl (.tmp 12) (.tmp 12) 25 rfl w1.heap.size 4 j0 _ 1 Try.underlying25 hj0 hy0 hy1 .i64 .i64 N N N rfl rfl rfl rfl ?m1 ?m2 ?m3 ?_))
    case m1 => rw [hy2]; omega
    case m2 => unfold maxLen; omega
    case m3 => exact Nat.le_refl _
    intro w2 hrow hg2
    rw [toList_madeCells_one] at hrow
    have hblk := block_full hrow
    have hbw2 : Below w1.heap.size w1 w2 := (Below.refl _ _).grown hg2 (Nat.le_refl _) (fun k hk => by cases hk)
    have hlt2 : w1.heap.size < w2.heap.size := (Array.getElem?_eq_some_iff.1 hblk).1
    have HBR : Hid (BoolR 4 w2 w1.heap.size (List.replicate N false)) := Lib.hid (by unfold BoolR; rw [hblk]; simp)
    have hrd : RdM w2 (.slice (some ⟨w.heap.size, 0, none⟩) N N) (Sol.cleanG m) := by
      have h := (HOM.out.next hbw2).rdm (by unfold maxLen; have := HN.out; omega)
      rw [← HN.out] at h
      exact h
    have HLF : Hid (∀ W, Below w2.heap.size w2 W → Calls Try.prog 28 #[.slice (some ⟨w.heap.size, 0, none⟩) N N, .int .i64 en] W (OwnP W (Sol.post (Sol.cleanG m) en))) := Lib.hid fun W hW =>
      left_any _ _ _ _ en W (hrd.next hW) (by have := HN.out; omega) HR.out HG.out HE2.out
    clear hrow hg2 hblk hrd
    go_wp2_with (first
      | (go_at_call 27; (with_reducible refine (ghas_any _ _ _ _ _ (by omega)).mono ?_); rintro e w3 ⟨rfl, rfl⟩; rw [HB.out])
      | (go_at_call 28; (with_reducible refine (HLF.out _ (by (repeat' (first | (with_reducible exact Below.refl _ _) | (with_reducible assumption) | (with_reducible refine Below.setCell ?_ ?_ _) | (with_reducible refine Below.alloc ?_ ?_ _) | (with_reducible refine Below.drew ?_) | (with_reducible refine below_drewN ?_ _) | (with_reducible refine below_next ?_ (by with_reducible assumption)) | omega | (dsimp only; omega) | (simp only [World.size_alloc, World.size_setCell, World.size_drew, World.heap_drewN]; omega))))).mono ?_); rintro e w4 ⟨A4, c4, rfl, how, hb4⟩; have HOW := Lib.hid (how.rdl intC_len); have HOWN := Lib.hid how; have hz4 := hb4.size; clear how))
    obtain ⟨l, hl⟩ : ∃ l, l = Sol.post (Sol.cleanG m) en := ⟨_, rfl⟩
    have HIN : Hid (∀ k ∈ l, Sol.InR N k) := Lib.hid fun k hk => by
      rw [HN.out]
      exact ((Sol.post_law HG.out HE2.out).2.1 k |>.1 (hl ▸ hk)).inR HG.out HE2.out
    rw [← hl] at HOW HOWN HPL HRE ⊢
    have hll : l.length ≤ 1048576 := by have := HPL.out; have := HN.out; omega
    clear hl
    have hbr4 := HBR.out.next hb4
    have hbww : Below w.heap.size w w4 := hb1.trans ((hbw2.mono hz1).trans (hb4.mono (by omega)))
    have HBR4 := Lib.hid hbr4
    clear hbr4
    go_loopw [21] (fun i wr => ∃ k : Nat, k ≤ l.length ∧ i = .int .i64 k ∧ Below w.heap.size w wr ∧ Below w1.heap.size w4 wr ∧ w4.heap.size ≤ wr.heap.size ∧ (∀ b, b < w4.heap.size → b ≠ w1.heap.size → wr.heap[b]? = w4.heap[b]?) ∧ Hid (BoolR 4 wr w1.heap.size (Sol.markL (List.replicate N false) (l.take k)))) (fun i _ => l.length - (intOf i).toNat)
    case atStart => exact ⟨0, by omega, rfl, hbww, Below.refl _ _, Nat.le_refl _, fun _ _ _ => rfl, HBR4⟩
    case round =>
      obtain ⟨k, hk, rfl, hXb, hXl, hXz, hoth, HB2⟩ := hrel
      have HOT := Lib.hid hoth
      clear hoth
      by_cases hlt : k < l.length
      · obtain ⟨y, hy⟩ : ∃ y, l[k]? = some y := ⟨_, List.getElem?_eq_getElem hlt⟩
        have hyr := HIN.out y (List.mem_of_getElem? hy)
        unfold Sol.InR at hyr
        obtain ⟨yN, rfl⟩ : ∃ k : Nat, y = (k : Int) := ⟨y.toNat, by omega⟩
        have hyN : yN < N := by omega
        obtain ⟨b3, off3, e3, _, hb3, p3⟩ := (HOW.out.keepB (w' := wr) (fun b hb hlt => by
          refine ⟨by omega, fun o => World.cell?_of_block (a := ⟨b, o, none⟩) (HOT.out b hlt fun e => ?_)⟩
          have := (HOWN.out.lt hb).1
          omega)).intAt hy
        subst e3
        obtain ⟨m1, m2⟩ := HB2.out.at_ (i := yN) (by rw [Sol.markL_length]; simpa using hyN)
        have HB3 : Hid (BoolR 4 (wr.setCell ⟨w1.heap.size, yN, none⟩ (.bool true)) w1.heap.size (Sol.markL (List.replicate N false) (l.take (k + 1)))) := Lib.hid (by
          rw [List.take_add_one, hy]
          have h := HB2.out.set yN true
          rw [Option.toList_some, markL_snoc, Int.toNat_natCast]
          exact h)
        obtain ⟨mv, hmv⟩ : ∃ mv, mv = (Sol.markL (List.replicate N false) (l.take k)).getD yN false := ⟨_, rfl⟩
        rw [← hmv] at m1
        clear hmv hy hyr
        go_wp2
        go_roundw
        case rel =>
          refine ⟨k + 1, by omega, by go_num, hXb.setCell (by show w.heap.size ≤ w1.heap.size; omega) _, hXl.setCell (Nat.le_refl _) _, by simpa using hXz, fun b hb hne => ?_, HB3⟩
          rw [← HOT.out b hb hne]
          simp only [World.setCell, Array.getElem?_modify]
          rw [if_neg (Ne.symm hne)]
        case measure => simp [intOf]; omega
      · have HE : Hid (Sol.markL (List.replicate N false) (l.take k) = Sol.reachB (Sol.cleanG m) en) := Lib.hid (by
          rw [List.take_of_length_le (by omega), ← HRE.out, HN.out])
        go_wp2
        go_ret
        rw [HE.out] at HB2
        exact ⟨w1.heap.size, by rw [Sol.reachB_length, ← HN.out]; rfl, HB2.out, hXb⟩
  · have hB := inB_no hen
    have HB := Lib.hid hB
    have hen2 : ¬ Sol.InR (Sol.cleanG m).length en := by rw [← hN]; exact hen
    have HRE := Lib.hid (Sol.reachB_none hen2)
    clear hs hn hr20 hN hNm hG hB hen hen2
    have hA1 := cell_alloc_if
    have hA2 := frozen_alloc_if
    have hA3 := cell_set_if
    go_enter Try.func10, Try.ntmps10
    go_wp2_with (first
      | (go_at_call 26; (with_reducible refine (HCL.out _ (by (repeat' (first | (with_reducible exact Below.refl _ _) | (with_reducible assumption) | (with_reducible refine Below.setCell ?_ ?_ _) | (with_reducible refine Below.alloc ?_ ?_ _) | (with_reducible refine Below.drew ?_) | (with_reducible refine below_drewN ?_ _) | (with_reducible refine below_next ?_ (by with_reducible assumption)) | omega | (dsimp only; omega) | (simp only [World.size_alloc, World.size_setCell, World.size_drew, World.heap_drewN]; omega))))).mono ?_); rintro e w1 ⟨rfl, hom, hb1⟩; have hz1 := hb1.size; clear hom; rw [← HN.out])
      | (refine wpList_make_full _ rfl (.tmp 12) (.tmp 12) 25 rfl w1.heap.size 4 j0 _ 1 Try.underlying25 hj0 hy0 hy1 .i64 .i64 N N N rfl rfl rfl rfl ?m1 ?m2 ?m3 ?_))
    case m1 => rw [hy2]; omega
    case m2 => unfold maxLen; omega
    case m3 => exact Nat.le_refl _
    intro w2 hrow hg2
    rw [toList_madeCells_one] at hrow
    have hblk := block_full hrow
    have hbw2 : Below w1.heap.size w1 w2 := (Below.refl _ _).grown hg2 (Nat.le_refl _) (fun k hk => by cases hk)
    have HBR : Hid (BoolR 4 w2 w1.heap.size (List.replicate N false)) := Lib.hid (by unfold BoolR; rw [hblk]; simp)
    clear hrow hg2 hblk
    go_wp2_with (go_at_call 27; (with_reducible refine (ghas_any _ _ _ _ _ (by omega)).mono ?_); rintro e w3 ⟨rfl, rfl⟩; rw [HB.out])
    go_ret
    rw [HN.out, HRE.out] at HBR
    exact ⟨w1.heap.size, by rw [Sol.reachB_length, ← HN.out]; rfl, HBR.out, hb1.trans (hbw2.mono hz1)⟩
end Go.Proofs.Ytadcjmfednachaa
