/-
  Before: the program's walk.
-/
import Derived.Test.YtadcjmfednachaaSolW15
namespace Go.Proofs.Ytadcjmfednachaa
open Go.RowKit Go.WideShapes Go.ChangeShapes Go.Deep
set_option linter.unusedVariables false
set_option linter.unusedSimpArgs false

theorem grown_trans {a b c : World} {o : Option Nat} (h1 : a.grownBy b o) (h2 : b.grownBy c o) : a.grownBy c o := by
  have := h1.size
  exact ⟨h2.os.trans h1.os, h2.tape.trans h1.tape, h2.output.trans h1.output, Nat.le_trans h1.size h2.size, fun k hk hne => (h2.block k (by omega) hne).trans (h1.block k hk hne)⟩
set_option maxRecDepth 100000 in
set_option maxHeartbeats 4000000 in
theorem before_any (A : Option Addr) (n c : Nat) (m : List (List Int)) (w : World) (hs : RdM w (.slice A n c) m) (hn : m.length ≤ 1048575) (hr20 : ∀ l ∈ m, l.length ≤ 1048576) :
    Calls Try.prog 16 #[.slice A n c] w (MatP w (Sol.befG (Sol.cleanG m))) := by
  obtain ⟨i0, hi0, hz0, hz1, hz2⟩ := info_parts int_info
  obtain ⟨j0, hj0, hy0, hy1, hy2⟩ := info_parts row_info
  obtain ⟨A', c', e⟩ := hs.form
  injection e with e1 e2 e3
  subst e2
  clear e1 e3 A' c'
  obtain ⟨N, hN⟩ : ∃ N, N = (Sol.cleanG m).length := ⟨_, rfl⟩
  have hNm : N = m.length := by rw [hN, Sol.cleanG_length]
  rw [← hNm] at hs ⊢
  have HCL : Hid (∀ W, Below w.heap.size w W → Calls Try.prog 26 #[.slice A N c] W (MatP W (Sol.cleanG m))) := Lib.hid fun W hW => clean_any A N c m W (hs.next hW) (by omega) hr20
  rw [← hNm] at hn
  have hG := Sol.cln_clean m
  have hrl := clean_rows hr20
  obtain ⟨G, hGG⟩ : ∃ G, G = Sol.cleanG m := ⟨_, rfl⟩
  rw [← hGG] at HCL hN hG hrl ⊢
  have HN := Lib.hid hN
  have HG := Lib.hid hG
  have HR := Lib.hid hrl
  clear hs hr20 hN hNm hG hrl hGG
  have hA1 := cell_alloc_if
  have hA2 := frozen_alloc_if
  have hA3 := cell_set_if
  go_enter Try.func16, Try.ntmps16
  go_wp2_with (refine wpList_make_full _ rfl (.tmp 9) (.tmp 9) 22 rfl w.heap.size 28 j0 _ 1 Try.underlying22 hj0 hy0 hy1 .i64 .i64 N N N rfl rfl rfl rfl ?m1 ?m2 ?m3 ?_)
  case m1 => rw [hy2]; omega
  case m2 => unfold maxLen; omega
  case m3 => exact Nat.le_refl _
  intro w1 hrow hg1
  rw [toList_madeCells_one] at hrow
  have hblk := block_full hrow
  have hbw1 : Below w.heap.size w w1 := (Below.refl _ _).grown hg1 (Nat.le_refl _) (fun k hk => by cases hk)
  have hlt1 : w.heap.size < w1.heap.size := (Array.getElem?_eq_some_iff.1 hblk).1
  have HM0 : Hid (OwnV 3 28 w.heap.size w1 w.heap.size (List.replicate N (.slice none 0 0)) (Sol.befP G 0 [])) := Lib.hid (by
    rw [Sol.befP_zero, ← HN.out]
    exact OwnV.made (Nat.le_refl _) (by simpa using hblk))
  clear hrow hg1 hblk
  go_wp2_with (go_at_call 26; (with_reducible refine (HCL.out _ (by (repeat' (first | (with_reducible exact Below.refl _ _) | (with_reducible assumption) | (with_reducible refine Below.setCell ?_ ?_ _) | (with_reducible refine Below.alloc ?_ ?_ _) | (with_reducible refine Below.drew ?_) | (with_reducible refine below_drewN ?_ _) | (with_reducible refine below_next ?_ (by with_reducible assumption)) | omega | (dsimp only; omega) | (simp only [World.size_alloc, World.size_setCell, World.size_drew, World.heap_drewN]; omega))))).mono ?_); rintro e w2 ⟨rfl, hom, hb2⟩; have HOM := Lib.hid hom; have hz2' := hb2.size; clear hom; rw [← HN.out])
  have HS0 : Hid (BefS w.heap.size w1.heap.size w2.heap.size w1.heap.size w2 (Sol.befP G 0 []) G) := Lib.hid (by
    obtain ⟨us, hus⟩ := HOM.out
    refine ⟨⟨hlt1, Nat.le_refl _, hus.lt, Nat.le_refl _⟩, ⟨_, HM0.out.next hb2, fun i v q hv hq => ?_⟩, ⟨us, hus, fun i v q hv hq => (hus.rowLt hv hq).2⟩⟩
    rw [List.getElem?_replicate] at hv
    split at hv
    · injection hv with hv; subst hv; cases hq
    · cases hv)
  have hbw2 : Below w.heap.size w w2 := hbw1.trans (hb2.mono (by omega))
  clear HM0 HOM hbw1 hb2 hz2'
  go_loopw [14] (fun i wr => ∃ (k : Nat) (mc : List (List Int)), k ≤ N ∧ i = .int .i64 k ∧ Below w.heap.size w wr ∧ Hid (BefS w.heap.size w1.heap.size w2.heap.size w1.heap.size wr (Sol.befP G k []) mc) ∧ Hid (∀ j, k ≤ j → mc[j]? = G[j]?)) (fun i _ => N - (intOf i).toNat)
  case atStart => exact ⟨0, G, by omega, rfl, hbw2, HS0, Lib.hid fun j _ => rfl⟩
  case round =>
    clear hbw2 HS0
    obtain ⟨k, mc, hk, rfl, hXb, HS, HC⟩ := hrel
    have hXz := hXb.size
    by_cases hlt : k < N
    · obtain ⟨l, hl⟩ : ∃ l, G[k]? = some l := ⟨_, List.getElem?_eq_getElem (by have := HN.out; omega)⟩
      have hl20 := HR.out l (List.mem_of_getElem? hl)
      have hrw : Sol.rowI G k = l := rowI_nat hl
      have HRW := Lib.hid hrw
      have hin : ∀ y ∈ l, Sol.InR N y := fun y hy => by rw [HN.out]; exact HG.out k y (by rw [hrw]; exact hy)
      obtain ⟨A2, c2, p1, how, hnear, hturn⟩ := HS.out.row ((HC.out k (Nat.le_refl _)).trans hl)
      have hb1l : w1.heap.size < wr.heap.size := by have := HS.out.lohi; omega
      have hw1r : w1.heap.size ≤ wr.heap.size := by omega
      have HSO : Hid (Calls Try.prog 32 #[.slice A2 l.length c2] wr (LaidP w1.heap.size wr (.slice A2 l.length c2) (.slice A2 l.length c2) (srt l) (.tuple #[]))) := Lib.hid (sort_own how hw1r (by omega))
      have HNEAR := Lib.hid hnear
      have HTURN := Lib.hid hturn
      have hcm := (comp_srt l).2
      have hcr := (comp_srt l).1
      have hcl := compact_le (srt l)
      rw [srt_length] at hcl
      obtain ⟨kk, hkk⟩ : ∃ kk, kk = Lib.compact (srt l) := ⟨_, rfl⟩
      rw [← hkk] at hcm hcr hcl
      have HKK := Lib.hid hkk
      have HCM := Lib.hid hcm
      have HCR := Lib.hid hcr
      have HIN : Hid (∀ y ∈ kk, Sol.InR N y) := Lib.hid fun y hy => hin y ((hcm y).1 hy)
      clear hl how hnear hturn hrw hin hcm hcr hkk
      go_wp2_with (first
        | (go_at_call 32; (with_reducible refine HSO.out.mono ?_); rintro e w5 ⟨rfl, how5, hg5, hb5⟩; have hz5 := hg5.size; have HOW5 := Lib.hid how5; have HG5 := Lib.hid hg5; clear how5 hg5)
        | (go_at_call 33; (with_reducible refine (compact_both HOW5.out (by omega)).mono ?_); rintro e w6 ⟨rfl, how6, ⟨l6, hl6⟩, hg6, hb6⟩; have hz6 := hg6.size; rw [← HKK.out] at how6 ⊢; have HOW6 := Lib.hid how6; have HG6 := Lib.hid (grown_trans HG5.out hg6); have HL6 := Lib.hid hl6; clear how6 hg6 hl6))
      have HS6 : Hid (BefS w.heap.size w1.heap.size w2.heap.size w1.heap.size w6 (Sol.befP G k []) (mc.set k l6)) := Lib.hid (HTURN.out w6 l6 HG6.out HL6.out)
      have HC6 : Hid (∀ j, k + 1 ≤ j → (mc.set k l6)[j]? = G[j]?) := Lib.hid fun j hj => by rw [List.getElem?_set_ne (by omega)]; exact HC.out j (by omega)
      have HNB : Hid (∀ q, (Value.slice A2 kk.length c2).ownBlock = some q → q < w2.heap.size) := Lib.hid fun q hq => (HNEAR.out q (by cases A2 <;> exact hq)).2
      have hbw6 : Below w.heap.size w w6 := (hXb.trans (hb5.mono (by omega))).trans (hb6.mono (by omega))
      clear HG5 HG6 HL6 HOW5 HTURN HS HC HSO hb5 hb6 hz5 hz6 p1
      obtain ⟨mc6, hmc6⟩ : ∃ mc6, mc6 = mc.set k l6 := ⟨_, rfl⟩
      rw [← hmc6] at HS6 HC6
      clear hmc6
      obtain ⟨w5', rfl⟩ : ∃ w5', w5' = wr := ⟨_, rfl⟩
      go_loopw [24] (fun i wr => ∃ j : Nat, j ≤ kk.length ∧ i = .int .i64 j ∧ Below w.heap.size w wr ∧ Hid (BefS w.heap.size w1.heap.size w2.heap.size w1.heap.size wr (Sol.befP G k (kk.take j)) mc6) ∧ Hid (OwnL 3 intC 1 w1.heap.size wr (.slice A2 kk.length c2) kk)) (fun i _ => kk.length - (intOf i).toNat)
      case atStart => exact ⟨0, by omega, rfl, hbw6, by simpa using HS6, HOW6⟩
      case round =>
        clear HS6 HOW6 hbw6
        obtain ⟨j, hj, rfl, hXb, HS, HOW⟩ := hrel
        have hXz := hXb.size
        by_cases hltj : j < kk.length
        · obtain ⟨y, hy⟩ : ∃ y, kk[j]? = some y := ⟨_, List.getElem?_eq_getElem hltj⟩
          have hyr := HIN.out y (List.mem_of_getElem? hy)
          have hyr0 := hyr
          unfold Sol.InR at hyr
          obtain ⟨yN, rfl⟩ : ∃ k : Nat, y = (k : Int) := ⟨y.toNat, by omega⟩
          have hyN : yN < N := by omega
          have hnd : (yN : Int) ∉ kk.take j := by
            intro hm
            obtain ⟨i, hi, e⟩ := List.getElem_of_mem hm
            rw [List.length_take] at hi
            rw [List.getElem_take] at e
            have h1 := List.pairwise_iff_getElem.1 HCR.out i j (by omega) hltj (by omega)
            rw [List.getElem?_eq_getElem hltj] at hy
            injection hy with hy
            omega
          have hst := Sol.befP_app (G := G) (i := k) (d := kk.take j) (k := (yN : Int)) (by rw [← HN.out]; exact hyr0) hnd
          rw [Int.toNat_natCast, ← take_step hy] at hst
          obtain ⟨l7, hl7⟩ : ∃ l7, (Sol.befP G k (kk.take j))[yN]? = some l7 := ⟨_, List.getElem?_eq_getElem (by rw [Sol.befP_length, ← HN.out]; exact hyN)⟩
          have hl7d : (Sol.befP G k (kk.take j)).getD yN [] = l7 := by rw [List.getD_eq_getElem?_getD, hl7]; rfl
          rw [hl7d] at hst
          have HST := Lib.hid hst
          have hl7n := befP_row_le hl7
          obtain ⟨b3, off3, e3, _, hb3, p3⟩ := (HOW.out.rdl intC_len).intAt hy
          obtain ⟨A7, c7, p7, f7, how7, hfar7, hb0, hput⟩ := HS.out.at_ hl7
          have HOW7 := Lib.hid how7
          have HPUT := Lib.hid hput
          clear hst hl7d hl7 hyr hyr0 hy hnd how7 hput hfar7
          subst e3
          go_wp2_with (at_builtin; refine wpList_app (e := 3) (f := intC) rfl _ _ 28 rfl w.heap.size i0 _ 8 Try.underlying28 hi0 hz0 hz1 hz2 rfl (by decide) intC_len (.slice A7 l7.length c7) l7 rfl ?c0 _ 1 _ [(k : Int)] rfl ?c1 (intC_one _) (by decide) ?c2 ?c3 ?_)
          case c0 => exact HOW7.out.next (by (repeat' (first | (with_reducible exact Below.refl _ _) | (with_reducible assumption) | (with_reducible refine Below.setCell ?_ ?_ _) | (with_reducible refine Below.alloc ?_ ?_ _) | (with_reducible refine Below.drew ?_) | (with_reducible refine below_drewN ?_ _) | (with_reducible refine below_next ?_ (by with_reducible assumption)) | omega | (dsimp only; omega) | (simp only [World.size_alloc, World.size_setCell, World.size_drew, World.heap_drewN]; omega))))
          case c1 => exact own_one _ _ _
          case c2 => first | omega | (simp; omega)
          case c3 => first | omega | (simp; omega)
          intro A9 c9 w9 hown hg hB hor
          obtain ⟨hS9, hkp9, ⟨u9, hq9⟩, hf9⟩ := HPUT.out _ w9 A9 (l7.length + 1) c9 (l7 ++ [(k : Int)]) (by (repeat' (first | (with_reducible exact Below.refl _ _) | (with_reducible assumption) | (with_reducible refine Below.setCell ?_ ?_ _) | (with_reducible refine Below.alloc ?_ ?_ _) | (with_reducible refine Below.drew ?_) | (with_reducible refine below_drewN ?_ _) | (with_reducible refine below_next ?_ (by with_reducible assumption)) | omega | (dsimp only; omega) | (simp only [World.size_alloc, World.size_setCell, World.size_drew, World.heap_drewN]; omega)))) hg hown (hor.imp id fun e => ⟨_, e, by simp⟩)
          have HS9 : Hid (BefS w.heap.size w1.heap.size w2.heap.size w1.heap.size (w9.setCell ⟨w.heap.size, yN, none⟩ (.slice A9 (l7.length + 1) c9)) (Sol.befP G k (kk.take (j + 1))) mc6) := Lib.hid (by rw [← HST.out]; exact hS9)
          have HOW9 : Hid (OwnL 3 intC 1 w1.heap.size (w9.setCell ⟨w.heap.size, yN, none⟩ (.slice A9 (l7.length + 1) c9)) (.slice (some ⟨b3, off3, none⟩) kk.length c2) kk) := Lib.hid (HOW.out.keep fun q hq => hkp9 q (HNB.out q hq) (by have := (HOW.out.lt hq).1; omega))
          have hbb : Below w.heap.size w w9 := hXb.trans (Below.trans ((Below.refl _ _).alloc (by omega) _) hB)
          have hbw9 : Below w.heap.size w (w9.setCell ⟨w.heap.size, yN, none⟩ (.slice A9 (l7.length + 1) c9)) := hbb.setCell (Nat.le_refl _) _
          clear hS9 hkp9 hg hown hor hB HPUT
          go_wp2
          go_roundw
          case rel => exact ⟨j + 1, by omega, by go_num, hbw9, HS9, HOW9⟩
          case measure => simp [intOf]; omega
        · have HFI : Hid (BefS w.heap.size w1.heap.size w2.heap.size w1.heap.size wr (Sol.befP G (k + 1) []) mc6) := Lib.hid (by
            rw [← Sol.befP_next (i := k) (d := kk) (fun x _ => by rw [HCM.out, HRW.out])]
            have h := HS.out
            rwa [List.take_of_length_le (by omega)] at h)
          clear HS
          go_wp2
          go_roundw
          case rel => exact ⟨k + 1, mc6, by omega, by go_num, hXb, HFI, HC6⟩
          case measure => simp [intOf]; omega
    · obtain rfl : k = N := by omega
      have HE : Hid (Sol.befP G k [] = Sol.befG G) := Lib.hid (by unfold Sol.befG; rw [HN.out])
      have HLE : Hid ((Sol.befG G).length = k) := Lib.hid (by unfold Sol.befG; rw [Sol.befP_length, HN.out])
      go_wp2
      go_ret
      obtain ⟨vs, hv, _⟩ := HS.out.out
      exact ⟨by rw [HLE.out]; rfl, by rw [← HE.out]; exact ⟨vs, hv⟩, hXb⟩
end Go.Proofs.Ytadcjmfednachaa
