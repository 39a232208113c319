/-
  The reference's walk, walked.
-/
import Derived.Test.YtadcjmfednachaaSolW9
namespace Go.Proofs.Ytadcjmfednachaa
open Go.RowKit
set_option linter.unusedVariables false
set_option linter.unusedSimpArgs false

theorem memB_yes {l : List Int} {x : Int} (h : x ∈ l) : memB l x = true := by unfold memB; simpa using h
theorem memB_no {l : List Int} {x : Int} (h : x ∉ l) : memB l x = false := by unfold memB; simpa using h
theorem row_le {G : List (List Int)} (h : ∀ l ∈ G, l.length ≤ 1048576) (i : Int) : (Sol.rowI G i).length ≤ 1048576 := by
  unfold Sol.rowI
  rw [List.getD_eq_getElem?_getD]
  cases hg : G[i.toNat]? with
  | none => simp
  | some r => exact h r (List.mem_of_getElem? hg)
set_option maxRecDepth 100000 in
set_option maxHeartbeats 4000000 in
theorem walk_any (A : Option Addr) (N c : Nat) (m : List (List Int)) (w0 : World) (hs : RdM w0 (.slice A N c) m) (hn : m.length ≤ 1048576) (hr20 : ∀ l ∈ m, l.length ≤ 1048576) (hN : N = m.length) :
    ∀ (k : Nat) (i : Nat) (sl left : List Int) (A2 A3 : Option Addr) (c2 c3 : Nat) (w : World), Below w0.heap.size w0 w → OwnL 3 intC 1 w0.heap.size w (.slice A2 sl.length c2) sl → OwnL 3 intC 1 w0.heap.size w (.slice A3 left.length c3) left →
      (∀ q, (Value.slice A2 sl.length c2).ownBlock = some q → (Value.slice A3 left.length c3).ownBlock ≠ some q) → Sol.Seen (Sol.cleanG m) sl → i < N → (i : Int) ∉ sl → N ≤ sl.length + k → left.length ≤ sl.length →
      Calls Try.prog 31 #[.slice A N c, .int .i64 i, .slice A2 sl.length c2, .slice A3 left.length c3] w (WalkP w0.heap.size w (.slice A2 sl.length c2) (.slice A3 left.length c3) (Sol.walkF (Sol.cleanG m) k i (sl, left)))
  | 0, i, sl, left, A2, A3, c2, c3, w, hb, h2, h3, hne, hse, hi, hni, hl, hll => by
    have hG := Sol.cleanG_length m
    have := hse.room (i := i) (by unfold Sol.InR; omega) hni
    omega
  | k + 1, i, sl, left, A2, A3, c2, c3, w, hb, h2, h3, hne, hse, hi, hni, hl, hll => by
    obtain ⟨i0, hi0, hz0, hz1, hz2⟩ := info_parts int_info
    have ih := walk_any A N c m w0 hs hn hr20 hN k
    have hGl := Sol.cleanG_length m
    have hir : Sol.InR (Sol.cleanG m).length (i : Int) := by unfold Sol.InR; omega
    have hse1 := Seen.add hse hir hni
    have hsl : sl.length < N := by have := hse.room hir hni; omega
    have HFO : Hid (∀ W, Below w0.heap.size w0 W → Calls Try.prog 29 #[.slice A N c, .int .i64 i] W (OwnP W (Sol.rowI (Sol.cleanG m) i))) := Lib.hid fun W hW => follows_any A N c m i W (hs.next hW) (by omega) hr20
    have hG := Sol.cln_clean m
    have hrl := row_le (clean_rows hr20) (i : Int)
    rw [Sol.walkF_succ]
    obtain ⟨G, hGG⟩ : ∃ G, G = Sol.cleanG m := ⟨_, rfl⟩
    rw [← hGG] at ih hGl hse1 HFO hG hrl ⊢
    have hGN : G.length = N := by omega
    have HIH := Lib.hid ih
    have HG := Lib.hid hG
    have HGN := Lib.hid hGN
    have HSE := Lib.hid hse1
    have hT0 := TwoS.refl h2 h3 hne
    obtain ⟨l, hl'⟩ : ∃ l, l = Sol.rowI G i := ⟨_, rfl⟩
    have HIN : Hid (∀ y ∈ l, Sol.InR G.length y) := Lib.hid fun y hy => hG i y (hl' ▸ hy)
    have HLL := Lib.hid hl'
    rw [← hl'] at HFO hrl ⊢
    have HT0 := Lib.hid hT0
    have HB := Lib.hid hb
    have hbz := hb.size
    have hN2 : N ≤ 1048576 := by omega
    obtain ⟨o2, ho2⟩ : ∃ o2, o2 = (Value.slice A2 sl.length c2).ownBlock := ⟨_, rfl⟩
    obtain ⟨o3, ho3⟩ : ∃ o3, o3 = (Value.slice A3 left.length c3).ownBlock := ⟨_, rfl⟩
    rw [← ho2, ← ho3] at HT0
    have HO2 := Lib.hid ho2
    have HO3 := Lib.hid ho3
    clear hs hn hr20 hN ih hGl hir hse1 hG hGG hT0 hl' hb h2 h3 hne hse hni hGN ho2 ho3
    have hA1 := cell_alloc_if
    have hA2 := frozen_alloc_if
    have hA3 := cell_set_if
    go_enter Try.func31, Try.ntmps31
    go_wp2_with (at_builtin; refine wpList_app (e := 3) (f := intC) rfl (.tmp 12) (.tmp 14) 28 rfl w0.heap.size i0 _ 8 Try.underlying28 hi0 hz0 hz1 hz2 rfl (by decide) intC_len (.slice A2 sl.length c2) sl rfl ?c0 _ 1 _ [(i : Int)] rfl ?c1 (intC_one _) (by decide) ?c2 ?c3 ?_)
    case c0 => exact HT0.out.own2.next (by (repeat' (first | (with_reducible exact Below.refl _ _) | (with_reducible assumption) | (with_reducible refine Below.setCell ?_ ?_ _) | (with_reducible refine Below.alloc ?_ ?_ _) | (with_reducible refine Below.drew ?_) | (with_reducible refine below_drewN ?_ _) | (with_reducible refine below_next ?_ (by with_reducible assumption)) | omega | (dsimp only; omega) | (simp only [World.size_alloc, World.size_setCell, World.size_drew, World.heap_drewN]; omega))))
    case c1 => exact own_one _ _ _
    case c2 => first | omega | (simp; omega)
    case c3 => first | omega | (simp; omega)
    intro A9 c9 w6 hown hg hB hor
    have HT1 : Hid (TwoS 3 w0.heap.size w w6 o2 o3 (.slice A9 (sl.length + 1) c9) (.slice A3 left.length c3) (sl ++ [(i : Int)]) left) := Lib.hid (HT0.out.app2 (by (repeat' (first | (with_reducible exact Below.refl _ _) | (with_reducible assumption) | (with_reducible refine Below.setCell ?_ ?_ _) | (with_reducible refine Below.alloc ?_ ?_ _) | (with_reducible refine Below.drew ?_) | (with_reducible refine below_drewN ?_ _) | (with_reducible refine below_next ?_ (by with_reducible assumption)) | omega | (dsimp only; omega) | (simp only [World.size_alloc, World.size_setCell, World.size_drew, World.heap_drewN]; omega)))) hbz hown hg hB (hor.imp id fun e => ⟨_, e, by simp⟩))
    have hb6 : Below w0.heap.size w0 w6 := HB.out.trans HT1.out.low
    clear hown hg hB hor
    go_wp2_with (go_at_call 29; (with_reducible refine (HFO.out _ (by (repeat' (first | (with_reducible exact Below.refl _ _) | (with_reducible assumption) | (with_reducible refine Below.setCell ?_ ?_ _) | (with_reducible refine Below.alloc ?_ ?_ _) | (with_reducible refine Below.drew ?_) | (with_reducible refine below_drewN ?_ _) | (with_reducible refine below_next ?_ (by with_reducible assumption)) | omega | (dsimp only; omega) | (simp only [World.size_alloc, World.size_setCell, World.size_drew, World.heap_drewN]; omega))))).mono ?_); rintro e w7 ⟨A7, c7, rfl, how, hb7⟩; have HOW := Lib.hid how; have hz7 := hb7.size; clear how)
    have hz6 := hb6.size
    have HT2 : Hid (TwoS 3 w0.heap.size w w7 o2 o3 (.slice A9 (sl.length + 1) c9) (.slice A3 left.length c3) (sl ++ [(i : Int)]) left) := Lib.hid (HT1.out.next hb7 hz6)
    have HF2 : Hid (OwnL 3 intC 1 w0.heap.size w7 (.slice A7 l.length c7) l ∧ ∀ q, (Value.slice A7 l.length c7).ownBlock = some q → (Value.slice A9 (sl.length + 1) c9).ownBlock ≠ some q ∧ (Value.slice A3 left.length c3).ownBlock ≠ some q) := Lib.hid ⟨HOW.out.lower hz6, fun q hq => by
      have h1 := HOW.out.lt hq
      exact ⟨fun e => by have := HT1.out.own2.lt e; omega, fun e => by have := HT1.out.own3.lt e; omega⟩⟩
    go_loopw [2, 3, 11] (fun s2 s3 jj wr => ∃ (j : Nat) (st : List Int × List Int) (B2 B3 : Option Addr) (d2 d3 : Nat), j ≤ l.length ∧ jj = .int .i64 j ∧ s2 = .slice B2 st.1.length d2 ∧ s3 = .slice B3 st.2.length d3 ∧ sl.length + 1 ≤ st.1.length ∧ st.2.length + 1 ≤ st.1.length ∧ st.1.length ≤ N ∧
      Hid (TwoS 3 w0.heap.size w wr o2 o3 (.slice B2 st.1.length d2) (.slice B3 st.2.length d3) st.1 st.2) ∧
      Hid (OwnL 3 intC 1 w0.heap.size wr (.slice A7 l.length c7) l ∧ ∀ q, (Value.slice A7 l.length c7).ownBlock = some q → (Value.slice B2 st.1.length d2).ownBlock ≠ some q ∧ (Value.slice B3 st.2.length d3).ownBlock ≠ some q) ∧
      Hid (Sol.Seen G st.1) ∧ Hid (Sol.foldW G k (l.take j) (sl ++ [(i : Int)], left) = st)) (fun _ _ jj _ => l.length - (intOf jj).toNat)
    case atStart => exact ⟨0, (sl ++ [(i : Int)], left), A9, A3, c9, c3, by omega, rfl, by simp, rfl, by simp, by simp; omega, by simp; omega, by simpa using HT2, by simpa using HF2, HSE, Lib.hid rfl⟩
    case round =>
      clear HT1 HT2 HF2 HOW hb6 hb7 hz6 hz7
      obtain ⟨j, st, B2, B3, d2, d3, hj, rfl, rfl, rfl, hs1, hs2, hs3, HT, HF, HSN, HFW⟩ := hrel
      obtain ⟨s, lf⟩ := st
      dsimp only at hs1 hs2 hs3 HT HF HSN ⊢
      have hbr : Below w0.heap.size w0 wr := HB.out.trans HT.out.low
      have hbrz := hbr.size
      by_cases hlt : j < l.length
      · obtain ⟨y, hy⟩ : ∃ y, l[j]? = some y := ⟨_, List.getElem?_eq_getElem hlt⟩
        have hyr := HIN.out y (List.mem_of_getElem? hy)
        have hyr' := hyr
        unfold Sol.InR at hyr'
        obtain ⟨yN, rfl⟩ : ∃ k : Nat, y = (k : Int) := ⟨y.toNat, by omega⟩
        have hyN : yN < N := by have := HGN.out; omega
        obtain ⟨b3, off3, e3, _, hb3, p3⟩ := (HF.out.1.rdl intC_len).intAt hy
        have hst : Sol.foldW G k (l.take (j + 1)) (sl ++ [(i : Int)], left) = if (yN : Int) ∈ s then (s, lf) else Sol.walkF G k yN (s, lf) := by
          rw [List.take_add_one, hy, Option.toList_some, foldW_snoc, HFW.out]
        subst e3
        have HHAS : Hid (∀ W, Below wr.heap.size wr W → Calls Try.prog 22 #[.slice B2 s.length d2, .int .i64 yN] W fun e w' => e = .returned (.bool (memB s yN)) ∧ W = w') := Lib.hid fun W hW => hasI_any _ _ _ s yN W ((HT.out.own2.rdl intC_len).next hW)
        by_cases hm : (yN : Int) ∈ s
        · rw [if_pos hm] at hst
          have HST := Lib.hid hst
          have hmb := memB_yes hm
          rw [hmb] at HHAS
          clear hst hm hmb hy hyr hyr'
          go_wp2_with (go_at_call 22; (with_reducible refine (HHAS.out _ (by (repeat' (first | (with_reducible exact Below.refl _ _) | (with_reducible assumption) | (with_reducible refine Below.setCell ?_ ?_ _) | (with_reducible refine Below.alloc ?_ ?_ _) | (with_reducible refine Below.drew ?_) | (with_reducible refine below_drewN ?_ _) | (with_reducible refine below_next ?_ (by with_reducible assumption)) | omega | (dsimp only; omega) | (simp only [World.size_alloc, World.size_setCell, World.size_drew, World.heap_drewN]; omega))))).mono ?_); rintro e w8 ⟨rfl, rfl⟩)
          go_roundw
          case rel => exact ⟨j + 1, (s, lf), B2, B3, d2, d3, by omega, by go_num, rfl, rfl, hs1, hs2, hs3, HT, HF, HSN, HST⟩
          case measure => simp [intOf]; omega
        · rw [if_neg hm] at hst
          have HST := Lib.hid hst
          have hmb := memB_no hm
          rw [hmb] at HHAS
          have hk2 : G.length ≤ s.length + k := by have := HGN.out; omega
          have hws := walk_seen HG.out k yN s lf HSN.out hyr hm hk2
          have hwl := walk_len G k yN (s, lf)
          have HWK : Hid (Calls Try.prog 31 #[.slice A N c, .int .i64 yN, .slice B2 s.length d2, .slice B3 lf.length d3] wr (WalkP w0.heap.size wr (.slice B2 s.length d2) (.slice B3 lf.length d3) (Sol.walkF G k yN (s, lf)))) := Lib.hid (HIH.out yN s lf B2 B3 d2 d3 wr hbr HT.out.own2 HT.out.own3 HT.out.ne HSN.out hyN hm (by have := HGN.out; omega) (by omega))
          obtain ⟨r, hr⟩ : ∃ r, r = Sol.walkF G k yN (s, lf) := ⟨_, rfl⟩
          rw [← hr] at hws hwl HWK HST
          obtain ⟨r1, r2⟩ := r
          dsimp only at hws hwl
          obtain ⟨hw1, hw2⟩ := hws
          have hw3 : r1.length ≤ N := by have := Sol.nodup_le _ _ hw1.1 hw1.2; have := HGN.out; omega
          have HW1 := Lib.hid hw1
          clear hst hm hmb hy hyr hyr' hr hw1
          go_wp2_with (first
            | (go_at_call 22; (with_reducible refine (HHAS.out _ (by (repeat' (first | (with_reducible exact Below.refl _ _) | (with_reducible assumption) | (with_reducible refine Below.setCell ?_ ?_ _) | (with_reducible refine Below.alloc ?_ ?_ _) | (with_reducible refine Below.drew ?_) | (with_reducible refine below_drewN ?_ _) | (with_reducible refine below_next ?_ (by with_reducible assumption)) | omega | (dsimp only; omega) | (simp only [World.size_alloc, World.size_setCell, World.size_drew, World.heap_drewN]; omega))))).mono ?_); rintro e w8 ⟨rfl, rfl⟩)
            | (go_at_call 31; (with_reducible refine HWK.out.mono ?_); rintro e w9 ⟨C2, e2, C3, e3, rfl, htw⟩; have HTW := Lib.hid htw; clear htw))
          go_roundw
          case rel => exact ⟨j + 1, (r1, r2), C2, C3, e2, e3, by omega, by go_num, rfl, rfl, by dsimp only; omega, by dsimp only; omega, hw3, Lib.hid (HT.out.trans HTW.out), Lib.hid (HTW.out.third HF.out.1 HF.out.2), HW1, HST⟩
          case measure => simp [intOf]; omega
      · have HE : Hid (Sol.foldW G k l (sl ++ [(i : Int)], left) = (s, lf)) := Lib.hid (by rw [← HFW.out, List.take_of_length_le (by omega)])
        clear HFW
        go_wp2_with (at_builtin; refine wpList_app (e := 3) (f := intC) rfl (.tmp 44) (.tmp 46) 28 rfl w0.heap.size i0 _ 8 Try.underlying28 hi0 hz0 hz1 hz2 rfl (by decide) intC_len (.slice B3 lf.length d3) lf rfl ?c0 _ 1 _ [(i : Int)] rfl ?c1 (intC_one _) (by decide) ?c2 ?c3 ?_)
        case c0 => exact HT.out.own3.next (by (repeat' (first | (with_reducible exact Below.refl _ _) | (with_reducible assumption) | (with_reducible refine Below.setCell ?_ ?_ _) | (with_reducible refine Below.alloc ?_ ?_ _) | (with_reducible refine Below.drew ?_) | (with_reducible refine below_drewN ?_ _) | (with_reducible refine below_next ?_ (by with_reducible assumption)) | omega | (dsimp only; omega) | (simp only [World.size_alloc, World.size_setCell, World.size_drew, World.heap_drewN]; omega))))
        case c1 => exact own_one _ _ _
        case c2 => first | omega | (simp; omega)
        case c3 => first | omega | (simp; omega)
        intro A9' c9' w6' hown hg hB hor
        have HT1 : Hid (TwoS 3 w0.heap.size w w6' o2 o3 (.slice B2 s.length d2) (.slice A9' (lf.length + 1) c9') s (lf ++ [(i : Int)])) := Lib.hid (HT.out.app3 (by (repeat' (first | (with_reducible exact Below.refl _ _) | (with_reducible assumption) | (with_reducible refine Below.setCell ?_ ?_ _) | (with_reducible refine Below.alloc ?_ ?_ _) | (with_reducible refine Below.drew ?_) | (with_reducible refine below_drewN ?_ _) | (with_reducible refine below_next ?_ (by with_reducible assumption)) | omega | (dsimp only; omega) | (simp only [World.size_alloc, World.size_setCell, World.size_drew, World.heap_drewN]; omega)))) hbrz hown hg hB (hor.imp id fun e => ⟨_, e, by simp⟩))
        clear hown hg hB hor
        go_wp2
        go_ret2
        rw [HE.out]
        refine ⟨B2, d2, A9', c9', by simp, ?_⟩
        rw [← HO2.out, ← HO3.out]
        simpa using HT1.out
end Go.Proofs.Ytadcjmfednachaa
