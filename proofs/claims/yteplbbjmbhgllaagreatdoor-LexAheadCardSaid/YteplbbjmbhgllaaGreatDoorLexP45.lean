/-
  LexAhead, walked: where both texts have tokens; all of it joined.
-/
import Derived.Test.YteplbbjmbhgllaaGreatDoorLexP44
import Derived.Test.YteplbbjmbhgllaaGreatDoorLexM16
import Derived.BigRegion
import Derived.RegionTactic
namespace Go.Proofs.YteplbbjmbhgllaaGreatDoor
open Go.RowKit
set_option linter.unusedVariables false
set_option linter.unusedSimpArgs false

set_option maxRecDepth 100000 in
set_option maxHeartbeats 8000000 in
theorem ahead_ok (a b : ByteArray) (ts ts0 ms : List Lx.Tok) (A1 A2 : Int) (hA1 : 0 ≤ A1) (hA2 : A1 ≤ 1048577) (h : Lx.tokensL Lx.flF a.data.toList = .ok ts) (he : ts = ts0 ++ [⟨8, (A1, A2), [], 0, []⟩]) (hlen : a.size + b.size < 1048576)
    (hb : Lx.tokensL Lx.flF b.data.toList = .ok ms) (hab : Lx.tokensL Lx.flF (a ++ ⟨#[10]⟩ ++ b).data.toList = .ok (ts0 ++ ms.map (Lx.upT A1)))
    (w : World) (hT : Tabs w) (hz : 13 ≤ w.heap.size) : Calls Tryz.prog 6 #[.string a, .string b] w fun e w' => e = .returned (.bool true) ∧ Below w.heap.size w w' := by
  have HTP := Lib.hid (fun W (h1 : Tabs W) (h2 : 13 ≤ W.heap.size) => tokens_ok h W h1 h2)
  have HTB := Lib.hid (fun W (h1 : Tabs W) (h2 : 13 ≤ W.heap.size) => tokens_ok hb W h1 h2)
  have HTC := Lib.hid (fun W (h1 : Tabs W) (h2 : 13 ≤ W.heap.size) => tokens_ok hab W h1 h2)
  have HPL := Lib.hid (tokensL_places hb)
  have hmn := tokensL_ne hb
  have hd : decide ((a.size : Int) + (b.size : Int) ≥ 1048576) = false := decide_eq_false (by omega)
  have hlast : ts[ts0.length]? = some ⟨8, (A1, A2), [], 0, []⟩ := by rw [he]; simp
  have htl : ts.length = ts0.length + 1 := by rw [he]; simp
  obtain ⟨both, hbo⟩ : ∃ both, ts0 ++ ms.map (Lx.upT A1) = both := ⟨_, rfl⟩
  have hbl : both.length = ts0.length + ms.length := by rw [← hbo]; simp
  have HTL2 := Lib.hid (And.intro htl hbl)
  have hts0 : 0 < ts.length := by omega
  have hbo0 : 0 < both.length := by omega
  have hI1 : (ts.length : Int) - 1 = (ts0.length : Int) := by omega
  have hI2 : (ts0.length : Int) + (ms.length : Int) = (both.length : Int) := by omega
  have HX1 : Hid (∀ k, k < ts0.length → ∃ x, both[k]? = some x ∧ ts[k]? = some x) := Lib.hid fun k hk => by
    refine ⟨ts0[k], ?_, ?_⟩
    · rw [← hbo, List.getElem?_append_left hk, List.getElem?_eq_getElem hk]
    · rw [he, List.getElem?_append_left hk, List.getElem?_eq_getElem hk]
  have HX2 : Hid (∀ j, j < ms.length → ∃ y, ms[j]? = some y ∧ both[ts0.length + j]? = some (Lx.upT A1 y) ∧ PlaceOk 1048577 y.at_) := Lib.hid fun j hj => by
    refine ⟨ms[j], List.getElem?_eq_getElem hj, ?_, HPL.out _ (List.getElem_mem hj)⟩
    rw [← hbo, List.getElem?_append_right (by omega), List.getElem?_map, Nat.add_sub_cancel_left, List.getElem?_eq_getElem hj]
    rfl
  rw [hbo] at HTC
  have HLA := Lib.hid hlast
  clear h hb hab he hlast hbo HPL htl hbl
  have HT := Lib.hid hT
  have HF := Lib.hid (fixed_any w hT hz)
  clear hT
  have hA1 := cell_alloc_if
  have hA2 := frozen_alloc_if
  have hA3 := cell_set_if
  go_enter Tryz.func6, Tryz.ntmps6
  go_wp2_with (go_at_call 7; refine (HF.out).mono ?_)
  rintro e w1 ⟨rfl, hbl1⟩
  have hz1 := hbl1.size
  have HB1 := Lib.hid hbl1
  have HT1 := Lib.hid (tabs_below HT.out hz hbl1)
  clear hbl1
  go_wp2_with (go_at_call 8; refine (HTP.out _ HT1.out (by omega)).mono ?_)
  rintro e w2 ⟨⟨v1, hown, rfl⟩, hbl2⟩
  have hz2 := hbl2.size
  have hrd := OwnL.rdl tokC_len hown
  have hcap1 := hrd.len
  obtain ⟨g, o, c, rfl, _, _, hgl, hgc⟩ := hrd.some_ (by omega)
  have H1 := Lib.hid hgc
  clear hown hrd hgc
  go_upto_region 4 with (fail)
  refine wp_world (fun W => Hid (Below w1.heap.size w1 W) ∧ Hid (Below w2.heap.size w2 W) ∧ w2.heap.size ≤ W.heap.size) ⟨Lib.hid (hbl2.alloc hz2 _), Lib.hid ((Below.refl _ _).alloc (Nat.le_refl _) _), by simp only [World.size_alloc]; omega⟩ ?_
  clear hbl2
  rintro W3 ⟨HB3, HC3, hz3⟩
  go_wp2_with (go_at_call 8; refine (HTB.out _ (tabs_below HT1.out (by omega) HB3.out) (by omega)).mono ?_)
  rintro e w4 ⟨⟨v2, hown, rfl⟩, hbl4⟩
  have hz4 := hbl4.size
  have hrd := OwnL.rdl tokC_len hown
  have hcap2 := hrd.len
  obtain ⟨g2, o2, c2, rfl, _, _, hgl2, hgc2⟩ := hrd.some_ (by omega)
  have H2 := Lib.hid hgc2
  clear hown hrd hgc2
  go_upto_region 5 with (fail)
  refine wp_world (fun W => Hid (Below w1.heap.size w1 W) ∧ Hid (Below w2.heap.size w2 W) ∧ Hid (Below w4.heap.size w4 W) ∧ w4.heap.size ≤ W.heap.size) ⟨Lib.hid ((HB3.out.trans (hbl4.mono (by omega))).alloc (by omega) _), Lib.hid ((HC3.out.trans (hbl4.mono (by omega))).alloc (by omega) _), Lib.hid ((Below.refl _ _).alloc (Nat.le_refl _) _), by simp only [World.size_alloc]; omega⟩ ?_
  clear hbl4 HB3 HC3
  rintro W5 ⟨HB5, HC5, HD5, hz5⟩
  go_wp2_with (go_at_call 8; refine (HTC.out _ (tabs_below HT1.out (by omega) HB5.out) (by omega)).mono ?_)
  rintro e w6 ⟨⟨v3, hown, rfl⟩, hbl6⟩
  have hz6 := hbl6.size
  have hrd := OwnL.rdl tokC_len hown
  have hcap3 := hrd.len
  obtain ⟨g3, o3, c3, rfl, _, _, hgl3, hgc3⟩ := hrd.some_ (by omega)
  have H3 := Lib.hid hgc3
  clear hown hrd hgc3
  unfold maxLen at hcap1 hcap2 hcap3
  go_upto_region 8 with (fail)
  refine wp_world (fun W => Hid (Below w1.heap.size w1 W) ∧ Hid (Below w2.heap.size w2 W) ∧ Hid (Below w4.heap.size w4 W) ∧ Hid (Below w6.heap.size w6 W) ∧ w6.heap.size ≤ W.heap.size) ⟨Lib.hid ((HB5.out.trans (hbl6.mono (by omega))).alloc (by omega) _), Lib.hid ((HC5.out.trans (hbl6.mono (by omega))).alloc (by omega) _), Lib.hid ((HD5.out.trans (hbl6.mono (by omega))).alloc (by omega) _), Lib.hid ((Below.refl _ _).alloc (Nat.le_refl _) _), by simp only [World.size_alloc]; omega⟩ ?_
  clear hbl6 HB5 HC5 HD5
  rintro W7 ⟨HB7, HC7, HD7, HE7, hz7⟩
  have HDZ := Lib.hid (fun W => rdec_zero W)
  go_wp2
  go_loopw [88] (fun i wr => ∃ k : Nat, k ≤ both.length ∧ i = .int .i64 k ∧ Hid (Below W7.heap.size W7 wr)) (fun i _ => both.length - (intOf i).toNat)
  case atStart => exact ⟨0, by omega, rfl, Lib.hid (Below.refl _ _)⟩
  case round =>
    obtain ⟨k, hk, rfl, HBR⟩ := hrel
    have HB1w := Lib.hid (HC7.out.trans (HBR.out.mono (by omega)) : Below w2.heap.size w2 wr)
    have HB2w := Lib.hid (HD7.out.trans (HBR.out.mono (by omega)) : Below w4.heap.size w4 wr)
    have HB3w := Lib.hid (HE7.out.trans (HBR.out.mono (by omega)) : Below w6.heap.size w6 wr)
    have hz9 := HBR.out.size
    by_cases hlt : k < both.length
    · by_cases hk2 : k < ts0.length
      · obtain ⟨x, ex1, ex2⟩ := HX1.out k hk2
        obtain ⟨p0, p1, p2, p3, p4, p5⟩ := RdL.tAt H3.out ex1
        obtain ⟨q0, q1, q2, q3, q4, q5⟩ := RdL.tAt H1.out ex2
        have p0 := (HB3w.out.cell (p := ⟨g3, _, none⟩) hgl3).trans p0
        have p1 := (HB3w.out.cell (p := ⟨g3, _, none⟩) hgl3).trans p1
        have p2 := (HB3w.out.cell (p := ⟨g3, _, none⟩) hgl3).trans p2
        have p3 := (HB3w.out.cell (p := ⟨g3, _, none⟩) hgl3).trans p3
        have p4 := (HB3w.out.cell (p := ⟨g3, _, none⟩) hgl3).trans p4
        have p5 := (HB3w.out.cell (p := ⟨g3, _, none⟩) hgl3).trans p5
        have q0 := (HB1w.out.cell (p := ⟨g, _, none⟩) hgl).trans q0
        have q1 := (HB1w.out.cell (p := ⟨g, _, none⟩) hgl).trans q1
        have q2 := (HB1w.out.cell (p := ⟨g, _, none⟩) hgl).trans q2
        have q3 := (HB1w.out.cell (p := ⟨g, _, none⟩) hgl).trans q3
        have q4 := (HB1w.out.cell (p := ⟨g, _, none⟩) hgl).trans q4
        have q5 := (HB1w.out.cell (p := ⟨g, _, none⟩) hgl).trans q5
        generalize ((x.kind : Nat) : Int) = kd at p0 q0
        generalize x.at_.1 = y1 at p1 q1
        generalize x.at_.2 = y2 at p2 q2
        generalize baB x.text = tx at p3 q3
        generalize ((x.bits : Nat) : Int) = bi at p4 q4
        generalize baB x.data = da at p5 q5
        have hrun := eqT_yes kd y1 y2 tx bi da
        have hkt : k < ts.length := by omega
        clear ex1 ex2
        go_upto_region 17 with (fail)
        go_quiet (fail)
        go_wp2
        go_roundw
        case rel => exact ⟨k + 1, by omega, by go_num, Lib.hid (by have := HBR.out; (repeat' (first | (with_reducible exact Below.refl _ _) | (with_reducible assumption) | (with_reducible refine Below.setCell ?_ ?_ _) | (with_reducible refine Below.alloc ?_ ?_ _) | (with_reducible refine Below.drew ?_) | (with_reducible refine _root_.Go.below_drewN ?_ _) | (with_reducible refine below_next ?_ (by with_reducible assumption)) | omega | (dsimp only; omega) | (simp only [World.size_alloc, World.size_setCell, World.size_drew, World.heap_drewN]; omega))))⟩
        case measure => simp [intOf]; omega
      · have hlb := HTL2.out.2
        obtain ⟨y, ey, ex1, hpy⟩ := HX2.out (k - ts0.length) (by omega)
        rw [Nat.add_sub_cancel' (by omega)] at ex1
        obtain ⟨j, hj⟩ : ∃ j, k - ts0.length = j := ⟨_, rfl⟩
        rw [hj] at ey
        have hIj : (k : Int) - (ts.length : Int) + 1 = (j : Int) := by omega
        have hjm : j < ms.length := by omega
        have hy1 := hpy.1
        have hy2 := hpy.2.1
        obtain ⟨p0, p1, p2, p3, p4, p5⟩ := RdL.tAt H3.out ex1
        obtain ⟨q0, q1, q2, q3, q4, q5⟩ := RdL.tAt H2.out ey
        have l1 := (RdL.tAt H1.out HLA.out).2.1
        unfold Lx.upT Lx.upP at p0 p1 p2 p3 p4 p5
        dsimp only at p0 p1 p2 p3 p4 p5 l1
        have p0 := (HB3w.out.cell (p := ⟨g3, _, none⟩) hgl3).trans p0
        have p1 := (HB3w.out.cell (p := ⟨g3, _, none⟩) hgl3).trans p1
        have p2 := (HB3w.out.cell (p := ⟨g3, _, none⟩) hgl3).trans p2
        have p3 := (HB3w.out.cell (p := ⟨g3, _, none⟩) hgl3).trans p3
        have p4 := (HB3w.out.cell (p := ⟨g3, _, none⟩) hgl3).trans p4
        have p5 := (HB3w.out.cell (p := ⟨g3, _, none⟩) hgl3).trans p5
        have q0 := (HB2w.out.cell (p := ⟨g2, _, none⟩) hgl2).trans q0
        have q1 := (HB2w.out.cell (p := ⟨g2, _, none⟩) hgl2).trans q1
        have q2 := (HB2w.out.cell (p := ⟨g2, _, none⟩) hgl2).trans q2
        have q3 := (HB2w.out.cell (p := ⟨g2, _, none⟩) hgl2).trans q3
        have q4 := (HB2w.out.cell (p := ⟨g2, _, none⟩) hgl2).trans q4
        have q5 := (HB2w.out.cell (p := ⟨g2, _, none⟩) hgl2).trans q5
        have l1 := (HB1w.out.cell (p := ⟨g, _, none⟩) hgl).trans l1
        generalize ((y.kind : Nat) : Int) = kd at p0 q0
        generalize y.at_.1 = y1 at p1 q1 hy1 hy2
        generalize y.at_.2 = y2 at p2 q2
        generalize baB y.text = tx at p3 q3
        generalize ((y.bits : Nat) : Int) = bi at p4 q4
        generalize baB y.data = da at p5 q5
        have hrun := eqT_yes kd (y1 + A1) y2 tx bi da
        have htz : ts0.length < ts.length := by omega
        clear ex1 ey hpy hlb hj
        go_upto_region 20 with (fail)
        go_region
        go_wp2
        go_roundw
        case rel => exact ⟨k + 1, by omega, by go_num, Lib.hid (by have := HBR.out; (repeat' (first | (with_reducible exact Below.refl _ _) | (with_reducible assumption) | (with_reducible refine Below.setCell ?_ ?_ _) | (with_reducible refine Below.alloc ?_ ?_ _) | (with_reducible refine Below.drew ?_) | (with_reducible refine _root_.Go.below_drewN ?_ _) | (with_reducible refine below_next ?_ (by with_reducible assumption)) | omega | (dsimp only; omega) | (simp only [World.size_alloc, World.size_setCell, World.size_drew, World.heap_drewN]; omega))))⟩
        case measure => simp [intOf]; omega
    · have hkn : k = both.length := by omega
      subst hkn
      go_wp2_with (go_at_call 11; refine (HDZ.out _).mono ?_)
      rintro e w9 ⟨rfl, hbl9⟩
      go_wp2
      go_ret
      exact ⟨rfl, HB1.out.trans (((HB7.out.trans (HBR.out.mono (by omega))).trans (hbl9.mono (by omega))).mono (by omega))⟩
theorem ahead_any (a b : ByteArray) (hsa : a.size ≤ 140737488355328) (hsb : b.size ≤ 140737488355328) (w : World) (hT : Tabs w) (hz : 13 ≤ w.heap.size) : Calls Tryz.prog 6 #[.string a, .string b] w fun e w' => e = .returned (.bool true) ∧ Below w.heap.size w w' := by
  cases h : Lx.tokensL Lx.flF a.data.toList with
  | error x => obtain ⟨k, p1, p2⟩ := x; exact ahead_none a b (.inl ⟨k, p1, p2, h⟩) w hT hz
  | ok ts =>
    by_cases hlen : a.size + b.size < 1048576
    · obtain ⟨ts0, he, h1, h2⟩ := Lx.ahead_law h (b := b.data.toList) (by rw [szl, szl]; exact hlen)
      have hpl := tokensL_places h _ (by rw [he]; simp : (⟨8, Lx.moved (1, 1) a.data.toList, [], 0, []⟩ : Lx.Tok) ∈ ts)
      have hcc : (a ++ ⟨#[10]⟩ ++ b).data.toList = a.data.toList ++ 10 :: b.data.toList := by rw [app_data, app_data]; simp
      rw [← hcc] at h1 h2
      dsimp only at hpl
      generalize Lx.moved (1, 1) a.data.toList = A at he h1 h2 hpl
      obtain ⟨A1, A2⟩ := A
      dsimp only at h1 h2
      cases hb : Lx.tokensL Lx.flF b.data.toList with
      | ok ms => exact ahead_ok a b ts ts0 ms A1 A2 hpl.1 hpl.2.1 h he hlen hb (h1 ms hb) w hT hz
      | error x =>
        obtain ⟨k, p1, p2⟩ := x
        obtain ⟨⟨q1, q2⟩, hq, hlt⟩ := h2 k (p1, p2) hb
        exact ahead_err a b ts ts0 A1 A2 h he hlen k p1 p2 q1 q2 hb hq hlt w hT hz
    · exact ahead_none a b (.inr ⟨⟨ts, h⟩, by omega, by omega⟩) w hT hz
end Go.Proofs.YteplbbjmbhgllaaGreatDoor
