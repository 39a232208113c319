/-
  LexAhead, walked: where the first text has an error, or both are too long; where the second has an error.
-/
import Derived.Test.YteplbbjmbhgllaaGreatDoorLexP43
namespace Go.Proofs.YteplbbjmbhgllaaGreatDoor
open Go.RowKit
set_option linter.unusedVariables false
set_option linter.unusedSimpArgs false

set_option maxRecDepth 100000 in
set_option maxHeartbeats 8000000 in
theorem ahead_none (a b : ByteArray) (hA : (∃ k p1 p2, Lx.tokensL Lx.flF a.data.toList = .error (k, (p1, p2))) ∨ (∃ ts, Lx.tokensL Lx.flF a.data.toList = .ok ts) ∧ 1048576 ≤ a.size + b.size ∧ a.size + b.size ≤ 9223372036854775807)
    (w : World) (hT : Tabs w) (hz : 13 ≤ w.heap.size) : Calls Tryz.prog 6 #[.string a, .string b] w fun e w' => e = .returned (.bool true) ∧ Below w.heap.size w w' := by
  have HS := Lib.hid (fun W (h1 : Tabs W) (h2 : 13 ≤ W.heap.size) => tokens_some b W h1 h2)
  rcases hA with ⟨k, p1, p2, h⟩ | ⟨⟨ts, h⟩, hlen, hlen2⟩
  · have HTP := Lib.hid (fun W (h1 : Tabs W) (h2 : 13 ≤ W.heap.size) => tokens_err h W h1 h2)
    have hk : ((k : Int) != 0) = true := by rcases tokensL_num h with rfl | rfl | rfl <;> decide
    clear h
    have HT := Lib.hid hT
    have HF := Lib.hid (fixed_any w hT hz)
    clear hT
    have hA1 := cell_alloc_if
    have hA2 := frozen_alloc_if
    have hA3 := cell_set_if
    go_enter Tryz.func6, Tryz.ntmps6
    go_wp2_with (go_at_call 7; refine (HF.out).mono ?_)
    rintro e w1 ⟨rfl, hbl1⟩
    have hz1 := hbl1.size
    have HB1 := Lib.hid hbl1
    have HT1 := Lib.hid (tabs_below HT.out hz hbl1)
    clear hbl1
    go_wp2_with (go_at_call 8; refine (HTP.out _ HT1.out (by omega)).mono ?_)
    rintro e w2 ⟨rfl, hbl2⟩
    have hz2 := hbl2.size
    go_upto_region 4 with (fail)
    refine wp_world (fun W => Hid (Below w1.heap.size w1 W) ∧ w2.heap.size ≤ W.heap.size) ⟨Lib.hid (hbl2.alloc hz2 _), by simp only [World.size_alloc]; omega⟩ ?_
    clear hbl2
    rintro W3 ⟨HB3, hz3⟩
    go_wp2_with (go_at_call 8; refine (HS.out _ (tabs_below HT1.out (by omega) HB3.out) (by omega)).mono ?_)
    rintro e w4 ⟨⟨A, n, c, q1, q2, j, rfl⟩, hbl4⟩
    have hz4 := hbl4.size
    go_wp2
    go_ret
    exact ⟨rfl, HB1.out.trans (((HB3.out.trans (hbl4.mono (by omega))).alloc (by omega) _).mono (by omega))⟩
  · have HTP := Lib.hid (fun W (h1 : Tabs W) (h2 : 13 ≤ W.heap.size) => tokens_ok h W h1 h2)
    have hd : decide ((a.size : Int) + (b.size : Int) ≥ 1048576) = true := decide_eq_true (by omega)
    clear h
    have HT := Lib.hid hT
    have HF := Lib.hid (fixed_any w hT hz)
    clear hT
    have hA1 := cell_alloc_if
    have hA2 := frozen_alloc_if
    have hA3 := cell_set_if
    go_enter Tryz.func6, Tryz.ntmps6
    go_wp2_with (go_at_call 7; refine (HF.out).mono ?_)
    rintro e w1 ⟨rfl, hbl1⟩
    have hz1 := hbl1.size
    have HB1 := Lib.hid hbl1
    have HT1 := Lib.hid (tabs_below HT.out hz hbl1)
    clear hbl1
    go_wp2_with (go_at_call 8; refine (HTP.out _ HT1.out (by omega)).mono ?_)
    rintro e w2 ⟨⟨v1, hown, rfl⟩, hbl2⟩
    clear hown
    have hz2 := hbl2.size
    go_upto_region 4 with (fail)
    refine wp_world (fun W => Hid (Below w1.heap.size w1 W) ∧ w2.heap.size ≤ W.heap.size) ⟨Lib.hid (hbl2.alloc hz2 _), by simp only [World.size_alloc]; omega⟩ ?_
    clear hbl2
    rintro W3 ⟨HB3, hz3⟩
    go_wp2_with (go_at_call 8; refine (HS.out _ (tabs_below HT1.out (by omega) HB3.out) (by omega)).mono ?_)
    rintro e w4 ⟨⟨A, n, c, q1, q2, j, rfl⟩, hbl4⟩
    have hz4 := hbl4.size
    go_wp2
    go_ret
    exact ⟨rfl, HB1.out.trans (((HB3.out.trans (hbl4.mono (by omega))).alloc (by omega) _).mono (by omega))⟩
set_option maxRecDepth 100000 in
set_option maxHeartbeats 8000000 in
theorem ahead_err (a b : ByteArray) (ts ts0 : List Lx.Tok) (A1 A2 : Int) (h : Lx.tokensL Lx.flF a.data.toList = .ok ts) (he : ts = ts0 ++ [⟨8, (A1, A2), [], 0, []⟩]) (hlen : a.size + b.size < 1048576)
    (k : Nat) (p1 p2 q1 q2 : Int) (hb : Lx.tokensL Lx.flF b.data.toList = .error (k, (p1, p2))) (hab : Lx.tokensL Lx.flF (a ++ ⟨#[10]⟩ ++ b).data.toList = .error (k, (q1, q2))) (hq : A1 < q1)
    (w : World) (hT : Tabs w) (hz : 13 ≤ w.heap.size) : Calls Tryz.prog 6 #[.string a, .string b] w fun e w' => e = .returned (.bool true) ∧ Below w.heap.size w w' := by
  have HTP := Lib.hid (fun W (h1 : Tabs W) (h2 : 13 ≤ W.heap.size) => tokens_ok h W h1 h2)
  have HTB := Lib.hid (fun W (h1 : Tabs W) (h2 : 13 ≤ W.heap.size) => tokens_err hb W h1 h2)
  have HTC := Lib.hid (fun W (h1 : Tabs W) (h2 : 13 ≤ W.heap.size) => tokens_err hab W h1 h2)
  have hd : decide ((a.size : Int) + (b.size : Int) ≥ 1048576) = false := decide_eq_false (by omega)
  have hk : ((k : Int) != 0) = true := by rcases tokensL_num hb with rfl | rfl | rfl <;> decide
  have hqd : decide (q1 > A1) = true := decide_eq_true hq
  have hlast : ts[ts0.length]? = some ⟨8, (A1, A2), [], 0, []⟩ := by rw [he]; simp
  have htl : ts.length = ts0.length + 1 := by rw [he]; simp
  have HLA := Lib.hid hlast
  clear h hb hab he hlast
  have HT := Lib.hid hT
  have HF := Lib.hid (fixed_any w hT hz)
  clear hT
  have hA1 := cell_alloc_if
  have hA2 := frozen_alloc_if
  have hA3 := cell_set_if
  go_enter Tryz.func6, Tryz.ntmps6
  go_wp2_with (go_at_call 7; refine (HF.out).mono ?_)
  rintro e w1 ⟨rfl, hbl1⟩
  have hz1 := hbl1.size
  have HB1 := Lib.hid hbl1
  have HT1 := Lib.hid (tabs_below HT.out hz hbl1)
  clear hbl1
  go_wp2_with (go_at_call 8; refine (HTP.out _ HT1.out (by omega)).mono ?_)
  rintro e w2 ⟨⟨v1, hown, rfl⟩, hbl2⟩
  have hz2 := hbl2.size
  have hrd := OwnL.rdl tokC_len hown
  have hcap := hrd.len
  unfold maxLen at hcap
  obtain ⟨g, o, c, rfl, _, _, hgl, hgc⟩ := hrd.some_ (by omega)
  have hx := (RdL.tAt hgc HLA.out).2.1
  dsimp only at hx
  have hlI : (ts.length : Int) - 1 = (ts0.length : Int) := by omega
  clear hown hrd hgc
  go_upto_region 4 with (fail)
  refine wp_world (fun W => Hid (Below w1.heap.size w1 W) ∧ Hid (Below w2.heap.size w2 W) ∧ w2.heap.size ≤ W.heap.size) ⟨Lib.hid (hbl2.alloc hz2 _), Lib.hid ((Below.refl _ _).alloc (Nat.le_refl _) _), by simp only [World.size_alloc]; omega⟩ ?_
  clear hbl2
  rintro W3 ⟨HB3, HC3, hz3⟩
  go_wp2_with (go_at_call 8; refine (HTB.out _ (tabs_below HT1.out (by omega) HB3.out) (by omega)).mono ?_)
  rintro e w4 ⟨rfl, hbl4⟩
  have hz4 := hbl4.size
  go_upto_region 5 with (fail)
  refine wp_world (fun W => Hid (Below w1.heap.size w1 W) ∧ Hid (Below w2.heap.size w2 W) ∧ w2.heap.size ≤ W.heap.size) ⟨Lib.hid ((HB3.out.trans (hbl4.mono (by omega))).alloc (by omega) _), Lib.hid ((HC3.out.trans (hbl4.mono (by omega))).alloc (by omega) _), by simp only [World.size_alloc]; omega⟩ ?_
  clear hbl4 HB3 HC3
  rintro W5 ⟨HB5, HC5, hz5⟩
  go_wp2_with (go_at_call 8; refine (HTC.out _ (tabs_below HT1.out (by omega) HB5.out) (by omega)).mono ?_)
  rintro e w6 ⟨rfl, hbl6⟩
  have hz6 := hbl6.size
  go_upto_region 8 with (fail)
  refine wp_world (fun W => PlB w6.heap.size q1 q2 W ∧ Hid (Below w1.heap.size w1 W) ∧ Hid (Below w2.heap.size w2 W) ∧ w2.heap.size ≤ W.heap.size) ⟨⟨?_⟩, Lib.hid ((HB5.out.trans (hbl6.mono (by omega))).alloc (by omega) _), Lib.hid ((HC5.out.trans (hbl6.mono (by omega))).alloc (by omega) _), by simp only [World.size_alloc]; omega⟩ ?_
  · exact heap_alloc_new w6 _
  clear hbl6 HB5 HC5
  rintro W7 ⟨hP, HB7, HC7, hz7⟩
  have hcp := cells_of_block hP.blk
  have hp0 := hcp.1 0
  have hp1 := hcp.1 1
  simp at hp0 hp1
  have hx7 := (HC7.out.cell (p := ⟨g, _, none⟩) hgl).trans hx
  clear hcp hx hP
  go_upto_region 9 with (fail)
  go_quiet (fail)
  go_wp2
  go_ret
  exact ⟨rfl, HB1.out.trans ((_root_.Go.below_drewN HB7.out _).mono (by omega))⟩
end Go.Proofs.YteplbbjmbhgllaaGreatDoor
