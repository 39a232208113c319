/-
  The statement's fixed: its calls answer as the document says.
  LexPlays, walked.
  LexPlays, walked: where there are tokens.
  What the library's variables hold, out of what the rows list.
  The frame of a law's proof, for whatever parameters: the arguments read behind the call as they did. No program in sight.
-/
import Derived.Test.YteplbbjmbhgllaaGreatDoorLexM32
import Derived.Test.YteplbbjmbhgllaaGreatDoorLexM15
import Derived.Test.YteplbbjmbhgllaaGreatDoorLexM18
import Derived.Test.YteplbbjmbhgllaaGreatDoorRows
import Derived.LaidMore
import Derived.Lib.LaidU8
import Derived.Stop.LaidErr
import Derived.Shelf.Vars
import Derived.Handy
import Derived.ProofKit
import Derived.OpenShut
import Derived.Lib.SmallJoins
namespace Go.Proofs.YteplbbjmbhgllaaGreatDoor
open Go.RowKit
set_option linter.unusedVariables false
set_option linter.unusedSimpArgs false

def fx1 : List UInt8 := [105, 110, 116, 32, 120, 61, 48, 120, 49, 70, 59]
def fx2 : List UInt8 := [97, 10, 32, 49, 46]
def fxT : List Lx.Tok := [⟨2, (1, 1), [105, 110, 116], 0, []⟩, ⟨1, (1, 5), [120], 0, []⟩, ⟨7, (1, 6), [61], 0, []⟩, ⟨3, (1, 7), [48, 120, 49, 70], 31, []⟩, ⟨7, (1, 11), [59], 0, []⟩, ⟨8, (1, 12), [], 0, []⟩]
theorem fix_one : Lx.tokensL Lx.flF fx1 = .ok fxT := by kernel_rfl
theorem fix_two : Lx.tokensL Lx.flF fx2 = .error (2, (2, 2)) := by kernel_rfl
theorem fix_float : Lx.flF [50, 53] 1 = some 4612811918334230528 := by kernel_rfl
theorem fix_word : decide ((⟨#[119, 104, 105, 108, 101]⟩ : ByteArray).data.toList ∈ Lx.words) = true := by decide +kernel
theorem fix_sign : isSgn (⟨#[60, 60, 61]⟩ : ByteArray).data.toList = true := by decide +kernel
/-- Tokens where what is answered is known. -/
theorem tokens_ok {s : ByteArray} {ts : List Lx.Tok} (h : Lx.tokensL Lx.flF s.data.toList = .ok ts) (W : World) (h1 : Tabs W) (h2 : 13 ≤ W.heap.size) : Calls Tryz.prog 8 #[.string s] W fun e w' => (∃ v, OwnT W.heap.size w' v ts ∧ e = .returned (.tuple #[v, .agg #[.int .i64 0, .int .i64 0], .int .i64 0])) ∧ Below W.heap.size W w' :=
  (tokens_any s W h1 h2).mono fun e w' hh => ⟨by have := hh.1; rw [h] at this; exact this, hh.2⟩
theorem tokens_err {s : ByteArray} {k : Nat} {p1 p2 : Int} (h : Lx.tokensL Lx.flF s.data.toList = .error (k, (p1, p2))) (W : World) (h1 : Tabs W) (h2 : 13 ≤ W.heap.size) : Calls Tryz.prog 8 #[.string s] W fun e w' => e = .returned (.tuple #[.slice none 0 0, .agg #[.int .i64 p1, .int .i64 p2], .int .i64 (k : Int)]) ∧ Below W.heap.size W w' :=
  (tokens_any s W h1 h2).mono fun e w' hh => ⟨by have := hh.1; rw [h] at this; exact this, hh.2⟩
set_option maxRecDepth 100000 in
set_option maxHeartbeats 8000000 in
theorem fixed_any (w : World) (hT : Tabs w) (hz : 13 ≤ w.heap.size) : Calls Tryz.prog 7 #[] w fun e w' => e = .returned (.bool true) ∧ Below w.heap.size w w' := by
  have HT := Lib.hid hT
  have HT1 := Lib.hid (fun W (h1 : Tabs W) (h2 : 13 ≤ W.heap.size) => tokens_ok (s := ⟨#[105, 110, 116, 32, 120, 61, 48, 120, 49, 70, 59]⟩) fix_one W h1 h2)
  have HT2 := Lib.hid (fun W (h1 : Tabs W) (h2 : 13 ≤ W.heap.size) => tokens_err (s := ⟨#[97, 10, 32, 49, 46]⟩) fix_two W h1 h2)
  have hFL := fun W (h1 : Tabs W) (h2 : 13 ≤ W.heap.size) => float_any ⟨#[50, 53]⟩ (by decide) 1 (by decide) W h1 h2
  rw [show (⟨#[50, 53]⟩ : ByteArray).data.toList = [50, 53] from rfl, fix_float] at hFL
  have HFL := Lib.hid hFL
  have hWD := fun W => word_any ⟨#[119, 104, 105, 108, 101]⟩ (by decide) W
  rw [fix_word] at hWD
  have HWD := Lib.hid hWD
  have hSN := fun W => sign_any ⟨#[60, 60, 61]⟩ (by decide) W
  rw [fix_sign] at hSN
  have HSN := Lib.hid hSN
  clear hT hFL hWD hSN
  have hA1 := cell_alloc_if
  have hA2 := frozen_alloc_if
  have hA3 := cell_set_if
  go_enter Tryz.func7, Tryz.ntmps7
  go_wp2_with (go_at_call 8; refine (HT1.out _ HT.out hz).mono ?_)
  rintro e w1 ⟨⟨v1, hown, rfl⟩, hbl⟩
  have hz1 := hbl.size
  have hrd := OwnL.rdl tokC_len hown
  obtain ⟨g, o, c, hv, _, _, hgl, hgc⟩ := hrd.some_ (by decide)
  rw [show fxT.length = 6 from rfl] at hv
  subst hv
  have k0 := (RdL.tAt hgc (k := 0) rfl).1
  have k3 := (RdL.tAt hgc (k := 3) rfl).2.2.2.2.1
  have k5 := (RdL.tAt hgc (k := 5) rfl).1
  have k6 := (RdL.tAt hgc (k := 5) rfl).2.2.1
  simp at k0 k3 k5 k6
  have HW1 := Lib.hid hbl
  have HT1a := Lib.hid (tabs_below HT.out hz hbl)
  clear hown hrd hgc hbl HT1
  go_upto_region 2 with (fail)
  refine wp_world (fun W => W.heap[w1.heap.size]? = some (.cells #[.int .i64 0, .int .i64 0] 25 (0, 0)) ∧ Hid (Below w1.heap.size w1 W) ∧ Hid (Tabs W) ∧ w1.heap.size < W.heap.size) ⟨?_, Lib.hid ?_, Lib.hid ?_, ?_⟩ ?_
  · exact heap_alloc_new w1 _
  · exact (Below.refl _ _).alloc (Nat.le_refl _) _
  · exact tabs_below HT1a.out (by omega) ((Below.refl _ _).alloc (Nat.le_refl _) _)
  · simp only [World.size_alloc]; omega
  rintro W2 ⟨hP2, HB2, HT2a, hz2⟩
  go_wp2_with (go_at_call 8; refine (HT2.out _ HT2a.out (by omega)).mono ?_)
  rintro e w3 ⟨rfl, hbl3⟩
  have hz3 := hbl3.size
  go_upto_region 3 with (fail)
  refine wp_world (fun W => W.heap[w1.heap.size]? = some (.cells #[.int .i64 0, .int .i64 0] 25 (0, 0)) ∧ W.heap[w3.heap.size]? = some (.cells #[.int .i64 2, .int .i64 2] 25 (0, 0)) ∧ Hid (Below w1.heap.size w1 W) ∧ Hid (Tabs W) ∧ w3.heap.size < W.heap.size) ⟨?_, ?_, Lib.hid ?_, Lib.hid ?_, ?_⟩ ?_
  · exact (heap_alloc_old _ _ (by omega)).trans ((hbl3.block _ hz2).trans hP2)
  · exact heap_alloc_new w3 _
  · exact (HB2.out.trans (hbl3.mono (by omega))).alloc (by omega) _
  · exact tabs_below (tabs_below HT2a.out (by omega) hbl3) (by omega : 13 ≤ w3.heap.size) ((Below.refl _ _).alloc (Nat.le_refl _) _)
  · simp only [World.size_alloc]; omega
  rintro W4 ⟨hP4, hQ4, HB4, HT4, hz4⟩
  clear hP2 HB2 hbl3
  go_wp2_with (go_at_call 12; refine (HFL.out _ HT4.out (by omega)).mono ?_)
  rintro e w5 ⟨rfl, hbl5⟩
  unfold wholeV
  have hz5 := hbl5.size
  have hcp := cells_of_block ((hbl5.block _ (by omega)).trans hP4)
  have hp0 := hcp.1 0
  have hp1 := hcp.1 1
  have hcq := cells_of_block ((hbl5.block _ (by omega)).trans hQ4)
  have hq0 := hcq.1 0
  have hq1 := hcq.1 1
  simp at hp0 hp1 hq0 hq1
  have HB5 := Lib.hid (HB4.out.trans (hbl5.mono (by omega)))
  have k0 := (HB5.out.cell (p := ⟨g, _, none⟩) hgl).trans k0
  have k3 := (HB5.out.cell (p := ⟨g, _, none⟩) hgl).trans k3
  have k5 := (HB5.out.cell (p := ⟨g, _, none⟩) hgl).trans k5
  have k6 := (HB5.out.cell (p := ⟨g, _, none⟩) hgl).trans k6
  clear hcp hcq hbl5 hP4 hQ4 HB4
  go_wp2_with (first
    | (go_at_call 13; (with_reducible refine (HWD.out _).mono ?_); rintro e w' ⟨rfl, rfl⟩)
    | (go_at_call 14; (with_reducible refine (HSN.out _).mono ?_); rintro e w' ⟨rfl, rfl⟩))
  go_ret
  exact ⟨rfl, HW1.out.trans (HB5.out.mono (by omega))⟩
end Go.Proofs.YteplbbjmbhgllaaGreatDoor

namespace Go.Proofs.YteplbbjmbhgllaaGreatDoor
open Go.RowKit
set_option linter.unusedVariables false
set_option linter.unusedSimpArgs false

theorem rtokens_ok {s : ByteArray} {ts : List Lx.Tok} (h : Lx.tokensL Lx.flF s.data.toList = .ok ts) (W : World) : Calls Tryz.prog 9 #[.string s] W fun e w' => (∃ v, OwnT W.heap.size w' v ts ∧ e = .returned (.tuple #[v, .agg #[.int .i64 0, .int .i64 0], .int .i64 0])) ∧ Below W.heap.size W w' :=
  (rtokens_any s W).mono fun e w' hh => ⟨by have := hh.1; rw [h] at this; exact this, hh.2⟩
theorem rtokens_err {s : ByteArray} {k : Nat} {p1 p2 : Int} (h : Lx.tokensL Lx.flF s.data.toList = .error (k, (p1, p2))) (W : World) : Calls Tryz.prog 9 #[.string s] W fun e w' => e = .returned (.tuple #[.slice none 0 0, .agg #[.int .i64 p1, .int .i64 p2], .int .i64 (k : Int)]) ∧ Below W.heap.size W w' :=
  (rtokens_any s W).mono fun e w' hh => ⟨by have := hh.1; rw [h] at this; exact this, hh.2⟩
/-- A place that was answered lies in its own block. -/
structure PlB (b : Nat) (p1 p2 : Int) (w : World) : Prop where
  blk : w.heap[b]? = some (.cells #[.int .i64 p1, .int .i64 p2] 25 (0, 0))
theorem PlB.lt {b : Nat} {p1 p2 : Int} {w : World} (h : PlB b p1 p2 w) : b < w.heap.size := (Array.getElem?_eq_some_iff.1 h.blk).1
theorem PlB.next {b : Nat} {p1 p2 : Int} {w w' : World} (h : PlB b p1 p2 w) (hb : Below w.heap.size w w') : PlB b p1 p2 w' := ⟨(hb.block _ h.lt).trans h.blk⟩
set_option maxRecDepth 100000 in
set_option maxHeartbeats 8000000 in
theorem plays_err (s : ByteArray) (k : Nat) (p1 p2 : Int) (h : Lx.tokensL Lx.flF s.data.toList = .error (k, (p1, p2))) (w : World) (hT : Tabs w) (hz : 13 ≤ w.heap.size) : Calls Tryz.prog 3 #[.string s] w fun e w' => e = .returned (.bool true) ∧ Below w.heap.size w w' := by
  have HT := Lib.hid hT
  have HF := Lib.hid (fixed_any w hT hz)
  have HTP := Lib.hid (fun W (h1 : Tabs W) (h2 : 13 ≤ W.heap.size) => tokens_err h W h1 h2)
  have HTR := Lib.hid (fun W => rtokens_err h W)
  have HSM := Lib.hid (fun W => same_yes [] (.slice none 0 0) (.slice none 0 0) W (RdL.nil _ _ _) (RdL.nil _ _ _))
  clear hT h
  have hA1 := cell_alloc_if
  have hA2 := frozen_alloc_if
  have hA3 := cell_set_if
  go_enter Tryz.func3, Tryz.ntmps3
  go_wp2_with (go_at_call 7; refine (HF.out).mono ?_)
  rintro e w1 ⟨rfl, hbl1⟩
  have hz1 := hbl1.size
  have HB1 := Lib.hid hbl1
  have HT1 := Lib.hid (tabs_below HT.out hz hbl1)
  clear hbl1
  go_wp2_with (go_at_call 8; refine (HTP.out _ HT1.out (by omega)).mono ?_)
  rintro e w2 ⟨rfl, hbl2⟩
  go_upto_region 4 with (fail)
  refine wp_world (fun W => PlB w2.heap.size p1 p2 W ∧ Hid (Below w1.heap.size w1 W) ∧ w2.heap.size < W.heap.size) ⟨⟨?_⟩, Lib.hid ?_, ?_⟩ ?_
  · exact heap_alloc_new w2 _
  · exact hbl2.alloc hbl2.size _
  · simp only [World.size_alloc]; omega
  have hz2 := hbl2.size
  clear hbl2
  rintro W3 ⟨hP3, HB3, hz3⟩
  go_wp2_with (go_at_call 9; refine (HTR.out _).mono ?_)
  rintro e w4 ⟨rfl, hbl4⟩
  have hz4 := hbl4.size
  go_upto_region 5 with (fail)
  refine wp_world (fun W => PlB w2.heap.size p1 p2 W ∧ PlB w4.heap.size p1 p2 W ∧ Hid (Below w1.heap.size w1 W) ∧ w4.heap.size < W.heap.size) ⟨?_, ⟨?_⟩, Lib.hid ?_, ?_⟩ ?_
  · exact (hP3.next hbl4).next ((Below.refl _ _).alloc (Nat.le_refl _) _)
  · exact heap_alloc_new w4 _
  · exact (HB3.out.trans (hbl4.mono (by omega))).alloc (by omega) _
  · simp only [World.size_alloc]; omega
  clear hP3 hbl4 HB3
  rintro W5 ⟨hP5, hQ5, HB5, hz5⟩
  go_wp2_with (go_at_call 8; refine (HTP.out _ (tabs_below HT1.out (by omega) HB5.out) (by omega)).mono ?_)
  rintro e w6 ⟨rfl, hbl6⟩
  have hz6 := hbl6.size
  go_upto_region 6 with (fail)
  refine wp_world (fun W => PlB w2.heap.size p1 p2 W ∧ PlB w4.heap.size p1 p2 W ∧ Hid (Below w1.heap.size w1 W) ∧ w6.heap.size < W.heap.size) ⟨?_, ?_, Lib.hid ?_, ?_⟩ ?_
  · exact (hP5.next hbl6).next ((Below.refl _ _).alloc (Nat.le_refl _) _)
  · exact (hQ5.next hbl6).next ((Below.refl _ _).alloc (Nat.le_refl _) _)
  · exact (HB5.out.trans (hbl6.mono (by omega))).alloc (by omega) _
  · simp only [World.size_alloc]; omega
  clear hP5 hQ5 hbl6 HB5
  rintro W7 ⟨hP7, hQ7, HB7, hz7⟩
  go_wp2_with (go_at_call 10; refine (HSM.out _).mono ?_)
  rintro e w8 ⟨rfl, hbl8⟩
  have hz8 := hbl8.size
  have HB8 := Lib.hid (HB7.out.trans (hbl8.mono (by omega)))
  have hP8 := hP7.next hbl8
  have hQ8 := hQ7.next hbl8
  clear hP7 hQ7 hbl8 HB7
  go_wp2
  go_loopw [39] (fun a wr => a = .int .i64 0 ∧ wr = w8) (fun _ _ => 0)
  case atStart => exact ⟨rfl, rfl⟩
  case round =>
    obtain ⟨rfl, rfl⟩ := hrel
    have hcp := cells_of_block hP8.blk
    have hp0 := hcp.1 0
    have hp1 := hcp.1 1
    have hcq := cells_of_block hQ8.blk
    have hq0 := hcq.1 0
    have hq1 := hcq.1 1
    simp at hp0 hp1 hq0 hq1
    clear hcp hcq
    go_wp2_with (go_at_call 10; refine (HSM.out _).mono ?_)
    rintro e w9 ⟨rfl, hbl9⟩
    go_wp2
    go_ret
    exact ⟨rfl, HB1.out.trans ((HB8.out.trans (hbl9.mono (by omega))).mono (by omega))⟩
end Go.Proofs.YteplbbjmbhgllaaGreatDoor

namespace Go.Proofs.YteplbbjmbhgllaaGreatDoor
open Go.RowKit
set_option linter.unusedVariables false
set_option linter.unusedSimpArgs false

/-- A row of the call's own whose cells are written anew. -/
structure MutS (g n : Nat) (w0 w : World) : Prop where
  blk : ∃ cur, w.heap[g]? = some (.cells cur 32 (0, 0)) ∧ n * 6 ≤ cur.size
  oth : ∀ k, k ≠ g → w.heap[k]? = w0.heap[k]?
  low : Below g w0 w
theorem MutS.set6 {g n : Nat} {w0 w : World} {v0 v1 v2 v3 v4 v5 : Value} (h : MutS g n w0 w) (i0 i1 i2 i3 i4 i5 : Nat) :
    MutS g n w0 ((((((w.setCell ⟨g, i0, none⟩ v0).setCell ⟨g, i1, none⟩ v1).setCell ⟨g, i2, none⟩ v2).setCell ⟨g, i3, none⟩ v3).setCell ⟨g, i4, none⟩ v4).setCell ⟨g, i5, none⟩ v5) := by
  obtain ⟨⟨cur, hb, hn⟩, ho, hl⟩ := h
  refine ⟨⟨_, setC_at (setC_at (setC_at (setC_at (setC_at (setC_at hb _ _) _ _) _ _) _ _) _ _) _ _, by simpa using hn⟩, fun k hk => ?_, ?_⟩
  · rw [setC_other _ _ _ _ hk, setC_other _ _ _ _ hk, setC_other _ _ _ _ hk, setC_other _ _ _ _ hk, setC_other _ _ _ _ hk, setC_other _ _ _ _ hk]
    exact ho k hk
  · exact (((((hl.setCell (p := ⟨g, i0, none⟩) (Nat.le_refl g) v0).setCell (p := ⟨g, i1, none⟩) (Nat.le_refl g) v1).setCell (p := ⟨g, i2, none⟩) (Nat.le_refl g) v2).setCell (p := ⟨g, i3, none⟩) (Nat.le_refl g) v3).setCell (p := ⟨g, i4, none⟩) (Nat.le_refl g) v4).setCell (p := ⟨g, i5, none⟩) (Nat.le_refl g) v5
/-- Another row reads as it did. -/
theorem MutS.rdl {g n base : Nat} {w0 w : World} {v : Value} {l : List Lx.Tok} (h : MutS g n w0 w) (ho : OwnT base w0 v l) (hg : g < base) : RdL tokC 6 w v l :=
  OwnL.rdl tokC_len (OwnL.keep ho fun b hb => h.oth b (by have := (ho.lt hb).1; omega))
theorem MutS.plB {g n b : Nat} {w0 w : World} {p1 p2 : Int} (h : MutS g n w0 w) (hp : PlB b p1 p2 w0) (hb : b ≠ g) : PlB b p1 p2 w := ⟨(h.oth b hb).trans hp.blk⟩
theorem cur_at {cur : Array Value} {i : Nat} (h : i < cur.size) : ∃ u, cur[i]? = some u := ⟨cur[i], Array.getElem?_eq_getElem h⟩
theorem toks_ne {fl : Lx.Bs → Nat → Option Nat} {l : List UInt8} {p : Lx.Pl} {ts : List Lx.Tok} (h : Lx.Toks fl l p ts) : 0 < ts.length := by
  induction h <;> simp_all
theorem tokensL_ne {s ts} (h : Lx.tokensL Lx.flF s = .ok ts) : 0 < ts.length := by
  unfold Lx.tokensL at h
  split at h
  · cases h
  · split at h
    · cases h
    · obtain ⟨ts0, e, ht⟩ := Lx.tokensF_toks _ _ _ _ _ (Nat.le_refl _) h
      have := toks_ne ht
      rw [e]; simp; omega
set_option maxRecDepth 100000 in
set_option maxHeartbeats 8000000 in
theorem plays_ok (s : ByteArray) (ts : List Lx.Tok) (h : Lx.tokensL Lx.flF s.data.toList = .ok ts) (w : World) (hT : Tabs w) (hz : 13 ≤ w.heap.size) : Calls Tryz.prog 3 #[.string s] w fun e w' => e = .returned (.bool true) ∧ Below w.heap.size w w' := by
  have HT := Lib.hid hT
  have HF := Lib.hid (fixed_any w hT hz)
  have HTP := Lib.hid (fun W (h1 : Tabs W) (h2 : 13 ≤ W.heap.size) => tokens_ok h W h1 h2)
  have HTR := Lib.hid (fun W => rtokens_ok h W)
  have hne := tokensL_ne h
  clear hT h
  have hA1 := cell_alloc_if
  have hA2 := frozen_alloc_if
  have hA3 := cell_set_if
  go_enter Tryz.func3, Tryz.ntmps3
  go_wp2_with (go_at_call 7; refine (HF.out).mono ?_)
  rintro e w1 ⟨rfl, hbl1⟩
  have hz1 := hbl1.size
  have HB1 := Lib.hid hbl1
  have HT1 := Lib.hid (tabs_below HT.out hz hbl1)
  clear hbl1
  go_wp2_with (go_at_call 8; refine (HTP.out _ HT1.out (by omega)).mono ?_)
  rintro e w2 ⟨⟨v1, hown1, rfl⟩, hbl2⟩
  go_upto_region 4 with (fail)
  refine wp_world (fun W => PlB w2.heap.size 0 0 W ∧ OwnT w1.heap.size W v1 ts ∧ Hid (Below w1.heap.size w1 W) ∧ w2.heap.size < W.heap.size) ⟨⟨?_⟩, ?_, Lib.hid ?_, ?_⟩ ?_
  · exact heap_alloc_new w2 _
  · exact hown1.alloc _
  · exact hbl2.alloc hbl2.size _
  · simp only [World.size_alloc]; omega
  have hz2 := hbl2.size
  have HL1 := Lib.hid (fun b (hb : v1.ownBlock = some b) => (hown1.lt hb).2)
  clear hbl2 hown1
  rintro W3 ⟨hP3, hO3, HB3, hz3⟩
  have HO3 := Lib.hid hO3
  clear hO3
  go_wp2_with (go_at_call 9; refine (HTR.out _).mono ?_)
  rintro e w4 ⟨⟨v2, hown2, rfl⟩, hbl4⟩
  have hz4 := hbl4.size
  go_upto_region 5 with (fail)
  refine wp_world (fun W => PlB w2.heap.size 0 0 W ∧ PlB w4.heap.size 0 0 W ∧ Hid (OwnT w1.heap.size W v1 ts) ∧ Hid (OwnT W3.heap.size W v2 ts) ∧ Hid (Below w1.heap.size w1 W) ∧ w4.heap.size < W.heap.size) ⟨?_, ⟨?_⟩, Lib.hid ?_, Lib.hid ?_, Lib.hid ?_, ?_⟩ ?_
  · exact (hP3.next hbl4).next ((Below.refl _ _).alloc (Nat.le_refl _) _)
  · exact heap_alloc_new w4 _
  · exact (OwnL.next HO3.out hbl4).alloc _
  · exact hown2.alloc _
  · exact (HB3.out.trans (hbl4.mono (by omega))).alloc (by omega) _
  · simp only [World.size_alloc]; omega
  clear hP3 hbl4 hown2 HB3 HO3
  rintro W5 ⟨hP5, hQ5, HO5, HR5, HB5, hz5⟩
  go_wp2_with (go_at_call 8; refine (HTP.out _ (tabs_below HT1.out (by omega) HB5.out) (by omega)).mono ?_)
  rintro e w6 ⟨⟨v3, hown3, rfl⟩, hbl6⟩
  have hz6 := hbl6.size
  go_upto_region 6 with (fail)
  refine wp_world (fun W => PlB w2.heap.size 0 0 W ∧ PlB w4.heap.size 0 0 W ∧ Hid (OwnT w1.heap.size W v1 ts) ∧ Hid (OwnT W3.heap.size W v2 ts) ∧ Hid (OwnT W5.heap.size W v3 ts) ∧ Hid (Below w1.heap.size w1 W) ∧ w6.heap.size < W.heap.size) ⟨?_, ?_, Lib.hid ?_, Lib.hid ?_, Lib.hid ?_, Lib.hid ?_, ?_⟩ ?_
  · exact (hP5.next hbl6).next ((Below.refl _ _).alloc (Nat.le_refl _) _)
  · exact (hQ5.next hbl6).next ((Below.refl _ _).alloc (Nat.le_refl _) _)
  · exact (OwnL.next HO5.out hbl6).alloc _
  · exact (OwnL.next HR5.out hbl6).alloc _
  · exact hown3.alloc _
  · exact (HB5.out.trans (hbl6.mono (by omega))).alloc (by omega) _
  · simp only [World.size_alloc]; omega
  clear hP5 hQ5 hbl6 HB5 hown3 HO5 HR5
  rintro W7 ⟨hP7, hQ7, HO7, HR7, HS7, HB7, hz7⟩
  have HSM := Lib.hid (same_yes ts v1 v2 W7 (OwnL.rdl tokC_len HO7.out) (OwnL.rdl tokC_len HR7.out))
  go_wp2_with (go_at_call 10; refine (HSM.out).mono ?_)
  rintro e w8 ⟨rfl, hbl8⟩
  have hz8 := hbl8.size
  have HB8 := Lib.hid (HB7.out.trans (hbl8.mono (by omega)))
  have HP8 := Lib.hid (hP7.next hbl8)
  have HQ8 := Lib.hid (hQ7.next hbl8)
  have HO8 := HO7.out.next hbl8
  have HR8 := Lib.hid (HR7.out.next hbl8)
  have HS8 := Lib.hid (HS7.out.next hbl8)
  have hpl1 := hP7.lt
  have hpl2 := hQ7.lt
  clear hP7 hQ7 hbl8 HB7 HO7 HR7 HS7 HSM
  obtain ⟨g, cap, cur0, rfl, hg0, hgb, hcap1, hcap2, hcs⟩ : ∃ g cap cur, v1 = .slice (some ⟨g, 0, none⟩) ts.length cap ∧ w1.heap.size ≤ g ∧ w8.heap[g]? = some (.cells cur 32 (0, 0)) ∧ ts.length ≤ cap ∧ cap ≤ maxLen ∧ cur.size = cap * 6 := by
    obtain ⟨A, c, e, hr⟩ := HO8
    rcases hr.2 with ⟨_, h0⟩ | ⟨g, cap, cur, e1, e2, e3, e4, e5, e6, e7⟩
    · omega
    · exact ⟨g, cap, cur, e1, e2, e3, e4, e5, e6⟩
  have hgl := HL1.out g rfl
  have HM0 : Hid (MutS g ts.length w8 w8) := Lib.hid ⟨⟨cur0, hgb, by omega⟩, fun _ _ => rfl, Below.refl _ _⟩
  unfold maxLen at hcap2
  clear HO8 hgb hcs HL1
  go_wp2
  go_loopw [39] (fun a wr => ∃ k : Nat, a = .int .i64 k ∧ k ≤ ts.length ∧ Hid (MutS g ts.length w8 wr)) (fun a _ => ts.length - (intOf a).toNat)
  case atStart => exact ⟨0, rfl, by omega, HM0⟩
  case round =>
    obtain ⟨k, rfl, hk, HM⟩ := hrel
    by_cases hlt : k < ts.length
    · obtain ⟨cur, hb, hn⟩ := HM.out.blk
      have hcb := cells_of_block hb
      obtain ⟨u0, e0⟩ := cur_at (cur := cur) (i := k * 6) (by omega)
      obtain ⟨u1, e1⟩ := cur_at (cur := cur) (i := k * 6 + 1) (by omega)
      obtain ⟨u2, e2⟩ := cur_at (cur := cur) (i := k * 6 + 2) (by omega)
      obtain ⟨u3, e3⟩ := cur_at (cur := cur) (i := k * 6 + 3) (by omega)
      obtain ⟨u4, e4⟩ := cur_at (cur := cur) (i := k * 6 + 4) (by omega)
      obtain ⟨u5, e5⟩ := cur_at (cur := cur) (i := k * 6 + 5) (by omega)
      have x0 := (hcb.1 (k * 6)).trans e0
      have x1 := (hcb.1 (k * 6 + 1)).trans e1
      have x2 := (hcb.1 (k * 6 + 2)).trans e2
      have x3 := (hcb.1 (k * 6 + 3)).trans e3
      have x4 := (hcb.1 (k * 6 + 4)).trans e4
      have x5 := (hcb.1 (k * 6 + 5)).trans e5
      have xf := hcb.2
      clear hcb e0 e1 e2 e3 e4 e5 hb hn
      go_wp2
      trace_state
      go_roundw
      case rel => exact ⟨k + 1, by go_num, by omega, Lib.hid (HM.out.set6 _ _ _ _ _ _)⟩
      case measure => simp [intOf]; omega
    · have hkn : k = ts.length := by omega
      have hrd3 := HM.out.rdl HS8.out (by omega)
      have hrd2 := HM.out.rdl HR8.out (by omega)
      have hP := HM.out.plB HP8.out (by omega)
      have hQ := HM.out.plB HQ8.out (by omega)
      have hcp := cells_of_block hP.blk
      have hp0 := hcp.1 0
      have hp1 := hcp.1 1
      have hcq := cells_of_block hQ.blk
      have hq0 := hcq.1 0
      have hq1 := hcq.1 1
      simp at hp0 hp1 hq0 hq1
      have HSM := Lib.hid (same_yes ts v3 v2 wr hrd3 hrd2)
      have HLW := Lib.hid HM.out.low
      have hzz := HM.out.low.size
      clear hcp hcq hP hQ hrd2 hrd3 HM
      subst hkn
      go_wp2_with (go_at_call 10; refine (HSM.out).mono ?_)
      rintro e w9 ⟨rfl, hbl9⟩
      go_wp2
      go_ret
      exact ⟨rfl, HB1.out.trans (((HB8.out.trans (HLW.out.mono (by omega))).trans (hbl9.mono (by omega))).mono (by omega))⟩
theorem plays_any (s : ByteArray) (w : World) (hT : Tabs w) (hz : 13 ≤ w.heap.size) : Calls Tryz.prog 3 #[.string s] w fun e w' => e = .returned (.bool true) ∧ Below w.heap.size w w' := by
  cases h : Lx.tokensL Lx.flF s.data.toList with
  | ok ts => exact plays_ok s ts h w hT hz
  | error x => obtain ⟨k, p1, p2⟩ := x; exact plays_err s k p1 p2 h w hT hz
end Go.Proofs.YteplbbjmbhgllaaGreatDoor

namespace Go.Proofs.YteplbbjmbhgllaaGreatDoor
open Go.RowKit
set_option linter.unusedVariables false
set_option linter.unusedSimpArgs false

/-- The tables that the rows list. -/
def laidL : List (String × DataW Unit) := [("math/bits.deBruijn32tab", Rows.laid_math_bits_deBruijn32tab), ("math/bits.deBruijn64tab", Rows.laid_math_bits_deBruijn64tab), ("internal/strconv.uint64pow10", Rows.laid_internal_strconv_uint64pow10), ("unicode/utf8.acceptRanges", Rows.laid_unicode_utf8_acceptRanges), ("math.pow10tab", Rows.laid_math_pow10tab), ("math.pow10postab32", Rows.laid_math_pow10postab32), ("math.pow10negtab32", Rows.laid_math_pow10negtab32), ("strconv.ErrRange", Rows.laid_strconv_ErrRange), ("strconv.ErrSyntax", Rows.laid_strconv_ErrSyntax), ("unicode.CaseRanges", Rows.laid_unicode_CaseRanges), ("unicode/utf8.first", Rows.laid_unicode_utf8_first)]
theorem first_data : (Rows.laid_unicode_utf8_first : DataW Unit) = Lib.firstData := by kernel_rfl
theorem accept_data : (Rows.laid_unicode_utf8_acceptRanges : DataW Unit) = Lib.acceptData := by kernel_rfl
/-- A number with a point that is listed. -/
theorem trod_float {H : Type} {enc : TypeId × Value → H} {P : Program} {w : World} {base fuel : Nat} {sp : Nat → Bool} {held : Bool} {t : TypeId} {k : FloatKind} {cs : List Value} {b : Nat} {p : List MemPlace} (ht : P.underlying t = some (.float k))
    (h : DataW.trod enc P w base sp held fuel t cs = some (.lit (.float k b), p)) : cs = [.float k b] := by
  cases fuel with
  | zero => simp [DataW.trod] at h
  | succ n =>
    unfold DataW.trod at h
    rw [ht] at h
    split at h <;> simp_all
/-- A cell of a listed row of numbers with a point. -/
theorem float_cell {P : Program} {w : World} {n : String} {g m i b : Nat} {t e : TypeId} {ds : List (DataW Unit)} (h : Lib.VarReads P w n (.agg ds)) (hg : P.globalNamed n = some g) (hty : (P.globals[g]?).map (·.type) = some t) (ht : P.underlying t = some (.array m e))
    (he : P.underlying e = some (.float .f64)) (hc : P.cellsOf e = 1) (hi : i < m) (hd : ds[i]? = some (.lit (.float .f64 b))) : w.cell? ⟨g, i, none⟩ = some (.float .f64 b) := by
  obtain ⟨g', t', cs, fuel, p, hg', hty', hvar, hr⟩ := h
  obtain rfl := Option.some.inj (hg.symm.trans hg')
  obtain rfl := Option.some.inj (hty.symm.trans hty')
  obtain ⟨fuel', d, q, h1, h2⟩ := Lib.array_elem ht hr i hi
  rw [hd] at h1
  injection h1 with h1
  subst h1
  have h3 := trod_float he h2
  rw [hc, Nat.mul_one] at h3
  have h4 := congrArg (·[0]?) h3
  simp only [List.getElem?_take, List.getElem?_drop] at h4
  rw [World.var?_cell hg hvar i, ← Array.getElem?_toList]
  simpa using h4
def dsOf {H : Type} : DataW H → List (DataW H)
  | .agg ds => ds
  | _ => []
theorem ten_data : ∀ i, i < 16 → (dsOf (Rows.laid_math_pow10tab : DataW Unit))[i]? = some (.lit (.float .f64 (Lx.dblN (10 ^ i))))
  | 0, _ => by kernel_rfl
  | 1, _ => by kernel_rfl
  | 2, _ => by kernel_rfl
  | 3, _ => by kernel_rfl
  | 4, _ => by kernel_rfl
  | 5, _ => by kernel_rfl
  | 6, _ => by kernel_rfl
  | 7, _ => by kernel_rfl
  | 8, _ => by kernel_rfl
  | 9, _ => by kernel_rfl
  | 10, _ => by kernel_rfl
  | 11, _ => by kernel_rfl
  | 12, _ => by kernel_rfl
  | 13, _ => by kernel_rfl
  | 14, _ => by kernel_rfl
  | 15, _ => by kernel_rfl
  | n + 16, h => absurd h (by omega)
theorem one_data : (dsOf (Rows.laid_math_pow10postab32 : DataW Unit))[0]? = some (.lit (.float .f64 (Lx.dblN 1))) := by kernel_rfl
theorem star_err : "*" ++ "errors.errorString" = "*errors.errorString" := by decide
/-- The one type of that name. -/
theorem row_err (u : TypeId) (h : (Tryz.prog).typeName? 3 u = some "*errors.errorString") : u = 144 :=
  typeName_ptr_named (nm := "errors.errorString") (by rw [star_err]; kernel_rfl) (by kernel_rfl) (by decide) u (by rw [star_err]; exact h)
set_option maxRecDepth 100000 in
theorem tabs_of {W : World} (h : laidMetH Tryz.prog laidL W) (hsh : W.ShapedOpen Tryz.prog) : Tabs W := by
  have h0 : laidMet Tryz.prog laidL W := h
  have hF := Lib.laidMet.reads h0 (n := "unicode/utf8.first") (d := Rows.laid_unicode_utf8_first) (by simp [laidL])
  have hA := Lib.laidMet.reads h0 (n := "unicode/utf8.acceptRanges") (d := Rows.laid_unicode_utf8_acceptRanges) (by simp [laidL])
  have hT := Lib.laidMet.reads h0 (n := "math.pow10tab") (d := Rows.laid_math_pow10tab) (by simp [laidL])
  have hO := Lib.laidMet.reads h0 (n := "math.pow10postab32") (d := Rows.laid_math_pow10postab32) (by simp [laidL])
  rw [first_data] at hF
  rw [accept_data] at hA
  have h7 : laidMet Tryz.prog (("strconv.ErrRange", Rows.laid_strconv_ErrRange) :: ("strconv.ErrSyntax", Rows.laid_strconv_ErrSyntax) :: ("unicode.CaseRanges", Rows.laid_unicode_CaseRanges) :: ("unicode/utf8.first", Rows.laid_unicode_utf8_first) :: []) W := h0.tail.tail.tail.tail.tail.tail.tail
  have hS1 := laid_sentinel (g := 7) h7 (by kernel_rfl) (by kernel_rfl) Tryz.underlying54 row_err Tryz.underlying144 Tryz.underlying146 rfl rfl Tryz.underlying9 (by kernel_rfl) (by kernel_rfl)
  have hS2 := laid_sentinel (g := 6) h7.tail (by kernel_rfl) (by kernel_rfl) Tryz.underlying54 row_err Tryz.underlying144 Tryz.underlying146 rfl rfl Tryz.underlying9 (by kernel_rfl) (by kernel_rfl)
  obtain ⟨a1, t1, hv1, _⟩ := hS1
  obtain ⟨a2, t2, hv2, _⟩ := hS2
  refine ⟨utf8Tabs_of_reads (ρ := Tryz.lays260_ren) Tryz.lays260 ⟨by kernel_rfl, by kernel_rfl, by kernel_rfl, by kernel_rfl, by kernel_rfl, by kernel_rfl, by kernel_rfl⟩ hF hA, ⟨_, World.var?_cell (g := 6) (by kernel_rfl) hv2 0, .inr ⟨_, _, rfl⟩⟩, ⟨_, World.var?_cell (g := 7) (by kernel_rfl) hv1 0, .inr ⟨_, _, rfl⟩⟩, ?_, ?_, ?_⟩
  · exact cell_of_shapedOpen_int (g := 8) (t := 3) (zero := #[.int .i64 0]) hsh (of_decide_eq_true (by kernel_rfl)) (by kernel_rfl) rfl (by kernel_rfl) (by kernel_rfl) Tryz.underlying3
  · exact float_cell (g := 3) (t := 77) (ds := dsOf (Rows.laid_math_pow10postab32 : DataW Unit)) hO (by kernel_rfl) (by kernel_rfl) Tryz.underlying77 Tryz.underlying58 (by kernel_rfl) (by decide) one_data
  · exact fun i hi => float_cell (g := 4) (t := 78) (ds := dsOf (Rows.laid_math_pow10tab : DataW Unit)) hT (by kernel_rfl) (by kernel_rfl) Tryz.underlying78 Tryz.underlying58 (by kernel_rfl) (by omega) (ten_data i hi)
end Go.Proofs.YteplbbjmbhgllaaGreatDoor

namespace Go.Proofs.YteplbbjmbhgllaaGreatDoor
open Go.RowKit Go.WideShapes Go.ChangeShapes
set_option linter.unusedVariables false
set_option linter.unusedSimpArgs false

section
variable {H : Type} {enc : TypeId × Value → H} {P : Program}
theorem trodAll_stays (hl : laidOutB P = true) {W W' : World} {sp : Nat → Bool} : ∀ {ts : List TypeId} {vs : List Value} {ds : List (DataW H)} {ps : List MemPlace},
    (∀ t ∈ ts, P.readableRec t = true ∧ t < P.types.size) → DataW.TrodAll enc P W 0 (fun _ => true) true ts vs ds ps → (∀ p ∈ ps, W.sameAt W' p) → (∀ p ∈ ps, sp p.block = true) →
    DataW.TrodAll enc P W' 0 sp true ts vs ds ps
  | [], vs, ds, ps, _, h, _, _ => by
    obtain ⟨rfl, rfl, rfl⟩ := trodAll_nil h
    exact trodAll_mk0
  | t :: ts, vs, ds, ps, ht, h, hs, hp => by
    obtain ⟨v, vs', d, ds', p, q, rfl, rfl, rfl, h0, r⟩ := trodAll_cons h
    have h1 := ht t (by simp)
    exact trodAll_cons_mk (WideElems.Trod_stays hl h1.1 h1.2 h0 (fun x hx => hs x (by simp [hx])) (fun x hx => hp x (by simp [hx])))
      (trodAll_stays hl (fun t' ht' => ht t' (by simp [ht'])) r (fun x hx => hs x (by simp [hx])) (fun x hx => hp x (by simp [hx])))

theorem law_post {t : TypeId} {f : Func} {s : ChangeSpec} {apart fresh : Bool} {W W' : World} {args : Array Value} {v : Value} {ds : List (DataW H)} {before : List MemPlace}
    (hl : laidOutB P = true) (hts : ∀ t ∈ f.params.toList, P.readableRec t = true ∧ t < P.types.size) (hv0 : s.vars = [])
    (hA : DataW.TrodAll enc P W 0 (fun _ => true) true f.params.toList args.toList ds before)
    (hW : DataW.Whole enc P f.params.toList s.vars apart W args.toList ds [] before)
    (hfn : s.fn H (ds ++ []) = { results := [.lit (.bool true)], args := ds })
    (hr : f.resultTypes = #[t]) (hb0 : P.underlying t = some .bool) (hb : Below W.heap.size W W') (hvb : v = .bool true) :
    s.post enc P f apart fresh false false W args v W' := by
  subst hvb
  have hlt : ∀ p ∈ before, p.block < W.heap.size := fun p hp => hW.lt p hp
  have hold : ∀ p ∈ before, (fun b => decide (b < W.heap.size)) p.block = true := fun p hp => by simpa using hlt p hp
  have hres : ∀ (b : Nat) (sp : Nat → Bool) (hd : Bool), DataW.TrodAll enc P W' b sp hd f.resultTypes.toList ((Value.bool true).resultList f.resultTypes.size) (s.fn H (ds ++ [])).results [] := by
    intro b sp hd
    rw [hfn, hr]
    exact trodAll_cons_mk (shut_bool hb0 _) trodAll_mk0
  have hargs : ∀ sp : Nat → Bool, (∀ p ∈ before, sp p.block = true) → DataW.TrodAll enc P W' 0 sp true f.params.toList args.toList (s.fn H (ds ++ [])).args before := by
    intro sp hsp
    rw [hfn]
    exact trodAll_stays hl hts hA (fun p hp => hb.same (hlt p hp)) hsp
  have hvars : ∀ sp : Nat → Bool, (∀ p ∈ before, sp p.block = true) → DataW.TrodVars enc P W' sp s.vars (s.fn H (ds ++ [])).vars [] := by
    intro sp hsp
    rw [hfn, hv0]
    rfl
  refine ⟨ds, [], before, [], before, [], hW, hres _ _ _, hargs _ hold, hvars _ hold, World.keptBut_mono (fun p hp => ⟨hp, Or.inr (Or.inl hp)⟩) (hb.frame (· ∈ before)), fun h => ?_⟩
  cases h
end

end Go.Proofs.YteplbbjmbhgllaaGreatDoor
