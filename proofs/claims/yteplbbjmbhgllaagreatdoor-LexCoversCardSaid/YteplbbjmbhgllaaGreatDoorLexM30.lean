/-
  The program's token: a character, a string.
  The program's token: a string.
-/
import Derived.Test.YteplbbjmbhgllaaGreatDoorLexM27
import Derived.Test.YteplbbjmbhgllaaGreatDoorLexP28
namespace Go.Proofs.YteplbbjmbhgllaaGreatDoor
open Go.RowKit
set_option linter.unusedVariables false
set_option linter.unusedSimpArgs false

set_option maxRecDepth 100000 in
set_option maxHeartbeats 8000000 in
theorem token_char (b : Nat) (hb : 13 ≤ b) (r : ByteArray) (hr : r.size ≤ 1048576) (h0 : 0 < r.size) (hbq : byteN r.data.toList 0 = 39) (hv : Lx.Val (r.data.toList.drop 1)) (p : Lx.Pl) (hp : PlaceOk 4194304 p) (w : World) (hcur : CurAt b r p w) (hT : Tabs w) :
    Calls Tryz.prog 19 #[.pointer (some ⟨b, 0, none⟩)] w fun e w' => PTok b r p e w' ∧ StepB b w w' := by
  have HT0 := Lib.hid hT
  have hlt := hcur.lt
  have hz : 13 ≤ w.heap.size := by omega
  have hcc := cells_of_block hcur
  have hc0 := hcc.1 0
  have hc1 := hcc.1 1
  have hc2 := hcc.1 2
  have hcf := hcc.2
  simp at hc0 hc1 hc2
  clear hcc
  have hA1 := cell_alloc_if
  have hA2 := frozen_alloc_if
  have hA3 := cell_set_if
  have hB0 : Below w.heap.size w (w.alloc (.cells #[.int .i64 0, .int .i64 0, .int .i64 0, .string ⟨#[]⟩, .int .u64 0, .string ⟨#[]⟩] 32)).drew := Below.drew ((Below.refl _ _).alloc (Nat.le_refl _) _)
  have HCA := Lib.hid (hcur.keep hB0)
  have HTA := Lib.hid (tabs_below hT hz hB0)
  have HRA : Hid ((w.alloc (.cells #[.int .i64 0, .int .i64 0, .int .i64 0, .string ⟨#[]⟩, .int .u64 0, .string ⟨#[]⟩] 32)).drew.heap[w.heap.size]? = some (.cells #[.int .i64 0, .int .i64 0, .int .i64 0, .string ⟨#[]⟩, .int .u64 0, .string ⟨#[]⟩] 32 (0, 0))) := Lib.hid (heap_alloc_new w _)
  have HSA : Hid (StepB b w (w.alloc (.cells #[.int .i64 0, .int .i64 0, .int .i64 0, .string ⟨#[]⟩, .int .u64 0, .string ⟨#[]⟩] 32)).drew) := Lib.hid (StepB.of (by omega) hB0)
  have HPK := Lib.hid (fun W (h : CurAt b r p W) => peek_any b r p W h)
  have hpk := pk_le r
  clear hB0 hcur hT
  have hL := pk_let h0
  rw [hbq] at hL
  have hD := pk_dig h0
  rw [hbq] at hD
  have hpq := (pk_eq h0 (v := 39) (by omega)).2 hbq
  have HLT := Lib.hid (fun W => letter_any (pk r) (by omega) W)
  rw [hL] at HLT
  have HDG := Lib.hid (fun W => digit_any (pk r) (by omega) W)
  rw [hD] at HDG
  rw [show Lx.isLet 39 = false from by decide] at HLT
  rw [show Lx.isDig 39 = false from by decide] at HDG
  clear hL hD
  have hQ : ∀ W, CurAt b r p W → Tabs W → Calls Tryz.prog 36 #[.pointer (some ⟨b, 0, none⟩), .int .i32 (pk r : Int)] W fun e w' => PQuo 39 b r p e w' ∧ StepB b W w' := fun W h1 h2 => by
    rw [hpq]
    exact quoted_any 39 (by omega) b hb r hr h0 hbq hv p hp W h1 h2
  unfold PQuo at hQ
  have hd39 : ((pk r : Int) == 39) = true := by simp [hpq]
  have hd34 : ((pk r : Int) == 34) = false := by simp [hpq]
  clear hpq hv
  generalize pk r = c at HPK HLT HDG hpk hQ hd39 hd34
  have htk := Lx.token_char (fl := Lx.flF) (L := r.data.toList) (by rw [szl]; exact h0) hbq
  cases hq : Lx.quoL 39 (r.data.toList.drop 1) [] 0 0 with
  | none =>
    rw [hq] at htk hQ
    have HT : Hid (Lx.tokenL Lx.flF r.data.toList = .error 2) := Lib.hid htk
    have HQ := Lib.hid hQ
    clear htk hq hQ hbq
    go_enter Tryz.func19, Tryz.ntmps19
    go_wp2
    go_region
    go_upto_region 13 with (first
  | (go_at_call 31; (with_reducible refine (HPK.out _ HCA.out).mono ?_); rintro e w5 ⟨rfl, hbl5⟩; have hz5 := hbl5.size; simp only [World.size_drew, World.size_alloc] at hz5; have HC5 := Lib.hid (HCA.out.keep hbl5); have HT5 := Lib.hid (tabs_below HTA.out (by simp only [World.size_drew, World.size_alloc]; omega) hbl5); have hR5 := (hbl5.block _ (by simp only [World.size_drew, World.size_alloc]; omega)).trans HRA.out; have HS5 := Lib.hid (HSA.out.trans (StepB.of (by simp only [World.size_drew, World.size_alloc]; omega) hbl5)))
  | (go_at_call 32; (with_reducible refine (HLT.out _).mono ?_); rintro e w' ⟨rfl, rfl⟩)
  | (go_at_call 34; (with_reducible refine (HDG.out _).mono ?_); rintro e w' ⟨rfl, rfl⟩))
    have hR := hR5
    have HC := HC5
    have HS := HS5
    clear hbl5 hR5
    have hcd := cells_of_block HC.out
    have hd0 := hcd.1 0
    have hdf := hcd.2
    (try simp at hd0)
    clear hcd
    have hcr := cells_of_block hR
    have hr0 := hcr.1 0
    have hr1 := hcr.1 1
    have hr2 := hcr.1 2
    have hr3 := hcr.1 3
    have hr4 := hcr.1 4
    have hr5 := hcr.1 5
    have hrf := hcr.2
    have hlz := (HS.out).1.size
    have hlR := (Array.getElem?_eq_some_iff.1 hR).1
    have HR := Lib.hid hR
    simp at hr0 hr1 hr2 hr3 hr4 hr5
    clear hcr hR
    go_upto_region 15 with (fail)
    refine wp_world (fun W => W.heap[w.heap.size]? = some (.cells #[.int .i64 5, .int .i64 0, .int .i64 0, .string ⟨#[]⟩, .int .u64 0, .string ⟨#[]⟩] 32 (0, 0)) ∧ Hid (CurAt b r p W) ∧ Hid (StepB b w W)) ⟨?_, Lib.hid ?_, Lib.hid ?_⟩ ?_
    · exact setC_at HR.out _ _
    · repeat (refine CurAt.setNew ?_ (by omega))
      exact HC.out
    · repeat (refine StepB.setNew ?_ (by omega) (by omega))
      exact HS.out
    clear hr0 hr1 hr2 hr3 hr4 hr5 hrf hd0 hdf hlz hlR HC HS HR
    rintro W6 ⟨hR, HC, HS⟩
    have hcd := cells_of_block HC.out
    have hd0 := hcd.1 0
    have hdf := hcd.2
    (try simp at hd0)
    clear hcd
    have hcr := cells_of_block hR
    have hr0 := hcr.1 0
    have hr1 := hcr.1 1
    have hr2 := hcr.1 2
    have hr3 := hcr.1 3
    have hr4 := hcr.1 4
    have hr5 := hcr.1 5
    have hrf := hcr.2
    have hlz := (HS.out).1.size
    have hlR := (Array.getElem?_eq_some_iff.1 hR).1
    have HR := Lib.hid hR
    simp at hr0 hr1 hr2 hr3 hr4 hr5
    clear hcr hR
    go_wp2_with (go_at_call 36; refine (HQ.out _ HC.out (HS.out.tabs hb HT0.out)).mono ?_)
    rintro e w8 ⟨rfl, hst⟩
    have hR := (hst.2 _ (by omega) (by omega)).trans HR.out
    have HS1 := Lib.hid (HS.out.trans hst)
    clear hr0 hr1 hr2 hr3 hr4 hr5 hrf hd0 hdf hlz hlR HC HS HR hst
    have HS := HS1
    clear HS1
    have hcr := cells_of_block hR
    have hr0 := hcr.1 0
    have hr1 := hcr.1 1
    have hr2 := hcr.1 2
    have hr3 := hcr.1 3
    have hr4 := hcr.1 4
    have hr5 := hcr.1 5
    have hrf := hcr.2
    have hlz := (HS.out).1.size
    have hlR := (Array.getElem?_eq_some_iff.1 hR).1
    have HR := Lib.hid hR
    simp at hr0 hr1 hr2 hr3 hr4 hr5
    clear hcr hR
    go_wp2
    all_goals ((try simp only [Exit.inBlock, Exit.then]); go_light; refine bodyPost_ret (by simp [results, Tryz.results19, go_sem, *, ↓IntWalk.iteOmega]; try rfl) rfl ?_)
    refine ⟨ptok_err HT.out rfl (isTok _ _ _ _ _ _), ?_⟩
    repeat (refine StepB.setNew ?_ (by omega) (by omega))
    exact HS.out
  | some o =>
    rw [hq] at htk hQ
    dsimp only at htk hQ
    obtain ⟨D, n, last, rest⟩ := o
    dsimp only at htk hQ
    obtain ⟨k, hk⟩ : ∃ k, r.size - rest.length = k := ⟨_, rfl⟩
    rw [szl, hk] at htk
    rw [hk] at hQ
    have hkl : k ≤ r.size := by omega
    clear hk hq hbq
    have HRZ := Lib.hid (drop_size r k)
    obtain ⟨rk, hrk⟩ : ∃ rk, r.extract k r.size = rk := ⟨_, rfl⟩
    obtain ⟨pq, hpq⟩ : ∃ pq, Lx.moved p (r.data.toList.take k) = pq := ⟨_, rfl⟩
    rw [hrk, hpq] at hQ
    rw [hrk] at HRZ
    have HRK := Lib.hid hrk
    have HPQ := Lib.hid hpq
    have hzI : (r.size : Int) - (rk.size : Int) = (k : Int) := by have := HRZ.out; omega
    have hzL : rk.size ≤ r.size := by omega
    have HQ := Lib.hid hQ
    clear hrk hpq hQ
    obtain ⟨da, hda⟩ : ∃ da : ByteArray, (⟨D.toArray⟩ : ByteArray) = da := ⟨_, rfl⟩
    rw [hda] at HQ
    have HDA := Lib.hid hda
    clear hda
    by_cases hn : n = 1
    · have HT : Hid (Lx.tokenL Lx.flF r.data.toList = .ok ⟨5, k, last, []⟩) := Lib.hid (htk.trans (if_pos hn))
      have dn : ((n : Int) == 1) = true := by simp [hn]
      clear htk hn
      go_enter Tryz.func19, Tryz.ntmps19
      go_wp2
      go_region
      go_upto_region 13 with (first
  | (go_at_call 31; (with_reducible refine (HPK.out _ HCA.out).mono ?_); rintro e w5 ⟨rfl, hbl5⟩; have hz5 := hbl5.size; simp only [World.size_drew, World.size_alloc] at hz5; have HC5 := Lib.hid (HCA.out.keep hbl5); have HT5 := Lib.hid (tabs_below HTA.out (by simp only [World.size_drew, World.size_alloc]; omega) hbl5); have hR5 := (hbl5.block _ (by simp only [World.size_drew, World.size_alloc]; omega)).trans HRA.out; have HS5 := Lib.hid (HSA.out.trans (StepB.of (by simp only [World.size_drew, World.size_alloc]; omega) hbl5)))
  | (go_at_call 32; (with_reducible refine (HLT.out _).mono ?_); rintro e w' ⟨rfl, rfl⟩)
  | (go_at_call 34; (with_reducible refine (HDG.out _).mono ?_); rintro e w' ⟨rfl, rfl⟩))
      have hR := hR5
      have HC := HC5
      have HS := HS5
      clear hbl5 hR5
      have hcd := cells_of_block HC.out
      have hd0 := hcd.1 0
      have hdf := hcd.2
      (try simp at hd0)
      clear hcd
      have hcr := cells_of_block hR
      have hr0 := hcr.1 0
      have hr1 := hcr.1 1
      have hr2 := hcr.1 2
      have hr3 := hcr.1 3
      have hr4 := hcr.1 4
      have hr5 := hcr.1 5
      have hrf := hcr.2
      have hlz := (HS.out).1.size
      have hlR := (Array.getElem?_eq_some_iff.1 hR).1
      have HR := Lib.hid hR
      simp at hr0 hr1 hr2 hr3 hr4 hr5
      clear hcr hR
      go_upto_region 15 with (fail)
      refine wp_world (fun W => W.heap[w.heap.size]? = some (.cells #[.int .i64 5, .int .i64 0, .int .i64 0, .string ⟨#[]⟩, .int .u64 0, .string ⟨#[]⟩] 32 (0, 0)) ∧ Hid (CurAt b r p W) ∧ Hid (StepB b w W)) ⟨?_, Lib.hid ?_, Lib.hid ?_⟩ ?_
      · exact setC_at HR.out _ _
      · repeat (refine CurAt.setNew ?_ (by omega))
        exact HC.out
      · repeat (refine StepB.setNew ?_ (by omega) (by omega))
        exact HS.out
      clear hr0 hr1 hr2 hr3 hr4 hr5 hrf hd0 hdf hlz hlR HC HS HR
      rintro W6 ⟨hR, HC, HS⟩
      have hcd := cells_of_block HC.out
      have hd0 := hcd.1 0
      have hdf := hcd.2
      (try simp at hd0)
      clear hcd
      have hcr := cells_of_block hR
      have hr0 := hcr.1 0
      have hr1 := hcr.1 1
      have hr2 := hcr.1 2
      have hr3 := hcr.1 3
      have hr4 := hcr.1 4
      have hr5 := hcr.1 5
      have hrf := hcr.2
      have hlz := (HS.out).1.size
      have hlR := (Array.getElem?_eq_some_iff.1 hR).1
      have HR := Lib.hid hR
      simp at hr0 hr1 hr2 hr3 hr4 hr5
      clear hcr hR
      go_wp2_with (go_at_call 36; refine (HQ.out _ HC.out (HS.out.tabs hb HT0.out)).mono ?_)
      rintro e w8 ⟨⟨rfl, hcu⟩, hst⟩
      have hR := (hst.2 _ (by omega) (by omega)).trans HR.out
      have HS1 := Lib.hid (HS.out.trans hst)
      clear hr0 hr1 hr2 hr3 hr4 hr5 hrf hd0 hdf hlz hlR HC HS HR hst
      have HS := HS1
      clear HS1
      have hcr := cells_of_block hR
      have hr0 := hcr.1 0
      have hr1 := hcr.1 1
      have hr2 := hcr.1 2
      have hr3 := hcr.1 3
      have hr4 := hcr.1 4
      have hr5 := hcr.1 5
      have hrf := hcr.2
      have hlz := (HS.out).1.size
      have hlR := (Array.getElem?_eq_some_iff.1 hR).1
      have HR := Lib.hid hR
      simp at hr0 hr1 hr2 hr3 hr4 hr5
      clear hcr hR
      have HC := Lib.hid hcu
      have hcd := cells_of_block HC.out
      have hd0 := hcd.1 0
      have hdf := hcd.2
      (try simp at hd0)
      clear hcd hcu
      go_upto_region 20 with (fail)
      refine wp_world (fun W => W.heap[w.heap.size]? = some (.cells #[.int .i64 5, .int .i64 0, .int .i64 0, .string ⟨#[]⟩, .int .u64 (last : Int), .string ⟨#[]⟩] 32 (0, 0)) ∧ Hid (CurAt b rk pq W) ∧ Hid (StepB b w W)) ⟨?_, Lib.hid ?_, Lib.hid ?_⟩ ?_
      · exact setC_at HR.out _ _
      · repeat (refine CurAt.setNew ?_ (by omega))
        exact HC.out
      · repeat (refine StepB.setNew ?_ (by omega) (by omega))
        exact HS.out
      clear hr0 hr1 hr2 hr3 hr4 hr5 hrf hd0 hdf hlz hlR HC HS HR
      rintro W10 ⟨hR, HC, HS⟩
      have hcd := cells_of_block HC.out
      have hd0 := hcd.1 0
      have hdf := hcd.2
      (try simp at hd0)
      clear hcd
      have hcr := cells_of_block hR
      have hr0 := hcr.1 0
      have hr1 := hcr.1 1
      have hr2 := hcr.1 2
      have hr3 := hcr.1 3
      have hr4 := hcr.1 4
      have hr5 := hcr.1 5
      have hrf := hcr.2
      have hlz := (HS.out).1.size
      have hlR := (Array.getElem?_eq_some_iff.1 hR).1
      have HR := Lib.hid hR
      simp at hr0 hr1 hr2 hr3 hr4 hr5
      clear hcr hR
      go_upto_region 23 with (fail)
      refine wp_world (fun W => W.heap[w.heap.size]? = some (.cells #[.int .i64 5, .int .i64 0, .int .i64 0, .string (r.extract 0 k), .int .u64 (last : Int), .string ⟨#[]⟩] 32 (0, 0)) ∧ Hid (CurAt b rk pq W) ∧ Hid (StepB b w W)) ⟨?_, Lib.hid ?_, Lib.hid ?_⟩ ?_
      · exact setC_at HR.out _ _
      · repeat (refine CurAt.setNew ?_ (by omega))
        exact HC.out
      · repeat (refine StepB.setNew ?_ (by omega) (by omega))
        exact HS.out
      clear hr0 hr1 hr2 hr3 hr4 hr5 hrf hd0 hdf hlz hlR HC HS HR
      rintro W9 ⟨hR, HC, HS⟩
      have hcd := cells_of_block HC.out
      have hd0 := hcd.1 0
      have hdf := hcd.2
      (try simp at hd0)
      clear hcd
      have hcr := cells_of_block hR
      have hr0 := hcr.1 0
      have hr1 := hcr.1 1
      have hr2 := hcr.1 2
      have hr3 := hcr.1 3
      have hr4 := hcr.1 4
      have hr5 := hcr.1 5
      have hrf := hcr.2
      have hlz := (HS.out).1.size
      have hlR := (Array.getElem?_eq_some_iff.1 hR).1
      have HR := Lib.hid hR
      simp at hr0 hr1 hr2 hr3 hr4 hr5
      clear hcr hR
      go_wp2
      all_goals ((try simp only [Exit.inBlock, Exit.then]); go_light; refine bodyPost_ret (by simp [results, Tryz.results19, go_sem, *, ↓IntWalk.iteOmega]; try rfl) rfl ?_)
      refine ⟨ptok_ok HT.out rfl ?_, ?_⟩
      · show CurAt b (r.extract k r.size) (Lx.moved p (r.data.toList.take k)) _
        rw [HRK.out, HPQ.out]
        repeat (refine CurAt.setNew ?_ (by omega))
        exact HC.out
      · repeat (refine StepB.setNew ?_ (by omega) (by omega))
        exact HS.out
    · have HT : Hid (Lx.tokenL Lx.flF r.data.toList = .error 2) := Lib.hid (htk.trans (if_neg hn))
      have dn : ((n : Int) == 1) = false := by simp; omega
      clear htk hn
      go_enter Tryz.func19, Tryz.ntmps19
      go_wp2
      go_region
      go_upto_region 13 with (first
  | (go_at_call 31; (with_reducible refine (HPK.out _ HCA.out).mono ?_); rintro e w5 ⟨rfl, hbl5⟩; have hz5 := hbl5.size; simp only [World.size_drew, World.size_alloc] at hz5; have HC5 := Lib.hid (HCA.out.keep hbl5); have HT5 := Lib.hid (tabs_below HTA.out (by simp only [World.size_drew, World.size_alloc]; omega) hbl5); have hR5 := (hbl5.block _ (by simp only [World.size_drew, World.size_alloc]; omega)).trans HRA.out; have HS5 := Lib.hid (HSA.out.trans (StepB.of (by simp only [World.size_drew, World.size_alloc]; omega) hbl5)))
  | (go_at_call 32; (with_reducible refine (HLT.out _).mono ?_); rintro e w' ⟨rfl, rfl⟩)
  | (go_at_call 34; (with_reducible refine (HDG.out _).mono ?_); rintro e w' ⟨rfl, rfl⟩))
      have hR := hR5
      have HC := HC5
      have HS := HS5
      clear hbl5 hR5
      have hcd := cells_of_block HC.out
      have hd0 := hcd.1 0
      have hdf := hcd.2
      (try simp at hd0)
      clear hcd
      have hcr := cells_of_block hR
      have hr0 := hcr.1 0
      have hr1 := hcr.1 1
      have hr2 := hcr.1 2
      have hr3 := hcr.1 3
      have hr4 := hcr.1 4
      have hr5 := hcr.1 5
      have hrf := hcr.2
      have hlz := (HS.out).1.size
      have hlR := (Array.getElem?_eq_some_iff.1 hR).1
      have HR := Lib.hid hR
      simp at hr0 hr1 hr2 hr3 hr4 hr5
      clear hcr hR
      go_upto_region 15 with (fail)
      refine wp_world (fun W => W.heap[w.heap.size]? = some (.cells #[.int .i64 5, .int .i64 0, .int .i64 0, .string ⟨#[]⟩, .int .u64 0, .string ⟨#[]⟩] 32 (0, 0)) ∧ Hid (CurAt b r p W) ∧ Hid (StepB b w W)) ⟨?_, Lib.hid ?_, Lib.hid ?_⟩ ?_
      · exact setC_at HR.out _ _
      · repeat (refine CurAt.setNew ?_ (by omega))
        exact HC.out
      · repeat (refine StepB.setNew ?_ (by omega) (by omega))
        exact HS.out
      clear hr0 hr1 hr2 hr3 hr4 hr5 hrf hd0 hdf hlz hlR HC HS HR
      rintro W6 ⟨hR, HC, HS⟩
      have hcd := cells_of_block HC.out
      have hd0 := hcd.1 0
      have hdf := hcd.2
      (try simp at hd0)
      clear hcd
      have hcr := cells_of_block hR
      have hr0 := hcr.1 0
      have hr1 := hcr.1 1
      have hr2 := hcr.1 2
      have hr3 := hcr.1 3
      have hr4 := hcr.1 4
      have hr5 := hcr.1 5
      have hrf := hcr.2
      have hlz := (HS.out).1.size
      have hlR := (Array.getElem?_eq_some_iff.1 hR).1
      have HR := Lib.hid hR
      simp at hr0 hr1 hr2 hr3 hr4 hr5
      clear hcr hR
      go_wp2_with (go_at_call 36; refine (HQ.out _ HC.out (HS.out.tabs hb HT0.out)).mono ?_)
      rintro e w8 ⟨⟨rfl, hcu⟩, hst⟩
      have hR := (hst.2 _ (by omega) (by omega)).trans HR.out
      have HS1 := Lib.hid (HS.out.trans hst)
      clear hr0 hr1 hr2 hr3 hr4 hr5 hrf hd0 hdf hlz hlR HC HS HR hst
      have HS := HS1
      clear HS1
      have hcr := cells_of_block hR
      have hr0 := hcr.1 0
      have hr1 := hcr.1 1
      have hr2 := hcr.1 2
      have hr3 := hcr.1 3
      have hr4 := hcr.1 4
      have hr5 := hcr.1 5
      have hrf := hcr.2
      have hlz := (HS.out).1.size
      have hlR := (Array.getElem?_eq_some_iff.1 hR).1
      have HR := Lib.hid hR
      simp at hr0 hr1 hr2 hr3 hr4 hr5
      clear hcr hR
      go_wp2
      all_goals ((try simp only [Exit.inBlock, Exit.then]); go_light; refine bodyPost_ret (by simp [results, Tryz.results19, go_sem, *, ↓IntWalk.iteOmega]; try rfl) rfl ?_)
      refine ⟨ptok_err HT.out rfl (isTok _ _ _ _ _ _), ?_⟩
      repeat (refine StepB.setNew ?_ (by omega) (by omega))
      exact HS.out
end Go.Proofs.YteplbbjmbhgllaaGreatDoor

namespace Go.Proofs.YteplbbjmbhgllaaGreatDoor
open Go.RowKit
set_option linter.unusedVariables false
set_option linter.unusedSimpArgs false

set_option maxRecDepth 100000 in
set_option maxHeartbeats 8000000 in
theorem token_text (b : Nat) (hb : 13 ≤ b) (r : ByteArray) (hr : r.size ≤ 1048576) (h0 : 0 < r.size) (hbq : byteN r.data.toList 0 = 34) (hv : Lx.Val (r.data.toList.drop 1)) (p : Lx.Pl) (hp : PlaceOk 4194304 p) (w : World) (hcur : CurAt b r p w) (hT : Tabs w) :
    Calls Tryz.prog 19 #[.pointer (some ⟨b, 0, none⟩)] w fun e w' => PTok b r p e w' ∧ StepB b w w' := by
  have HT0 := Lib.hid hT
  have hlt := hcur.lt
  have hz : 13 ≤ w.heap.size := by omega
  have hcc := cells_of_block hcur
  have hc0 := hcc.1 0
  have hc1 := hcc.1 1
  have hc2 := hcc.1 2
  have hcf := hcc.2
  simp at hc0 hc1 hc2
  clear hcc
  have hA1 := cell_alloc_if
  have hA2 := frozen_alloc_if
  have hA3 := cell_set_if
  have hB0 : Below w.heap.size w (w.alloc (.cells #[.int .i64 0, .int .i64 0, .int .i64 0, .string ⟨#[]⟩, .int .u64 0, .string ⟨#[]⟩] 32)).drew := Below.drew ((Below.refl _ _).alloc (Nat.le_refl _) _)
  have HCA := Lib.hid (hcur.keep hB0)
  have HTA := Lib.hid (tabs_below hT hz hB0)
  have HRA : Hid ((w.alloc (.cells #[.int .i64 0, .int .i64 0, .int .i64 0, .string ⟨#[]⟩, .int .u64 0, .string ⟨#[]⟩] 32)).drew.heap[w.heap.size]? = some (.cells #[.int .i64 0, .int .i64 0, .int .i64 0, .string ⟨#[]⟩, .int .u64 0, .string ⟨#[]⟩] 32 (0, 0))) := Lib.hid (heap_alloc_new w _)
  have HSA : Hid (StepB b w (w.alloc (.cells #[.int .i64 0, .int .i64 0, .int .i64 0, .string ⟨#[]⟩, .int .u64 0, .string ⟨#[]⟩] 32)).drew) := Lib.hid (StepB.of (by omega) hB0)
  have HPK := Lib.hid (fun W (h : CurAt b r p W) => peek_any b r p W h)
  have hpk := pk_le r
  clear hB0 hcur hT
  have hL := pk_let h0
  rw [hbq] at hL
  have hD := pk_dig h0
  rw [hbq] at hD
  have hpq := (pk_eq h0 (v := 34) (by omega)).2 hbq
  have HLT := Lib.hid (fun W => letter_any (pk r) (by omega) W)
  rw [hL] at HLT
  have HDG := Lib.hid (fun W => digit_any (pk r) (by omega) W)
  rw [hD] at HDG
  rw [show Lx.isLet 34 = false from by decide] at HLT
  rw [show Lx.isDig 34 = false from by decide] at HDG
  clear hL hD
  have hQ : ∀ W, CurAt b r p W → Tabs W → Calls Tryz.prog 36 #[.pointer (some ⟨b, 0, none⟩), .int .i32 (pk r : Int)] W fun e w' => PQuo 34 b r p e w' ∧ StepB b W w' := fun W h1 h2 => by
    rw [hpq]
    exact quoted_any 34 (by omega) b hb r hr h0 hbq hv p hp W h1 h2
  unfold PQuo at hQ
  have hd39 : ((pk r : Int) == 39) = false := by simp [hpq]
  have hd34 : ((pk r : Int) == 34) = true := by simp [hpq]
  clear hpq hv
  generalize pk r = c at HPK HLT HDG hpk hQ hd39 hd34
  have htk := Lx.token_text (fl := Lx.flF) (L := r.data.toList) (by rw [szl]; exact h0) hbq
  cases hq : Lx.quoL 34 (r.data.toList.drop 1) [] 0 0 with
  | none =>
    rw [hq] at htk hQ
    have HT : Hid (Lx.tokenL Lx.flF r.data.toList = .error 2) := Lib.hid htk
    have HQ := Lib.hid hQ
    clear htk hq hQ hbq
    go_enter Tryz.func19, Tryz.ntmps19
    go_wp2
    go_region
    go_upto_region 18 with (first
  | (go_at_call 31; (with_reducible refine (HPK.out _ HCA.out).mono ?_); rintro e w5 ⟨rfl, hbl5⟩; have hz5 := hbl5.size; simp only [World.size_drew, World.size_alloc] at hz5; have HC5 := Lib.hid (HCA.out.keep hbl5); have HT5 := Lib.hid (tabs_below HTA.out (by simp only [World.size_drew, World.size_alloc]; omega) hbl5); have hR5 := (hbl5.block _ (by simp only [World.size_drew, World.size_alloc]; omega)).trans HRA.out; have HS5 := Lib.hid (HSA.out.trans (StepB.of (by simp only [World.size_drew, World.size_alloc]; omega) hbl5)))
  | (go_at_call 32; (with_reducible refine (HLT.out _).mono ?_); rintro e w' ⟨rfl, rfl⟩)
  | (go_at_call 34; (with_reducible refine (HDG.out _).mono ?_); rintro e w' ⟨rfl, rfl⟩))
    have hR := hR5
    have HC := HC5
    have HS := HS5
    clear hbl5 hR5
    have hcd := cells_of_block HC.out
    have hd0 := hcd.1 0
    have hdf := hcd.2
    (try simp at hd0)
    clear hcd
    have hcr := cells_of_block hR
    have hr0 := hcr.1 0
    have hr1 := hcr.1 1
    have hr2 := hcr.1 2
    have hr3 := hcr.1 3
    have hr4 := hcr.1 4
    have hr5 := hcr.1 5
    have hrf := hcr.2
    have hlz := (HS.out).1.size
    have hlR := (Array.getElem?_eq_some_iff.1 hR).1
    have HR := Lib.hid hR
    simp at hr0 hr1 hr2 hr3 hr4 hr5
    clear hcr hR
    go_upto_region 19 with (fail)
    refine wp_world (fun W => W.heap[w.heap.size]? = some (.cells #[.int .i64 6, .int .i64 0, .int .i64 0, .string ⟨#[]⟩, .int .u64 0, .string ⟨#[]⟩] 32 (0, 0)) ∧ Hid (CurAt b r p W) ∧ Hid (StepB b w W)) ⟨?_, Lib.hid ?_, Lib.hid ?_⟩ ?_
    · exact setC_at HR.out _ _
    · repeat (refine CurAt.setNew ?_ (by omega))
      exact HC.out
    · repeat (refine StepB.setNew ?_ (by omega) (by omega))
      exact HS.out
    clear hr0 hr1 hr2 hr3 hr4 hr5 hrf hd0 hdf hlz hlR HC HS HR
    rintro W6 ⟨hR, HC, HS⟩
    have hcd := cells_of_block HC.out
    have hd0 := hcd.1 0
    have hdf := hcd.2
    (try simp at hd0)
    clear hcd
    have hcr := cells_of_block hR
    have hr0 := hcr.1 0
    have hr1 := hcr.1 1
    have hr2 := hcr.1 2
    have hr3 := hcr.1 3
    have hr4 := hcr.1 4
    have hr5 := hcr.1 5
    have hrf := hcr.2
    have hlz := (HS.out).1.size
    have hlR := (Array.getElem?_eq_some_iff.1 hR).1
    have HR := Lib.hid hR
    simp at hr0 hr1 hr2 hr3 hr4 hr5
    clear hcr hR
    go_wp2_with (go_at_call 36; refine (HQ.out _ HC.out (HS.out.tabs hb HT0.out)).mono ?_)
    rintro e w8 ⟨rfl, hst⟩
    have hR := (hst.2 _ (by omega) (by omega)).trans HR.out
    have HS1 := Lib.hid (HS.out.trans hst)
    clear hr0 hr1 hr2 hr3 hr4 hr5 hrf hd0 hdf hlz hlR HC HS HR hst
    have HS := HS1
    clear HS1
    have hcr := cells_of_block hR
    have hr0 := hcr.1 0
    have hr1 := hcr.1 1
    have hr2 := hcr.1 2
    have hr3 := hcr.1 3
    have hr4 := hcr.1 4
    have hr5 := hcr.1 5
    have hrf := hcr.2
    have hlz := (HS.out).1.size
    have hlR := (Array.getElem?_eq_some_iff.1 hR).1
    have HR := Lib.hid hR
    simp at hr0 hr1 hr2 hr3 hr4 hr5
    clear hcr hR
    go_wp2
    all_goals ((try simp only [Exit.inBlock, Exit.then]); go_light; refine bodyPost_ret (by simp [results, Tryz.results19, go_sem, *, ↓IntWalk.iteOmega]; try rfl) rfl ?_)
    refine ⟨ptok_err HT.out rfl (isTok _ _ _ _ _ _), ?_⟩
    repeat (refine StepB.setNew ?_ (by omega) (by omega))
    exact HS.out
  | some o =>
    rw [hq] at htk hQ
    dsimp only at htk hQ
    obtain ⟨D, n, last, rest⟩ := o
    dsimp only at htk hQ
    obtain ⟨k, hk⟩ : ∃ k, r.size - rest.length = k := ⟨_, rfl⟩
    rw [szl, hk] at htk
    rw [hk] at hQ
    have hkl : k ≤ r.size := by omega
    clear hk hq hbq
    have HRZ := Lib.hid (drop_size r k)
    obtain ⟨rk, hrk⟩ : ∃ rk, r.extract k r.size = rk := ⟨_, rfl⟩
    obtain ⟨pq, hpq⟩ : ∃ pq, Lx.moved p (r.data.toList.take k) = pq := ⟨_, rfl⟩
    rw [hrk, hpq] at hQ
    rw [hrk] at HRZ
    have HRK := Lib.hid hrk
    have HPQ := Lib.hid hpq
    have hzI : (r.size : Int) - (rk.size : Int) = (k : Int) := by have := HRZ.out; omega
    have hzL : rk.size ≤ r.size := by omega
    have HQ := Lib.hid hQ
    clear hrk hpq hQ
    have HT : Hid (Lx.tokenL Lx.flF r.data.toList = .ok ⟨6, k, 0, D⟩) := Lib.hid htk
    clear htk
    go_enter Tryz.func19, Tryz.ntmps19
    go_wp2
    go_region
    go_upto_region 18 with (first
  | (go_at_call 31; (with_reducible refine (HPK.out _ HCA.out).mono ?_); rintro e w5 ⟨rfl, hbl5⟩; have hz5 := hbl5.size; simp only [World.size_drew, World.size_alloc] at hz5; have HC5 := Lib.hid (HCA.out.keep hbl5); have HT5 := Lib.hid (tabs_below HTA.out (by simp only [World.size_drew, World.size_alloc]; omega) hbl5); have hR5 := (hbl5.block _ (by simp only [World.size_drew, World.size_alloc]; omega)).trans HRA.out; have HS5 := Lib.hid (HSA.out.trans (StepB.of (by simp only [World.size_drew, World.size_alloc]; omega) hbl5)))
  | (go_at_call 32; (with_reducible refine (HLT.out _).mono ?_); rintro e w' ⟨rfl, rfl⟩)
  | (go_at_call 34; (with_reducible refine (HDG.out _).mono ?_); rintro e w' ⟨rfl, rfl⟩))
    have hR := hR5
    have HC := HC5
    have HS := HS5
    clear hbl5 hR5
    have hcd := cells_of_block HC.out
    have hd0 := hcd.1 0
    have hdf := hcd.2
    (try simp at hd0)
    clear hcd
    have hcr := cells_of_block hR
    have hr0 := hcr.1 0
    have hr1 := hcr.1 1
    have hr2 := hcr.1 2
    have hr3 := hcr.1 3
    have hr4 := hcr.1 4
    have hr5 := hcr.1 5
    have hrf := hcr.2
    have hlz := (HS.out).1.size
    have hlR := (Array.getElem?_eq_some_iff.1 hR).1
    have HR := Lib.hid hR
    simp at hr0 hr1 hr2 hr3 hr4 hr5
    clear hcr hR
    go_upto_region 19 with (fail)
    refine wp_world (fun W => W.heap[w.heap.size]? = some (.cells #[.int .i64 6, .int .i64 0, .int .i64 0, .string ⟨#[]⟩, .int .u64 0, .string ⟨#[]⟩] 32 (0, 0)) ∧ Hid (CurAt b r p W) ∧ Hid (StepB b w W)) ⟨?_, Lib.hid ?_, Lib.hid ?_⟩ ?_
    · exact setC_at HR.out _ _
    · repeat (refine CurAt.setNew ?_ (by omega))
      exact HC.out
    · repeat (refine StepB.setNew ?_ (by omega) (by omega))
      exact HS.out
    clear hr0 hr1 hr2 hr3 hr4 hr5 hrf hd0 hdf hlz hlR HC HS HR
    rintro W6 ⟨hR, HC, HS⟩
    have hcd := cells_of_block HC.out
    have hd0 := hcd.1 0
    have hdf := hcd.2
    (try simp at hd0)
    clear hcd
    have hcr := cells_of_block hR
    have hr0 := hcr.1 0
    have hr1 := hcr.1 1
    have hr2 := hcr.1 2
    have hr3 := hcr.1 3
    have hr4 := hcr.1 4
    have hr5 := hcr.1 5
    have hrf := hcr.2
    have hlz := (HS.out).1.size
    have hlR := (Array.getElem?_eq_some_iff.1 hR).1
    have HR := Lib.hid hR
    simp at hr0 hr1 hr2 hr3 hr4 hr5
    clear hcr hR
    go_wp2_with (go_at_call 36; refine (HQ.out _ HC.out (HS.out.tabs hb HT0.out)).mono ?_)
    rintro e w8 ⟨⟨rfl, hcu⟩, hst⟩
    have hR := (hst.2 _ (by omega) (by omega)).trans HR.out
    have HS1 := Lib.hid (HS.out.trans hst)
    clear hr0 hr1 hr2 hr3 hr4 hr5 hrf hd0 hdf hlz hlR HC HS HR hst
    have HS := HS1
    clear HS1
    have hcr := cells_of_block hR
    have hr0 := hcr.1 0
    have hr1 := hcr.1 1
    have hr2 := hcr.1 2
    have hr3 := hcr.1 3
    have hr4 := hcr.1 4
    have hr5 := hcr.1 5
    have hrf := hcr.2
    have hlz := (HS.out).1.size
    have hlR := (Array.getElem?_eq_some_iff.1 hR).1
    have HR := Lib.hid hR
    simp at hr0 hr1 hr2 hr3 hr4 hr5
    clear hcr hR
    have HC := Lib.hid hcu
    have hcd := cells_of_block HC.out
    have hd0 := hcd.1 0
    have hdf := hcd.2
    (try simp at hd0)
    clear hcd hcu
    go_upto_region 20 with (fail)
    refine wp_world (fun W => W.heap[w.heap.size]? = some (.cells #[.int .i64 6, .int .i64 0, .int .i64 0, .string ⟨#[]⟩, .int .u64 0, .string ⟨D.toArray⟩] 32 (0, 0)) ∧ Hid (CurAt b rk pq W) ∧ Hid (StepB b w W)) ⟨?_, Lib.hid ?_, Lib.hid ?_⟩ ?_
    · exact setC_at HR.out _ _
    · repeat (refine CurAt.setNew ?_ (by omega))
      exact HC.out
    · repeat (refine StepB.setNew ?_ (by omega) (by omega))
      exact HS.out
    clear hr0 hr1 hr2 hr3 hr4 hr5 hrf hd0 hdf hlz hlR HC HS HR
    rintro W10 ⟨hR, HC, HS⟩
    have hcd := cells_of_block HC.out
    have hd0 := hcd.1 0
    have hdf := hcd.2
    (try simp at hd0)
    clear hcd
    have hcr := cells_of_block hR
    have hr0 := hcr.1 0
    have hr1 := hcr.1 1
    have hr2 := hcr.1 2
    have hr3 := hcr.1 3
    have hr4 := hcr.1 4
    have hr5 := hcr.1 5
    have hrf := hcr.2
    have hlz := (HS.out).1.size
    have hlR := (Array.getElem?_eq_some_iff.1 hR).1
    have HR := Lib.hid hR
    simp at hr0 hr1 hr2 hr3 hr4 hr5
    clear hcr hR
    go_upto_region 23 with (fail)
    refine wp_world (fun W => W.heap[w.heap.size]? = some (.cells #[.int .i64 6, .int .i64 0, .int .i64 0, .string (r.extract 0 k), .int .u64 0, .string ⟨D.toArray⟩] 32 (0, 0)) ∧ Hid (CurAt b rk pq W) ∧ Hid (StepB b w W)) ⟨?_, Lib.hid ?_, Lib.hid ?_⟩ ?_
    · exact setC_at HR.out _ _
    · repeat (refine CurAt.setNew ?_ (by omega))
      exact HC.out
    · repeat (refine StepB.setNew ?_ (by omega) (by omega))
      exact HS.out
    clear hr0 hr1 hr2 hr3 hr4 hr5 hrf hd0 hdf hlz hlR HC HS HR
    rintro W9 ⟨hR, HC, HS⟩
    have hcd := cells_of_block HC.out
    have hd0 := hcd.1 0
    have hdf := hcd.2
    (try simp at hd0)
    clear hcd
    have hcr := cells_of_block hR
    have hr0 := hcr.1 0
    have hr1 := hcr.1 1
    have hr2 := hcr.1 2
    have hr3 := hcr.1 3
    have hr4 := hcr.1 4
    have hr5 := hcr.1 5
    have hrf := hcr.2
    have hlz := (HS.out).1.size
    have hlR := (Array.getElem?_eq_some_iff.1 hR).1
    have HR := Lib.hid hR
    simp at hr0 hr1 hr2 hr3 hr4 hr5
    clear hcr hR
    go_wp2
    all_goals ((try simp only [Exit.inBlock, Exit.then]); go_light; refine bodyPost_ret (by simp [results, Tryz.results19, go_sem, *, ↓IntWalk.iteOmega]; try rfl) rfl ?_)
    refine ⟨ptok_ok HT.out rfl ?_, ?_⟩
    · show CurAt b (r.extract k r.size) (Lx.moved p (r.data.toList.take k)) _
      rw [HRK.out, HPQ.out]
      repeat (refine CurAt.setNew ?_ (by omega))
      exact HC.out
    · repeat (refine StepB.setNew ?_ (by omega) (by omega))
      exact HS.out
end Go.Proofs.YteplbbjmbhgllaaGreatDoor
