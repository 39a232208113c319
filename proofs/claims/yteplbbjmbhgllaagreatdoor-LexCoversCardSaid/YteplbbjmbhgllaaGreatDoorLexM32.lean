/-
  The program's Tokens.
  The statement's same: the same tokens.
-/
import Derived.Test.YteplbbjmbhgllaaGreatDoorLexM31
namespace Go.Proofs.YteplbbjmbhgllaaGreatDoor
open Go.RowKit
set_option linter.unusedVariables false
set_option linter.unusedSimpArgs false

/-- while over blanks. -/
theorem blanks_any (b : Nat) (hb : 13 ≤ b) (r : ByteArray) (hr : r.size ≤ 1048576) (p : Lx.Pl) (hp : PlaceOk 4194304 p) (w : World) (h : CurAt b r p w) (hT : Tabs w) :
    Calls Tryz.prog 18 #[.pointer (some ⟨b, 0, none⟩), .func (.func 17) #[] #[]] w fun e w' => (∃ x : ByteArray, e = .returned (.string x)) ∧
      CurAt b (r.extract (Lx.spanL Lx.isBlank r.data.toList).length r.size) (Lx.moved p (r.data.toList.take (Lx.spanL Lx.isBlank r.data.toList).length)) w' ∧ StepB b w w' :=
  (while_any b hb 17 Lx.isBlank isBlank_lt (enters_of Tryz.func17 (by kernel_rfl) rfl) (fun c W hc => blankR_any c hc W) r hr p hp w h hT).mono fun e w' h => ⟨⟨_, h.1⟩, h.2⟩
set_option maxRecDepth 100000 in
set_option maxHeartbeats 8000000 in
theorem tokens_any (s : ByteArray) (w : World) (hT : Tabs w) (hz : 13 ≤ w.heap.size) : Calls Tryz.prog 8 #[.string s] w fun e w' => TksP (Lx.tokensL Lx.flF s.data.toList) w.heap.size e w' ∧ Below w.heap.size w w' := by
  have hA1 := cell_alloc_if
  have hA2 := frozen_alloc_if
  have hA3 := cell_set_if
  by_cases c0 : 1048576 < s.size
  · have HR : Hid (Lx.tokensL Lx.flF s.data.toList = .error (1, (0, 0))) := Lib.hid (by unfold Lx.tokensL; rw [if_pos (by rw [szl]; exact c0)])
    go_enter Tryz.func8, Tryz.ntmps8
    go_wp2
    all_goals ((try simp only [Exit.inBlock, Exit.then]); go_light; refine bodyPost_ret (by simp [results, Tryz.results8, go_sem, *, ↓IntWalk.iteOmega]; try rfl) rfl ?_)
    all_goals exact ⟨by rw [HR.out]; unfold TksP plV; rfl, by (repeat' (first | (with_reducible exact Below.refl _ _) | (with_reducible assumption) | (with_reducible refine Below.setCell ?_ ?_ _) | (with_reducible refine Below.alloc ?_ ?_ _) | (with_reducible refine Below.drew ?_) | (with_reducible refine below_drewN ?_ _) | (with_reducible refine below_next ?_ (by with_reducible assumption)) | omega | (dsimp only; omega) | (simp only [World.size_alloc, World.size_setCell, World.size_drew, World.heap_drewN]; omega)))⟩
  · have hs1 : s.size ≤ 1048576 := by omega
    have hB0 : Below w.heap.size w (w.alloc (.cells #[.int .i64 0, .int .i64 0] 25)) := (Below.refl _ _).alloc (Nat.le_refl _) _
    have HTA := Lib.hid (tabs_below hT hz hB0)
    have HRA : Hid ((w.alloc (.cells #[.int .i64 0, .int .i64 0] 25)).heap[w.heap.size]? = some (.cells #[.int .i64 0, .int .i64 0] 25 (0, 0))) := Lib.hid (heap_alloc_new w _)
    have HBA := Lib.hid hB0
    have hVA := fun W h => valid_any s hs1 W h
    clear hB0 hT
    cases hsp : Lx.spoilt s.data.toList with
    | some k =>
      have HR : Hid (Lx.tokensL Lx.flF s.data.toList = .error (1, Lx.moved (1, 1) (s.data.toList.take k))) := Lib.hid (by unfold Lx.tokensL; rw [if_neg (by rw [szl]; exact c0), hsp])
      have hSP := fun W h1 h2 => spoilt_any s hs1 k hsp W h1 h2
      rw [hsp] at hVA
      generalize Lx.moved (1, 1) (s.data.toList.take k) = q at HR hSP
      obtain ⟨q1, q2⟩ := q
      unfold plV at hSP
      dsimp only at hSP hVA
      simp only [Option.isNone] at hVA
      have HSP := Lib.hid hSP
      have HVA := Lib.hid hVA
      clear hsp hSP hVA
      go_enter Tryz.func8, Tryz.ntmps8
      go_wp2_with (first
        | (go_at_call 15; (with_reducible refine (HVA.out _ HTA.out).mono ?_); rintro e w5 ⟨rfl, hbl⟩)
        | (go_at_call 16; refine (HSP.out _ (tabs_below HTA.out (by simp only [World.size_alloc]; omega) hbl) (by have := hbl.size; simp only [World.size_alloc] at this; omega)).mono ?_))
      rintro e w6 ⟨rfl, hbl6⟩
      obtain ⟨hc, hf, hz6⟩ := cif (below_step hbl hbl6)
      simp only [World.size_alloc] at hz6
      have HBF := Lib.hid (HBA.out.trans ((below_step hbl hbl6).mono (by simp only [World.size_alloc]; omega)))
      clear hbl hbl6
      go_wp2
      all_goals ((try simp only [Exit.inBlock, Exit.then]); go_light; refine bodyPost_ret (by simp [results, Tryz.results8, go_sem, *, ↓IntWalk.iteOmega]; try rfl) rfl ?_)
      all_goals exact ⟨by rw [HR.out]; unfold TksP plV; rfl, by (have := HBF.out; (repeat' (first | (with_reducible exact Below.refl _ _) | (with_reducible assumption) | (with_reducible refine Below.setCell ?_ ?_ _) | (with_reducible refine Below.alloc ?_ ?_ _) | (with_reducible refine Below.drew ?_) | (with_reducible refine below_drewN ?_ _) | (with_reducible refine below_next ?_ (by with_reducible assumption)) | omega | (dsimp only; omega) | (simp only [World.size_alloc, World.size_setCell, World.size_drew, World.heap_drewN]; omega))))⟩
    | none =>
      have HL0 : Hid (Lx.tokensL Lx.flF s.data.toList = Lx.tokA Lx.flF s.data.toList (1, 1) []) := Lib.hid (Lx.tokensL_A (by rw [szl]; omega) hsp)
      have HV0 : Hid (Lx.Val s.data.toList) := Lib.hid (Lx.spoilt_none.1 hsp)
      rw [hsp] at hVA
      simp only [Option.isNone] at hVA
      have HVA := Lib.hid hVA
      clear hsp hVA
      go_enter Tryz.func8, Tryz.ntmps8
      go_upto_region 8 with (go_at_call 15; (with_reducible refine (HVA.out _ HTA.out).mono ?_); rintro e w5 ⟨rfl, hbl⟩)
      have hz5 := hbl.size
      simp only [World.size_alloc] at hz5
      refine wp_world (fun W => W.heap[w.heap.size]? = some (.cells #[.int .i64 0, .int .i64 0] 25 (0, 0)) ∧ CurAt w5.heap.size s (1, 1) W ∧ Below w.heap.size w W ∧ Tabs W ∧ w5.heap.size < W.heap.size) ⟨?_, ?_, ?_, ?_, ?_⟩ ?_
      · rw [heap_alloc_old _ _ (by omega)]
        exact (hbl.block _ (by simp only [World.size_alloc]; omega)).trans HRA.out
      · exact heap_alloc_new w5 _
      · exact (HBA.out.trans (hbl.mono (by simp only [World.size_alloc]; omega))).alloc (by omega) _
      · exact tabs_below (tabs_below HTA.out (by simp only [World.size_alloc]; omega) hbl) (by omega : 13 ≤ w5.heap.size) ((Below.refl _ _).alloc (Nat.le_refl _) _)
      · simp only [World.size_alloc]; omega
      clear hbl
      generalize w5.heap.size = b at hz5 ⊢
      rintro W1 ⟨hres, hcur, hlow, htab, hbz⟩
      have hb13 : 13 ≤ b := by omega
      have HWH := Lib.hid (fun (r : ByteArray) (hr : r.size ≤ 1048576) (p : Lx.Pl) (hp : PlaceOk 4194304 p) W h1 h2 => blanks_any b hb13 r hr p hp W h1 h2)
      have HP0 : Hid (PlaceOk 1 ((1, 1) : Lx.Pl)) := Lib.hid ⟨by decide, by decide, by decide, by decide⟩
      have HC1 := Lib.hid hcur
      have HT1 := Lib.hid htab
      have HX1 := Lib.hid (And.intro hres hlow)
      clear hres hcur hlow htab
      go_wp2_with (go_at_call 18; refine (HWH.out s hs1 (1, 1) (HP0.out.mono (by omega)) _ HC1.out HT1.out).mono ?_)
      rintro e w2 ⟨⟨x0, rfl⟩, hcu, hst⟩
      have hk := span_size Lx.isBlank s
      have HST : Hid (PTokS w.heap.size b w (s.extract (Lx.spanL Lx.isBlank s.data.toList).length s.size) (.slice none 0 0) [] (Lx.moved (1, 1) (s.data.toList.take (Lx.spanL Lx.isBlank s.data.toList).length)) w2) :=
        Lib.hid ⟨OwnL.nil _ _ _ _ _, (hst.1.block _ (by omega)).trans HX1.out.1, hcu, HX1.out.2.trans (hst.1.mono (by omega)), hst.tabs hb13 HT1.out⟩
      clear hcu hst
      go_wp2
      go_loopw [7] (fun a7 wr => ∃ (rk : ByteArray) (v : Value) (acc : List Lx.Tok) (pq : Lx.Pl), v = a7 ∧ acc.length + rk.size ≤ s.size ∧ Hid (PTokS w.heap.size b w rk v acc pq wr) ∧ Hid (PlaceOk (1 + (s.size - rk.size)) pq) ∧ Hid (Lx.tokA Lx.flF s.data.toList (1, 1) [] = Lx.tokA Lx.flF rk.data.toList pq acc) ∧ Hid (Lx.Val rk.data.toList) ∧ Hid (0 < rk.size → Lx.isBlank (byteN rk.data.toList 0) = false)) (fun _ wr => curSz b wr)
      case atStart =>
        have hdz := drop_size s (Lx.spanL Lx.isBlank s.data.toList).length
        refine ⟨_, _, [], _, rfl, by simp, HST, Lib.hid ?_, Lib.hid (by rw [drop_data]; exact tokA_blanks _ _ _), Lib.hid ?_, Lib.hid (blank_end s)⟩
        · exact (moved_ok _ _ _ (Nat.le_refl _) HP0.out (by omega)).mono (by rw [List.length_take, szl]; omega)
        · rw [drop_data]; exact val_span isBlank_lt HV0.out
      case round =>
        obtain ⟨rk, v, acc, pq, rfl, hlen, HS, HP, HL, HV, HB⟩ := hrel
        clear HST HV0 HP0 HC1 HT1 HX1
        have hPQ : PlaceOk 4194304 pq := HP.out.mono (by omega)
        obtain ⟨p1, p2⟩ := pq
        obtain ⟨W0, rfl⟩ : ∃ W0, W0 = wr := ⟨_, rfl⟩
        have hcc := cells_of_block HS.out.cur
        have hc0 := hcc.1 0
        have hc1 := hcc.1 1
        have hc2 := hcc.1 2
        have hcf := hcc.2
        have hlt := CurAt.lt HS.out.cur
        simp at hc0 hc1 hc2
        clear hcc
        by_cases h0 : 0 < rk.size
        · have hne : (rk.toList == []) = false := by rw [empty_iff]; exact decide_eq_false (by omega)
          have hne2 : (rk.toList != []) = true := by unfold bne; rw [hne]; rfl
          have hTK := fun W h1 h2 => token_any b hb13 rk (by omega) h0 HV.out (p1, p2) hPQ W h1 h2
          unfold PTok at hTK
          have hbk := HB.out h0
          have hrl : 0 < rk.data.toList.length := by rw [szl]; exact h0
          go_upto_region 12 with (fail)
          refine wp_world (fun W => W.heap[W0.heap.size]? = some (.cells #[.int .i64 p1, .int .i64 p2] 25 (0, 0)) ∧ Hid (CurAt b rk (p1, p2) W) ∧ Hid (StepB b W0 W) ∧ W0.heap.size < W.heap.size) ⟨?_, Lib.hid ?_, Lib.hid ?_, ?_⟩ ?_
          · exact heap_alloc_new W0 _
          · exact HS.out.cur.keep ((Below.refl _ _).alloc (Nat.le_refl _) _)
          · exact StepB.of (by omega) ((Below.refl _ _).alloc (Nat.le_refl _) _)
          · simp only [World.size_alloc]; omega
          have HSA := Lib.hid (fun W rk' pq' (h1 : StepB b W0 W) (h2 : CurAt b rk' pq' W) => HS.out.step (by omega) hb13 h1 h2)
          obtain ⟨A, hA⟩ : ∃ A, W0.heap.size = A := ⟨_, rfl⟩
          have hbA : b < A := by omega
          have HA := Lib.hid hA
          rw [hA]
          rintro W4 ⟨hP4, HC4, HS4, hA4⟩
          clear hA hc0 hc1 hc2 hcf
          cases htk : Lx.tokenL Lx.flF rk.data.toList with
          | error k =>
            have HN : Hid (Lx.tokensL Lx.flF s.data.toList = .error (k, (p1, p2))) := Lib.hid (by rw [HL0.out, HL.out]; exact Lx.tokA_err hrl hbk htk)
            have hk0 : k = 2 ∨ k = 7 := tokenL_err htk
            rw [htk] at hTK
            dsimp only at hTK
            have HTK := Lib.hid hTK
            have dk : ((k : Int) != 0) = true := by rcases hk0 with rfl | rfl <;> decide
            clear htk hTK hbk hk0
            go_wp2_with (go_at_call 19; refine (HTK.out _ HC4.out (HSA.out _ _ _ HS4.out HC4.out).tab).mono ?_)
            rintro e w6 ⟨⟨tt, ⟨t1, t2, t3, t4, t5, t6, rfl⟩, rfl⟩, hst⟩
            have hP6 := (hst.2 A hbA hA4).trans hP4
            have hcp := cells_of_block hP6
            have hq0 := hcp.1 0
            have hq1 := hcp.1 1
            have hqf := hcp.2
            have hst6 := HS4.out.trans hst
            have hlz := hst6.1.size
            have hcr := cells_of_block ((hst6.1.block _ (by omega)).trans HS.out.res)
            have hr0 := hcr.1 0
            have hr1 := hcr.1 1
            have hrf := hcr.2
            have HLW := Lib.hid (HS.out.low.trans (hst6.1.mono (by omega : w.heap.size ≤ b)))
            have hA0 := HA.out
            simp at hq0 hq1 hr0 hr1
            have hA6 : A < w6.heap.size := by have := hst.1.size; omega
            have hb6 : b < w6.heap.size := by omega
            have hw6 : w.heap.size < w6.heap.size := by omega
            clear hcp hcr hP6 hst hst6 hP4
            go_wp2
            go_region
            go_wp2
            all_goals ((try simp only [Exit.inBlock, Exit.then]); go_light; refine bodyPost_ret (by simp [results, Tryz.results8, go_sem, *, ↓IntWalk.iteOmega]; try rfl) rfl ?_)
            all_goals exact ⟨by rw [HN.out]; unfold TksP plV; rfl, by (have := HLW.out; (repeat' (first | (with_reducible exact Below.refl _ _) | (with_reducible assumption) | (with_reducible refine Below.setCell ?_ ?_ _) | (with_reducible refine Below.alloc ?_ ?_ _) | (with_reducible refine Below.drew ?_) | (with_reducible refine below_drewN ?_ _) | (with_reducible refine below_next ?_ (by with_reducible assumption)) | omega | (dsimp only; omega) | (simp only [World.size_alloc, World.size_setCell, World.size_drew, World.heap_drewN]; omega))))⟩
          | ok t =>
            have htl := Lx.tokenL_len htk
            rw [szl] at htl
            rw [htk] at hTK
            dsimp only at hTK
            unfold tokV at hTK
            dsimp only at hTK
            have hr1z := drop_size rk t.len
            have hN1 := (HL.out).trans (Lx.tokA_tok (fl := Lx.flF) (acc := acc) hrl hbk htk)
            rw [← drop_data] at hN1
            have hN2 := hN1.trans (tokA_blanks _ _ _)
            have hvr := (Lx.tokenL_val' htk HV.out).2
            rw [← drop_data] at hvr
            have hPm := (moved_ok _ _ _ (Nat.le_refl _) HP.out (by omega) : PlaceOk ((1 + (s.size - rk.size)) + (rk.data.toList.take t.len).length) (Lx.moved (p1, p2) (rk.data.toList.take t.len)))
            rw [List.length_take, szl] at hPm
            have HTC : Hid ((tokC ⟨t.kind, (p1, p2), rk.data.toList.take t.len, t.bits, t.data⟩).toArray = #[.int .i64 (t.kind : Int), .int .i64 p1, .int .i64 p2, .string (rk.extract 0 t.len), .int .u64 (t.bits : Int), .string ⟨t.data.toArray⟩]) := Lib.hid (by unfold tokC; rw [baB_take]; rfl)
            obtain ⟨r1, hr1⟩ : ∃ r1, rk.extract t.len rk.size = r1 := ⟨_, rfl⟩
            obtain ⟨P1, hP1⟩ : ∃ P1, Lx.moved (p1, p2) (rk.data.toList.take t.len) = P1 := ⟨_, rfl⟩
            obtain ⟨nt, hnt⟩ : ∃ nt : Lx.Tok, ⟨t.kind, (p1, p2), rk.data.toList.take t.len, t.bits, t.data⟩ = nt := ⟨_, rfl⟩
            rw [hr1, hP1, hnt] at hN2
            rw [hr1] at hr1z hvr
            rw [hr1, hP1] at hTK
            rw [hP1] at hPm
            rw [hnt] at HTC
            have hr1s : r1.size ≤ 1048576 := by omega
            have HP1 : Hid (PlaceOk (1 + (s.size - r1.size)) P1) := Lib.hid (hPm.mono (by omega))
            have hP1c : PlaceOk 4194304 P1 := HP1.out.mono (by omega)
            have hkb := span_size Lx.isBlank r1
            have HN2 := Lib.hid hN2
            have HVR := Lib.hid hvr
            have HWB := Lib.hid (fun W h1 h2 => HWH.out r1 hr1s P1 hP1c W h1 h2)
            obtain ⟨tx, htx⟩ : ∃ tx, rk.extract 0 t.len = tx := ⟨_, rfl⟩
            rw [htx] at hTK HTC
            generalize ((t.kind : Nat) : Int) = kd at hTK HTC
            generalize ((t.bits : Nat) : Int) = bi at hTK HTC
            generalize (⟨t.data.toArray⟩ : ByteArray) = da at hTK HTC
            have HTK := Lib.hid hTK
            have htl1 := htl.1
            have htl2 := htl.2
            have HR1Z := Lib.hid hr1z
            clear htk hTK hbk hN1 hN2 hvr hPm hr1 hP1 hnt htx hr1z htl
            generalize t.len = tl at htl1 htl2 HR1Z
            go_wp2_with (go_at_call 19; refine (HTK.out _ HC4.out (HSA.out _ _ _ HS4.out HC4.out).tab).mono ?_)
            rintro e w6 ⟨⟨rfl, hcu⟩, hst⟩
            have hP6 := (hst.2 A hbA hA4).trans hP4
            have hst6 := HS4.out.trans hst
            have hlz := hst6.1.size
            have hA0 := HA.out
            have hA6 : A < w6.heap.size := by have := hst.1.size; omega
            have hb6 : b < w6.heap.size := by omega
            go_upto_region 15 with (fail)
            refine wp_world (fun W => W.heap[w6.heap.size]? = some (.cells #[.int .i64 kd, .int .i64 0, .int .i64 0, .string tx, .int .u64 bi, .string da] 32 (0, 0)) ∧ W.heap[A]? = some (.cells #[.int .i64 p1, .int .i64 p2] 25 (0, 0)) ∧ Hid (CurAt b r1 P1 W) ∧ Hid (StepB b W0 W) ∧ w6.heap.size < W.heap.size) ⟨?_, ?_, Lib.hid ?_, Lib.hid ?_, ?_⟩ ?_
            · exact heap_alloc_new w6 _
            · exact (heap_alloc_old _ _ hA6).trans hP6
            · exact hcu.keep ((Below.refl _ _).alloc (Nat.le_refl _) _)
            · exact hst6.trans (StepB.of (by omega) ((Below.refl _ _).alloc (Nat.le_refl _) _))
            · simp only [World.size_alloc]; omega
            clear hP6 hst hst6 hcu hP4
            generalize w6.heap.size = T0 at hlz hA6 hb6 ⊢
            rintro W7 ⟨hT7, hP7, HC7, HS7, hz7⟩
            have hcp := cells_of_block hP7
            have hq0 := hcp.1 0
            have hq1 := hcp.1 1
            have hqf := hcp.2
            have hct := cells_of_block hT7
            have ht0 := hct.1 0
            have ht1 := hct.1 1
            have ht2 := hct.1 2
            have htf := hct.2
            have HT7 := Lib.hid hT7
            simp at hq0 hq1 ht0 ht1 ht2
            clear hcp hct hP7 hT7
            go_upto_region 16 with (fail)
            refine wp_world (fun W => W.heap[T0]? = some (.cells #[.int .i64 kd, .int .i64 p1, .int .i64 p2, .string tx, .int .u64 bi, .string da] 32 (0, 0)) ∧ Hid (CurAt b r1 P1 W) ∧ Hid (StepB b W0 W) ∧ T0 < W.heap.size) ⟨?_, Lib.hid ?_, Lib.hid ?_, ?_⟩ ?_
            · exact setC_at (setC_at HT7.out 1 _) 2 _
            · exact (HC7.out.setNew (by omega)).setNew (by omega)
            · exact (HS7.out.setNew (by omega) (by omega)).setNew (by omega) (by omega)
            · simp only [World.size_setCell]; exact hz7
            clear hq0 hq1 hqf ht0 ht1 ht2 htf HT7 HC7 HS7 hz7
            rintro W8 ⟨hT8, HC8, HS8, hz8⟩
            have hct := cells_of_block hT8
            have ht0 := hct.1 0
            have ht1 := hct.1 1
            have ht2 := hct.1 2
            have ht3 := hct.1 3
            have ht4 := hct.1 4
            have ht5 := hct.1 5
            have htf := hct.2
            simp at ht0 ht1 ht2 ht3 ht4 ht5
            clear hct hT8
            have HPS := Lib.hid (HSA.out _ _ _ HS8.out HC8.out)
            have hb8 : b < W8.heap.size := by omega
            have hw8 : w.heap.size < b := by omega
            obtain ⟨i0, z0, hi0, hz0, hz1, hz2, hz3⟩ := tok_info
            go_wp2_with (at_builtin; refine wpList_app (e := 32) (f := tokC) rfl _ _ 23 rfl (b + 1) i0 z0 64 Tryz.underlying23 hi0 hz0 hz1 hz2 hz3 (by decide) tokC_len v acc rfl ?c0 _ 1 _ [nt] rfl ?c1 ?c2 (by decide) ?c3 ?c4 ?_)
            case c0 => exact HPS.out.own.alloc _
            case c1 => exact RdL.oneT (by rw [HTC.out]; exact heap_alloc_new _ _)
            case c2 => intro a ha u hu; simp at ha; subst ha; exact tokC_one _ u hu
            case c3 => simp; omega
            case c4 => simp only [World.size_alloc]; omega
            intro A9 c9 w12 hown hg hB hor
            have hB2 : Below (b + 1) W8 w12 := ((Below.refl _ _).alloc (by omega) _).trans hB
            have HC12 := Lib.hid (HC8.out.low hB2 (by omega))
            have HT12 := Lib.hid (tabs_below HPS.out.tab (by omega) hB2)
            have HR12 := Lib.hid ((hB2.block _ (by omega)).trans HPS.out.res)
            have HL12 := Lib.hid (HPS.out.low.trans (hB2.mono (by omega)))
            have HO := Lib.hid hown
            clear hown hg hB hor hB2 ht0 ht1 ht2 ht3 ht4 ht5 htf
            go_wp2_with (go_at_call 18; refine (HWB.out _ HC12.out HT12.out).mono ?_)
            rintro e w13 ⟨⟨x1, rfl⟩, hcu13, hst13⟩
            have hr2z := drop_size r1 (Lx.spanL Lx.isBlank r1.data.toList).length
            have HR2Z := Lib.hid hr2z
            have HR1 := HR1Z.out
            have HPF : Hid (PTokS w.heap.size b w (r1.extract (Lx.spanL Lx.isBlank r1.data.toList).length r1.size) (.slice A9 (acc.length + 1) c9) (acc ++ [nt]) (Lx.moved P1 (r1.data.toList.take (Lx.spanL Lx.isBlank r1.data.toList).length)) w13) := Lib.hid ⟨OwnT.step HO.out hst13, (hst13.1.block _ (by omega)).trans HR12.out, hcu13, HL12.out.trans (hst13.1.mono (by omega)), hst13.tabs hb13 HT12.out⟩
            go_wp2
            go_roundw
            case rel =>
              refine ⟨_, _, acc ++ [nt], _, rfl, ?_, HPF, Lib.hid ?_, Lib.hid ?_, Lib.hid ?_, Lib.hid (blank_end r1)⟩
              · rw [hr2z, List.length_append, List.length_singleton]; omega
              · exact (moved_ok _ _ _ (Nat.le_refl _) HP1.out (by omega)).mono (by rw [List.length_take, szl]; omega)
              · rw [drop_data]; exact HN2.out
              · rw [drop_data]; exact val_span isBlank_lt HVR.out
            case measure => rw [CurAt.sz hcu13, CurAt.sz HS.out.cur, hr2z]; omega
        · have hrn : rk.data.toList = [] := List.eq_nil_of_length_eq_zero (by rw [szl]; omega)
          have HN : Hid (Lx.tokensL Lx.flF s.data.toList = .ok (acc ++ [⟨8, (p1, p2), [], 0, []⟩])) := Lib.hid (by rw [HL0.out, HL.out, hrn]; rfl)
          have hne : (rk.toList == []) = true := by rw [empty_iff]; exact decide_eq_true (by omega)
          have hne2 : (rk.toList != []) = false := by unfold bne; rw [hne]; rfl
          obtain ⟨i0, z0, hi0, hz0, hz1, hz2, hz3⟩ := tok_info
          have hcr := cells_of_block HS.out.res
          have hr0 := hcr.1 0
          have hr1 := hcr.1 1
          have hrf := hcr.2
          simp at hr0 hr1
          clear hcr hrn
          go_wp2_with (at_builtin; refine wpList_app (e := 32) (f := tokC) rfl _ _ 23 rfl (b + 1) i0 z0 64 Tryz.underlying23 hi0 hz0 hz1 hz2 hz3 (by decide) tokC_len v acc rfl ?c0 _ 1 _ [⟨8, (p1, p2), [], 0, []⟩] rfl ?c1 ?c2 (by decide) ?c3 ?c4 ?_)
          case c0 => exact HS.out.own.alloc _
          case c1 => exact RdL.oneT (t := ⟨8, (p1, p2), [], 0, []⟩) (heap_alloc_new _ _)
          case c2 => intro a ha u hu; simp at ha; subst ha; exact tokC_one _ u hu
          case c3 => simp; omega
          case c4 => simp only [World.size_alloc]; omega
          intro A9 c9 w12 hown hg hB hor
          have hrs2 : w12.heap[w.heap.size]? = some (.cells #[.int .i64 0, .int .i64 0] 25 (0, 0)) := by
            rw [hB.block _ (by omega), heap_alloc_old _ _ (by omega)]; exact HS.out.res
          have hl12 : Below w.heap.size w w12 := (HS.out.low.alloc (by omega) _).trans (hB.mono (by omega))
          have hcr := cells_of_block hrs2
          have hq0 := hcr.1 0
          have hq1 := hcr.1 1
          have hqf := hcr.2
          simp at hq0 hq1
          have HO := Lib.hid hown
          have HL12 := Lib.hid hl12
          have hz12 := hB.size
          simp only [World.size_alloc] at hz12
          clear hown hg hB hor hr0 hr1 hrf hcr hrs2 hl12 hc0 hc1 hc2 hcf
          go_wp2
          all_goals ((try simp only [Exit.inBlock, Exit.then]); go_light; refine bodyPost_ret (by simp [results, Tryz.results8, go_sem, *, ↓IntWalk.iteOmega]; try rfl) rfl ?_)
          all_goals refine ⟨?_, by (have := HL12.out; (repeat' (first | (with_reducible exact Below.refl _ _) | (with_reducible assumption) | (with_reducible refine Below.setCell ?_ ?_ _) | (with_reducible refine Below.alloc ?_ ?_ _) | (with_reducible refine Below.drew ?_) | (with_reducible refine below_drewN ?_ _) | (with_reducible refine below_next ?_ (by with_reducible assumption)) | omega | (dsimp only; omega) | (simp only [World.size_alloc, World.size_setCell, World.size_drew, World.heap_drewN]; omega))))⟩
          all_goals (
            rw [HN.out]
            refine ⟨_, ?_, rfl⟩
            refine (OwnL.keep HO.out fun k hk => ?_).lower (by omega)
            have := (HO.out.lt hk).1
            exact (setC_other _ _ _ _ (by omega)).trans (setC_other _ _ _ _ (by omega)))
end Go.Proofs.YteplbbjmbhgllaaGreatDoor

namespace Go.Proofs.YteplbbjmbhgllaaGreatDoor
open Go.RowKit
set_option linter.unusedVariables false
set_option linter.unusedSimpArgs false

theorem RdL.tAt {w : World} {b off : Nat} {l : List Lx.Tok} (hc : ∀ (k : Nat) (a : Lx.Tok), l[k]? = some a → ∀ (j : Nat) (v : Value), (tokC a)[j]? = some v → w.cell? ⟨b, off + k * 6 + j, none⟩ = some v) {k : Nat} {x : Lx.Tok} (h : l[k]? = some x) :
    w.cell? ⟨b, off + k * 6, none⟩ = some (.int .i64 (x.kind : Int)) ∧ w.cell? ⟨b, off + k * 6 + 1, none⟩ = some (.int .i64 x.at_.1) ∧ w.cell? ⟨b, off + k * 6 + 2, none⟩ = some (.int .i64 x.at_.2) ∧ w.cell? ⟨b, off + k * 6 + 3, none⟩ = some (.string (baB x.text)) ∧ w.cell? ⟨b, off + k * 6 + 4, none⟩ = some (.int .u64 (x.bits : Int)) ∧ w.cell? ⟨b, off + k * 6 + 5, none⟩ = some (.string (baB x.data)) :=
  ⟨hc k x h 0 _ rfl, hc k x h 1 _ rfl, hc k x h 2 _ rfl, hc k x h 3 _ rfl, hc k x h 4 _ rfl, hc k x h 5 _ rfl⟩
theorem eqT_yes (k a b : Int) (s : ByteArray) (n : Int) (d : ByteArray) (w : World) : (binOp .neq 32 (.agg #[.int .i64 k, .int .i64 a, .int .i64 b, .string s, .int .u64 n, .string d]) (.agg #[.int .i64 k, .int .i64 a, .int .i64 b, .string s, .int .u64 n, .string d])).run Tryz.prog w = .ok (.bool false) w := by
  simp [go_sem]
/-- The same but the places. -/
def sameT (a b : Lx.Tok) : Prop := a.kind = b.kind ∧ a.text = b.text ∧ a.bits = b.bits ∧ a.data = b.data
set_option maxRecDepth 100000 in
set_option maxHeartbeats 8000000 in
/-- same, with the places. -/
theorem same_yes (l : List Lx.Tok) (v1 v2 : Value) (w : World) (h1 : RdL tokC 6 w v1 l) (h2 : RdL tokC 6 w v2 l) :
    Calls Tryz.prog 10 #[v1, v2, .bool true] w fun e w' => e = .returned (.bool true) ∧ Below w.heap.size w w' := by
  have m1 := h1.len
  unfold maxLen at m1
  by_cases h0 : l.length = 0
  · obtain ⟨A1, c1, rfl, _⟩ := h1.empty h0
    obtain ⟨A2, c2, rfl, _⟩ := h2.empty h0
    clear h1 h2
    go_enter Tryz.func10, Tryz.ntmps10
    go_wp2
    go_loop [17] (fun i => i = .int .i64 0) (fun _ => 0)
    case atStart => rfl
    case round =>
      subst hrel
      go_wp2
      go_returns
      exact ⟨rfl, by (repeat' (first | (with_reducible exact Below.refl _ _) | (with_reducible assumption) | (with_reducible refine Below.setCell ?_ ?_ _) | (with_reducible refine Below.alloc ?_ ?_ _) | (with_reducible refine Below.drew ?_) | (with_reducible refine below_drewN ?_ _) | (with_reducible refine below_next ?_ (by with_reducible assumption)) | omega | (dsimp only; omega) | (simp only [World.size_alloc, World.size_setCell, World.size_drew, World.heap_drewN]; omega)))⟩
  · obtain ⟨b1, o1, c1, rfl, _, _, hb1, hc1⟩ := h1.some_ (by omega)
    obtain ⟨b2, o2, c2, rfl, _, _, hb2, hc2⟩ := h2.some_ (by omega)
    have H1 := Lib.hid hc1
    have H2 := Lib.hid hc2
    clear hc1 hc2 h1 h2
    have hA1 := cell_alloc_if
    have hA2 := frozen_alloc_if
    have hA3 := cell_set_if
    go_enter Tryz.func10, Tryz.ntmps10
    go_wp2
    go_loopw [17] (fun i wr => ∃ k : Nat, k ≤ l.length ∧ i = .int .i64 k ∧ Hid (Below w.heap.size w wr)) (fun i _ => l.length - (intOf i).toNat)
    case atStart => exact ⟨0, by omega, rfl, Lib.hid (by (repeat' (first | (with_reducible exact Below.refl _ _) | (with_reducible assumption) | (with_reducible refine Below.setCell ?_ ?_ _) | (with_reducible refine Below.alloc ?_ ?_ _) | (with_reducible refine Below.drew ?_) | (with_reducible refine below_drewN ?_ _) | (with_reducible refine below_next ?_ (by with_reducible assumption)) | omega | (dsimp only; omega) | (simp only [World.size_alloc, World.size_setCell, World.size_drew, World.heap_drewN]; omega))))⟩
    case round =>
      obtain ⟨k, hk, rfl, HB⟩ := hrel
      by_cases hlt : k < l.length
      · have e1 : l[k]? = some l[k] := List.getElem?_eq_getElem hlt
        obtain ⟨x, hx⟩ : ∃ x, x = l[k] := ⟨_, rfl⟩
        rw [← hx] at e1
        obtain ⟨p0, p1, p2, p3, p4, p5⟩ := RdL.tAt H1.out e1
        obtain ⟨q0, q1, q2, q3, q4, q5⟩ := RdL.tAt H2.out e1
        have p0 := (HB.out.cell (p := ⟨b1, _, none⟩) hb1).trans p0
        have p1 := (HB.out.cell (p := ⟨b1, _, none⟩) hb1).trans p1
        have p2 := (HB.out.cell (p := ⟨b1, _, none⟩) hb1).trans p2
        have p3 := (HB.out.cell (p := ⟨b1, _, none⟩) hb1).trans p3
        have p4 := (HB.out.cell (p := ⟨b1, _, none⟩) hb1).trans p4
        have p5 := (HB.out.cell (p := ⟨b1, _, none⟩) hb1).trans p5
        have q0 := (HB.out.cell (p := ⟨b2, _, none⟩) hb2).trans q0
        have q1 := (HB.out.cell (p := ⟨b2, _, none⟩) hb2).trans q1
        have q2 := (HB.out.cell (p := ⟨b2, _, none⟩) hb2).trans q2
        have q3 := (HB.out.cell (p := ⟨b2, _, none⟩) hb2).trans q3
        have q4 := (HB.out.cell (p := ⟨b2, _, none⟩) hb2).trans q4
        have q5 := (HB.out.cell (p := ⟨b2, _, none⟩) hb2).trans q5
        generalize ((x.kind : Nat) : Int) = kd at p0 q0
        generalize x.at_.1 = a1 at p1 q1
        generalize x.at_.2 = a2 at p2 q2
        generalize baB x.text = tx at p3 q3
        generalize ((x.bits : Nat) : Int) = bi at p4 q4
        generalize baB x.data = da at p5 q5
        have hz9 := HB.out.size
        clear hx e1
        go_upto_region 6 with (fail)
        have hrun := eqT_yes kd a1 a2 tx bi da
        go_region
        all_goals (
          go_wp2
          go_roundw
          case rel => exact ⟨k + 1, by omega, by go_num, Lib.hid (by have := HB.out; (repeat' (first | (with_reducible exact Below.refl _ _) | (with_reducible assumption) | (with_reducible refine Below.setCell ?_ ?_ _) | (with_reducible refine Below.alloc ?_ ?_ _) | (with_reducible refine Below.drew ?_) | (with_reducible refine below_drewN ?_ _) | (with_reducible refine below_next ?_ (by with_reducible assumption)) | omega | (dsimp only; omega) | (simp only [World.size_alloc, World.size_setCell, World.size_drew, World.heap_drewN]; omega))))⟩
          case measure => simp [intOf]; omega)
      · have hkn : k = l.length := by omega
        subst hkn
        go_wp2
        go_returns
        exact ⟨rfl, HB.out⟩
end Go.Proofs.YteplbbjmbhgllaaGreatDoor
