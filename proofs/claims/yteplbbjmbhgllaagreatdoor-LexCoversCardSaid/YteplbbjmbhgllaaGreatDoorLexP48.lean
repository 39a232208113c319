/-
  LexCovers, walked: where there are tokens.
-/
import Derived.Test.YteplbbjmbhgllaaGreatDoorLexP47
import Derived.Test.YteplbbjmbhgllaaGreatDoorLexM11
import Derived.BigRegion
import Derived.RegionTactic
namespace Go.Proofs.YteplbbjmbhgllaaGreatDoor
open Go.RowKit
set_option linter.unusedVariables false
set_option linter.unusedSimpArgs false

set_option maxRecDepth 100000 in
set_option maxHeartbeats 8000000 in
theorem covers_ok (s : ByteArray) (ts : List Lx.Tok) (h : Lx.tokensL Lx.flF s.data.toList = .ok ts) (w : World) (hT : Tabs w) (hz : 13 ≤ w.heap.size) : Calls Tryz.prog 4 #[.string s] w fun e w' => e = .returned (.bool true) ∧ Below w.heap.size w w' := by
  have HT := Lib.hid hT
  have HF := Lib.hid (fixed_any w hT hz)
  have HTP := Lib.hid (fun W (h1 : Tabs W) (h2 : 13 ≤ W.heap.size) => tokens_ok h W h1 h2)
  have hinv := Lx.tokensL_inv h
  have hsz := hinv.1
  rw [szl] at hsz
  have hn1 := Lx.toks_length hinv.2.2
  rw [szl] at hn1
  have HST := Lib.hid (Lx.CovS.start hinv.2.2)
  have HSP := Lib.hid (fun hl => Lx.spaced_tokens h hl)
  have hne := tokensL_ne h
  clear hT h hinv
  have hA1 := cell_alloc_if
  have hA2 := frozen_alloc_if
  have hA3 := cell_set_if
  go_enter Tryz.func4, Tryz.ntmps4
  go_wp2_with (go_at_call 7; refine (HF.out).mono ?_)
  rintro e w1 ⟨rfl, hbl1⟩
  have hz1 := hbl1.size
  have HB1 := Lib.hid hbl1
  have HT1 := Lib.hid (tabs_below HT.out hz hbl1)
  clear hbl1
  go_wp2_with (go_at_call 8; refine (HTP.out _ HT1.out (by omega)).mono ?_)
  rintro e w2 ⟨⟨v1, hown, rfl⟩, hbl2⟩
  have hz2 := hbl2.size
  have hrd := OwnL.rdl tokC_len hown
  have hcap1 := hrd.len
  unfold maxLen at hcap1
  obtain ⟨g, o, c, rfl, _, _, hgl, hgc⟩ := hrd.some_ (by omega)
  have HRD := Lib.hid hrd
  have H1 := Lib.hid hgc
  clear hown hrd hgc
  go_upto_region 4 with (fail)
  refine wp_world (fun W => Hid (Below w1.heap.size w1 W) ∧ Hid (Below w2.heap.size w2 W) ∧ w2.heap.size ≤ W.heap.size) ⟨Lib.hid (hbl2.alloc hz2 _), Lib.hid ((Below.refl _ _).alloc (Nat.le_refl _) _), by simp only [World.size_alloc]; omega⟩ ?_
  clear hbl2
  rintro W3 ⟨HB3, HC3, hz3⟩
  go_upto_region 9 with (fail)
  refine wp_world (fun W => PlB W3.heap.size 0 0 W ∧ Hid (Below w1.heap.size w1 W) ∧ Hid (Below w2.heap.size w2 W) ∧ W3.heap.size < W.heap.size) ⟨⟨heap_alloc_new W3 _⟩, Lib.hid (HB3.out.alloc HB3.out.size _), Lib.hid (HC3.out.alloc hz3 _), by simp only [World.size_alloc]; omega⟩ ?_
  have hz13 := HB3.out.size
  clear HB3 HC3
  generalize W3.heap.size = P8 at hz3 hz13 ⊢
  rintro W4 ⟨hP4, HB4, HC4, hz4⟩
  have HP4 := Lib.hid hP4
  clear hP4
  go_wp2
  go_loopw [6, 7, 44] (fun a6 a7 a44 wr => ∃ (v : Value) (i j : Nat) (q1 q2 : Int), v = a6 ∧ a7 = .int .i64 j ∧ a44 = .int .i64 i ∧ i ≤ ts.length ∧ j ≤ s.size ∧ Hid (OwnB (P8 + 1) wr v (Lx.spaced (ts.take i)) ∧ (Lx.spaced (ts.take i)).length ≤ j + i) ∧ Hid (Lx.CovS Lx.flF s.data.toList ts i j (q1, q2)) ∧ Hid (PlB P8 q1 q2 wr ∧ Below P8 W4 wr)) (fun _ _ a44 _ => ts.length - (intOf a44).toNat)
  case atStart => exact ⟨.slice none 0 0, 0, 0, 0, 0, rfl, rfl, rfl, by omega, by omega, Lib.hid ⟨OwnL.nil _ _ _ _ _, by simp [Lx.spaced]⟩, HST, Lib.hid ⟨HP4.out, Below.refl _ _⟩⟩
  case round =>
    obtain ⟨v, i, j, q1, q2, rfl, rfl, rfl, hi, hj, HO, HCV, HPL⟩ := hrel
    obtain ⟨W5, rfl⟩ : ∃ W5, W5 = wr := ⟨_, rfl⟩
    have HC5 := Lib.hid (HC4.out.trans (HPL.out.2.mono (by omega)) : Below w2.heap.size w2 W5)
    have hz5 := HPL.out.2.size
    by_cases hlt : i < ts.length
    · have e1 : ts[i]? = some ts[i] := List.getElem?_eq_getElem hlt
      obtain ⟨x, hx⟩ : ∃ x, x = ts[i] := ⟨_, rfl⟩
      rw [← hx] at e1
      obtain ⟨p0, p1, p2, p3, p4, p5⟩ := RdL.tAt H1.out e1
      have p0 := (HC5.out.cell (p := ⟨g, _, none⟩) hgl).trans p0
      have p1 := (HC5.out.cell (p := ⟨g, _, none⟩) hgl).trans p1
      have p2 := (HC5.out.cell (p := ⟨g, _, none⟩) hgl).trans p2
      have p3 := (HC5.out.cell (p := ⟨g, _, none⟩) hgl).trans p3
      have p4 := (HC5.out.cell (p := ⟨g, _, none⟩) hgl).trans p4
      have p5 := (HC5.out.cell (p := ⟨g, _, none⟩) hgl).trans p5
      have HX := Lib.hid e1
      have HPK := Lib.hid (And.intro p0 p3)
      clear hx e1
      go_upto_region 12 with (fail)
      have hp8 := HPL.out.1.lt
      obtain ⟨kd, ekd⟩ : ∃ kd, ((x.kind : Nat) : Int) = kd := ⟨_, rfl⟩
      obtain ⟨y1, ey1⟩ : ∃ y1, x.at_.1 = y1 := ⟨_, rfl⟩
      obtain ⟨y2, ey2⟩ : ∃ y2, x.at_.2 = y2 := ⟨_, rfl⟩
      obtain ⟨tx, etx⟩ : ∃ tx, baB x.text = tx := ⟨_, rfl⟩
      rw [ekd, ey1, ey2, etx]
      have HEQ := Lib.hid (And.intro ekd (And.intro ey1 (And.intro ey2 etx)))
      refine wp_world (fun W => W.heap[W5.heap.size]? = some (.cells #[.int .i64 kd, .int .i64 y1, .int .i64 y2, .string tx, .int .u64 (x.bits : Int), .string (baB x.data)] 32 (0, 0)) ∧ Hid (OwnB (P8 + 1) W v (Lx.spaced (ts.take i))) ∧ PlB P8 q1 q2 W ∧ Hid (Below P8 W4 W) ∧ W5.heap.size < W.heap.size) ⟨?_, Lib.hid ?_, ?_, Lib.hid ?_, ?_⟩ ?_
      · exact heap_alloc_new W5 _
      · exact HO.out.1.alloc _
      · exact HPL.out.1.next ((Below.refl _ _).alloc (Nat.le_refl _) _)
      · exact HPL.out.2.alloc (by omega) _
      · simp only [World.size_alloc]; omega
      generalize W5.heap.size = T at hz5 hp8 ⊢
      rintro W6 ⟨hT6, HO6, hP6, HB6, hz6⟩
      have hcp := cells_of_block hP6.blk
      have hq0 := hcp.1 0
      have hq1 := hcp.1 1
      have hqf := hcp.2
      have hct := cells_of_block hT6
      have ht0 := hct.1 0
      have ht1 := hct.1 1
      have ht2 := hct.1 2
      have ht3 := hct.1 3
      have htf := hct.2
      have HT6 := Lib.hid hT6
      have HP6 := Lib.hid hP6
      simp at hq0 hq1 ht0 ht1 ht2 ht3
      clear hcp hct hP6 hT6 p0 p1 p2 p3 p4 p5 ekd ey1 ey2 etx HPK
      go_loopw [7] (fun a7 wr => ∃ j1 : Nat, a7 = .int .i64 j1 ∧ j ≤ j1 ∧ j1 ≤ s.size ∧ Hid (Lx.skipB (s.data.toList.drop j) = Lx.skipB (s.data.toList.drop j1)) ∧ wr = W6) (fun a7 _ => s.size - (intOf a7).toNat)
      case atStart => exact ⟨j, rfl, Nat.le_refl _, hj, Lib.hid rfl, rfl⟩
      case round =>
        obtain ⟨j1, rfl, hjj, hj1, HSK, rfl⟩ := hrel
        go_upto_region 12 with (fail)
        go_cut [76] from 49 to 76 (fun a wx => ∃ q : Bool, a = .bool q ∧ Hid (q = true ↔ (j1 < s.size ∧ Lx.isBlank (byteN s.data.toList j1) = true)) ∧ wr = wx)
        case first =>
          clear hq0 hq1 hqf ht0 ht1 ht2 ht3 htf
          by_cases hjl : j1 < s.size
          · have hix := fun W => idx_s (P := Tryz.prog) 9 Tryz.underlying9 s .i64 (j1 : Int) j1 rfl hjl W
            obtain ⟨x, ex⟩ : ∃ x, byteN s.data.toList j1 = x := ⟨_, rfl⟩
            rw [ex] at hix
            have EX := Lib.hid ex
            clear ex
            by_cases c1 : x = 32
            · have d1 : ((x : Int) == 32) = true := by simp [c1]
              have EB : Hid (true = true ↔ (j1 < s.size ∧ Lx.isBlank (byteN s.data.toList j1) = true)) := Lib.hid (by rw [EX.out]; simp [hjl, c1]; rfl)
              clear c1
              go_wp2
              go_meet
              exact ⟨_, rfl, Lib.hid (by simpa using EB.out), rfl⟩
            · have d1 : ((x : Int) == 32) = false := by simp; omega
              by_cases c2 : x = 9
              · have d2 : ((x : Int) == 9) = true := by simp [c2]
                have EB : Hid (true = true ↔ (j1 < s.size ∧ Lx.isBlank (byteN s.data.toList j1) = true)) := Lib.hid (by rw [EX.out]; simp [hjl, c2]; rfl)
                clear c1 c2
                go_wp2
                go_meet
                exact ⟨_, rfl, Lib.hid (by simpa using EB.out), rfl⟩
              · have d2 : ((x : Int) == 9) = false := by simp; omega
                by_cases c3 : x = 13
                · have d3 : ((x : Int) == 13) = true := by simp [c3]
                  have EB : Hid (true = true ↔ (j1 < s.size ∧ Lx.isBlank (byteN s.data.toList j1) = true)) := Lib.hid (by rw [EX.out]; simp [hjl, c3]; rfl)
                  clear c1 c2 c3
                  go_wp2
                  go_meet
                  exact ⟨_, rfl, Lib.hid (by simpa using EB.out), rfl⟩
                · have d3 : ((x : Int) == 13) = false := by simp; omega
                  by_cases c4 : x = 10
                  · have d4 : ((x : Int) == 10) = true := by simp [c4]
                    have EB : Hid (true = true ↔ (j1 < s.size ∧ Lx.isBlank (byteN s.data.toList j1) = true)) := Lib.hid (by rw [EX.out]; simp [hjl, c4]; rfl)
                    clear c1 c2 c3 c4
                    go_wp2
                    go_meet
                    exact ⟨_, rfl, Lib.hid (by simpa using EB.out), rfl⟩
                  · have d4 : ((x : Int) == 10) = false := by simp; omega
                    have EB : Hid (false = true ↔ (j1 < s.size ∧ Lx.isBlank (byteN s.data.toList j1) = true)) := Lib.hid (by rw [EX.out]; unfold Lx.isBlank; simp [c1, c2, c3, c4])
                    clear c1 c2 c3 c4
                    go_wp2
                    go_meet
                    exact ⟨_, rfl, Lib.hid (by simpa using EB.out), rfl⟩
          · have EB : Hid (false = true ↔ (j1 < s.size ∧ Lx.isBlank (byteN s.data.toList j1) = true)) := Lib.hid (by simp [hjl])
            go_wp2
            go_meet
            exact ⟨_, rfl, Lib.hid (by simpa using EB.out), rfl⟩
        case rest =>
          obtain ⟨q, rfl, HQ, rfl⟩ := hcut
          cases q with
          | true =>
            have hb := HQ.out.1 rfl
            have hjl := hb.1
            have HSN : Hid (Lx.skipB (s.data.toList.drop j) = Lx.skipB (s.data.toList.drop (j1 + 1))) := Lib.hid (HSK.out.trans (Lx.skipB_step (by rw [szl]; exact hb.1) hb.2))
            clear hb
            go_wp2
            go_roundw
            case rel => exact ⟨j1 + 1, by go_num, by omega, by omega, HSN, by first | rfl | trivial⟩
            case measure => simp [intOf]; omega
          | false =>
            have hnb : j1 = s.data.toList.length ∨ (j1 < s.data.toList.length ∧ Lx.isBlank (byteN s.data.toList j1) = false) := by
              rw [szl]
              by_cases hjl : j1 < s.size
              · refine .inr ⟨hjl, ?_⟩
                cases hb : Lx.isBlank (byteN s.data.toList j1) with
                | false => rfl
                | true => exact absurd (HQ.out.2 ⟨hjl, hb⟩) (by simp)
              · exact .inl (by omega)
            obtain ⟨t, et, h1, h2, h3, h4, h5, h6⟩ := HCV.out.step hlt (by rw [szl]; exact hj1) (HSK.out.trans (Lx.skipB_at hnb))
            obtain rfl : x = t := by
              have := HX.out.symm.trans et
              injection this
            obtain ⟨b8, hb8⟩ : ∃ b8, decide (i + 1 = ts.length) = b8 := ⟨_, rfl⟩
            obtain ⟨ekd, ey1, ey2, etx⟩ := HEQ.out
            have htd : tx.data.toList = x.text := by rw [← etx]; rfl
            have htz : tx.size = x.text.length := by rw [← szl, htd]
            rw [szl] at h1
            have hsl : s.extract j1 (j1 + tx.size) = tx := ba_eq (by rw [Lib.extract_data, Nat.add_sub_cancel_left, htz, h2, htd])
            have hk8 : (kd == 8) = b8 := by rw [← hb8, ← h3, ← ekd]; by_cases hx : x.kind = 8 <;> simp [hx]; omega
            have hi8 : ((i : Int) == (ts.length : Int) - 1) = b8 := by
              rw [← hb8]
              by_cases hx : i + 1 = ts.length
              · rw [decide_eq_true hx]; simp; omega
              · rw [decide_eq_false hx]; simp; omega
            have ht8 : (tx.toList == []) = b8 := by
              rw [empty_iff, htz, ← hb8, ← h4]
              by_cases hx : x.text = []
              · rw [hx]; rfl
              · rw [decide_eq_false hx, decide_eq_false]
                intro h; exact hx (List.eq_nil_of_length_eq_zero h)
            have hd86 : decide ((s.size : Int) - (j1 : Int) < (tx.size : Int)) = false := decide_eq_false (by omega)
            have htl : j1 + tx.size ≤ s.size := by omega
            have HNX : Hid (Lx.CovS Lx.flF s.data.toList ts (i + 1) (j1 + tx.size) (y1, y2)) := Lib.hid (by rw [htz, ← ey1, ← ey2]; exact h6)
            have HTD := Lib.hid htd
            have hlt5 : (q1 < y1) ∨ (q1 = y1 ∧ q2 < y2) := by have := h5; unfold Lx.ltP at this; rw [← ey1, ← ey2]; exact this
            have HSNC := Lib.hid (Lx.spaced_snoc et)
            clear h1 h2 h3 h4 h5 h6 et hnb hb8 ekd ey1 ey2 etx htz htd
            go_upto_region 14 with (fail)
            go_quiet (fail)
            go_upto_region 16 with (fail)
            refine wp_world (fun W => W.heap[T]? = some (.cells #[.int .i64 kd, .int .i64 y1, .int .i64 y2, .string tx, .int .u64 (x.bits : Int), .string (baB x.data)] 32 (0, 0)) ∧ Hid (OwnB (P8 + 1) W v (Lx.spaced (ts.take i))) ∧ PlB P8 q1 q2 W ∧ Hid (Below P8 W4 W) ∧ T < W.heap.size) ⟨HT6.out, Lib.hid HO6.out, ⟨HP6.out.blk⟩, Lib.hid (_root_.Go.below_drewN HB6.out _), hz6⟩ ?_
            clear hq0 hq1 hqf ht0 ht1 ht2 ht3 htf HT6 HO6 HP6 HB6 hz6
            rintro W8 ⟨hT8, HO8, hP8, HB8, hz8⟩
            have hcp := cells_of_block hP8.blk
            have hq0 := hcp.1 0
            have hq1 := hcp.1 1
            have hqf := hcp.2
            have hct := cells_of_block hT8
            have ht0 := hct.1 0
            have ht1 := hct.1 1
            have ht2 := hct.1 2
            have ht3 := hct.1 3
            have htf := hct.2
            have HP8 := Lib.hid hP8
            have HT8 := Lib.hid hT8
            simp at hq0 hq1 ht0 ht1 ht2 ht3
            clear hcp hct hP8 hT8
            go_cut [141] from 120 to 141 (fun a wx => a = .bool false ∧ W8 = wx)
            case first =>
              rcases hlt5 with h | ⟨h, h'⟩
              · have d1 : decide (y1 < q1) = false := decide_eq_false (by omega)
                have d2 : (y1 == q1) = false := by simp; omega
                clear h
                go_wp2
                go_meet
                exact ⟨rfl, rfl⟩
              · have d1 : decide (y1 < q1) = false := decide_eq_false (by omega)
                have d2 : (y1 == q1) = true := by simp [h]
                have d3 : decide (y2 ≤ q2) = false := decide_eq_false (by omega)
                clear h h'
                go_wp2
                go_meet
                exact ⟨rfl, rfl⟩
            case rest =>
              obtain ⟨rfl, rfl⟩ := hcut
              go_upto_region 18 with (fail)
              go_region
              go_upto_region 19 with (fail)
              refine wp_world (fun W => W.heap[T]? = some (.cells #[.int .i64 kd, .int .i64 y1, .int .i64 y2, .string tx, .int .u64 (x.bits : Int), .string (baB x.data)] 32 (0, 0)) ∧ Hid (OwnB (P8 + 1) W v (Lx.spaced (ts.take i))) ∧ Hid (PlB P8 y1 y2 W) ∧ Hid (Below P8 W4 W) ∧ T < W.heap.size) ⟨?_, Lib.hid ?_, Lib.hid ⟨?_⟩, Lib.hid ?_, ?_⟩ ?_
              · exact (setC_other _ _ _ _ (by omega)).trans ((setC_other _ _ _ _ (by omega)).trans HT8.out)
              · exact OwnL.keep HO8.out fun k hk => by
                  have := (HO8.out.lt hk).1
                  exact (setC_other _ _ _ _ (by omega)).trans (setC_other _ _ _ _ (by omega))
              · exact setC_at (setC_at HP8.out.blk 0 _) 1 _
              · exact Below.drew ((HB8.out.setCell (p := ⟨P8, 0, none⟩) (Nat.le_refl _) _).setCell (p := ⟨P8, 1, none⟩) (Nat.le_refl _) _)
              · simp only [World.size_drew, World.size_setCell]; exact hz8
              clear hq0 hq1 hqf ht0 ht1 ht2 ht3 htf HT8 HO8 HP8 HB8 hz8
              rintro W9 ⟨hT9, HO9, HP9, HB9, hz9⟩
              have hct := cells_of_block hT9
              have ht3 := hct.1 3
              have htf := hct.2
              simp at ht3
              clear hct hT9
              obtain ⟨i0, hi0, hz0, hzz1, hzz2⟩ := byte_info
              have hln := HO.out.2
              go_wp2_with (at_builtin; refine wpList_appS rfl _ _ rfl (P8 + 1) v (Lx.spaced (ts.take i)) rfl HO9.out tx rfl ?c1 ?c2 ?_)
              case c1 => omega
              case c2 => omega
              intro v10 w10 hown10 hg10 hB10
              have HO10 := Lib.hid hown10
              have HB10 := Lib.hid hB10
              have hz10 := hB10.size
              clear hown10 hg10 hB10 ht3 htf
              go_wp2_with (at_builtin; refine wpList_app (e := 5) (f := byC) rfl _ _ 34 rfl (P8 + 1) i0 _ 1 Tryz.underlying34 hi0 hz0 hzz1 hzz2 rfl (by decide) (fun _ => rfl) v10 (Lx.spaced (ts.take i) ++ tx.data.toList) rfl ?d0 _ 1 _ [UInt8.ofNat 32] rfl ?d1 ?d2 (by decide) ?d3 ?d4 ?_)
              case d0 => exact HO10.out.alloc _
              case d1 => exact RdL.oneB (c := 32) (by decide) (heap_alloc_new _ _)
              case d2 => intro a ha u hu; simp at ha; subst ha; simp [byC] at hu; subst hu; rfl
              case d3 => simp [szl]; omega
              case d4 => simp only [World.size_alloc]; omega
              intro A9 c9 w12 hown hg hB hor
              have hB12 : Below (P8 + 1) W9 w12 := HB10.out.trans (((Below.refl _ _).alloc (by omega) _).trans hB)
              go_wp2
              go_roundw
              case rel =>
                refine ⟨_, i + 1, j1 + tx.size, y1, y2, rfl, by go_num, by go_num, by omega, by omega, Lib.hid ⟨?_, ?_⟩, HNX, Lib.hid ⟨⟨(hB12.block _ (by omega)).trans HP9.out.blk⟩, HB9.out.trans (hB12.mono (by omega))⟩⟩
                · rw [HSNC.out, ← HTD.out, List.append_assoc]; exact hown
                · rw [HSNC.out, List.length_append, List.length_append, ← HTD.out, szl]; simp; omega
              case measure => simp [intOf]; omega
    · have hin : i = ts.length := by omega
      subst hin
      have hje := HCV.out.end_
      rw [szl] at hje
      have HO' := HO.out
      rw [Lx.spaced_all] at HO'
      have HOF := Lib.hid HO'.1
      have hln := HO'.2
      have HPF := Lib.hid HPL.out.2
      have HRF := Lib.hid (HRD.out.next (HC5.out.mono (by omega) : Below w2.heap.size w2 W5))
      have HT5 := Lib.hid (tabs_below HT1.out (by omega : 13 ≤ w1.heap.size) (HB4.out.trans (HPL.out.2.mono (by omega)) : Below w1.heap.size w1 W5))
      have HBF := Lib.hid (HB4.out.trans (HPL.out.2.mono (by omega)) : Below w1.heap.size w1 W5)
      obtain ⟨D, hD⟩ : ∃ D, Lx.spaced ts = D := ⟨_, rfl⟩
      rw [hD] at HOF HSP hln
      obtain ⟨A6, c6, rfl⟩ := OwnL.form HOF.out
      have HCV' : Hid (∀ W, Below W5.heap.size W5 W → (convert 34 9 (.slice A6 D.length c6)).run Tryz.prog W = .ok (.string ⟨D.toArray⟩) W) := Lib.hid fun W hb => OwnB.conv (OwnL.next HOF.out hb)
      have hcv := HCV'.out W5 (Below.refl _ _)
      have hD7 : D.length ≤ 9223372036854775807 := by omega
      clear HO HCV HO' hD
      by_cases hbig : 1048576 < D.length
      · have HTS := Lib.hid (fun W (h1 : Tabs W) (h2 : 13 ≤ W.heap.size) => tokens_some ⟨D.toArray⟩ W h1 h2)
        have hd1 : decide ((D.length : Int) > 1048576) = true := decide_eq_true (by omega)
        have hd2 : ((j : Int) == (s.size : Int)) = true := by simp; omega
        go_wp2_with (go_at_call 8; refine (HTS.out _ HT5.out (by omega)).mono ?_)
        rintro e w9 ⟨⟨A, n, c', p1, p2, kk, rfl⟩, hbl9⟩
        have hz9 := hbl9.size
        go_wp2
        go_ret
        exact ⟨rfl, HB1.out.trans (((HBF.out.trans (hbl9.mono (by omega))).alloc (by omega) _).mono (by omega))⟩
      · obtain ⟨us, hus, hst⟩ := HSP.out (by omega)
        have HTS := Lib.hid (fun W (h1 : Tabs W) (h2 : 13 ≤ W.heap.size) => tokens_ok (s := ⟨D.toArray⟩) hus W h1 h2)
        have hd1 : decide ((D.length : Int) > 1048576) = false := decide_eq_false (by omega)
        have hd2 : ((j : Int) == (s.size : Int)) = true := by simp; omega
        have HST2 := Lib.hid hst
        clear hus hst
        go_wp2_with (go_at_call 8; refine (HTS.out _ HT5.out (by omega)).mono ?_)
        rintro e w9 ⟨⟨v9, hown9, rfl⟩, hbl9⟩
        have hrd9 := OwnL.rdl tokC_len hown9
        have HSM := Lib.hid (fun W (h : Below w9.heap.size w9 W) => same_free ts us HST2.out _ _ W ((HRF.out.next (hbl9.mono (by omega))).next h) (hrd9.next h))
        have hz9 := hbl9.size
        clear hown9 hrd9
        go_wp2_with (go_at_call 10; refine (HSM.out _ ?_).mono ?_)
        · exact (Below.refl _ _).alloc (Nat.le_refl _) _
        rintro e w11 ⟨rfl, hbl11⟩
        simp only [World.size_alloc] at hbl11
        go_wp2
        go_ret
        exact ⟨rfl, HB1.out.trans ((((HBF.out.trans (hbl9.mono (by omega))).alloc (by omega) _).trans (hbl11.mono (by omega))).mono (by omega))⟩
theorem covers_any (s : ByteArray) (w : World) (hT : Tabs w) (hz : 13 ≤ w.heap.size) : Calls Tryz.prog 4 #[.string s] w fun e w' => e = .returned (.bool true) ∧ Below w.heap.size w w' := by
  cases h : Lx.tokensL Lx.flF s.data.toList with
  | ok ts => exact covers_ok s ts h w hT hz
  | error x => obtain ⟨k, p1, p2⟩ := x; exact covers_err s k p1 p2 h w hT hz
end Go.Proofs.YteplbbjmbhgllaaGreatDoor
