/-
  The statement's own search for a way to a node that uses a number.
-/
import Derived.Test.YtadcjmfednachaaSolW36
import Derived.Test.YtadcjmfednachaaSolB
namespace Go.Proofs.Ytadcjmfednachaa
open Go.RowKit Go.Maps Go.WideShapes Go.ChangeShapes Go.Deep
set_option linter.unusedVariables false
set_option linter.unusedSimpArgs false

theorem rowI_mem_lt {m : List (List Int)} {i : Nat} {x : Int} (h : x ∈ Sol.rowI m i) : i < m.length := by
  have := Sol.mem_rowI h
  simpa using this
theorem addN_step {p : Int → Bool} {l : List Int} {k : Nat} {y : Int} (hy : l[k]? = some y) (st : Sol.StW) : (l.take (k + 1)).foldl (Sol.addN p) st = Sol.addN p ((l.take k).foldl (Sol.addN p) st) y := by
  rw [take_step hy, List.foldl_append]; rfl
/-- Which nodes were found, and the queue: a row of the call's own each. -/
structure SeenS (base : Nat) (w : World) (bw : Nat) (vq : Value) (st : List Bool × List Int) : Prop where
  row : BoolR 4 w bw st.1
  q : OwnQ 3 base w vq st.2
  ne : base ≤ bw ∧ vq.ownBlock ≠ some bw
section
variable {base bw : Nat} {w w' w6 : World} {vq v' : Value} {st : List Bool × List Int}
theorem SeenS.next (h : SeenS base w bw vq st) (hb : Below w.heap.size w w') : SeenS base w' bw vq st := ⟨h.row.next hb, h.q.next hb, h.ne⟩
theorem SeenS.mark (h : SeenS base w bw vq st) (i : Nat) (x : Bool) : SeenS base (w.setCell ⟨bw, i, none⟩ (.bool x)) bw vq (st.1.set i x, st.2) :=
  ⟨h.row.set i x, h.q.keep fun b hb => setC_other w bw i _ (fun e => h.ne.2 (by rw [← e]; exact hb)), h.ne⟩
theorem SeenS.turn (h : SeenS base w bw vq st) {l : List Int} (hg : w.grownBy w6 vq.ownBlock) (hq : OwnQ 3 base w6 v' l) (hor : v'.ownBlock = none ∨ v'.ownBlock = vq.ownBlock ∨ ∃ z, v'.ownBlock = some z ∧ w.heap.size ≤ z) : SeenS base w6 bw v' (st.1, l) := by
  have hl := h.row.lt
  refine ⟨h.row.block (hg.block bw hl fun e => h.ne.2 e.symm), hq, h.ne.1, fun e => ?_⟩
  rcases hor with h1 | h1 | ⟨z, h1, hz⟩
  · rw [h1] at e; cases e
  · exact h.ne.2 (h1 ▸ e)
  · rw [h1] at e; injection e with e; omega
end
set_option maxRecDepth 100000 in
set_option maxHeartbeats 4000000 in
theorem way_any (A0 A1 A2 : Option Addr) (c0 c1 c2 N fr : Nat) (g u v : List (List Int)) (x : Int) (w : World) (hg : RdM w (.slice A0 N c0) g) (hu : RdM w (.slice A1 u.length c1) u) (hv : RdM w (.slice A2 v.length c2) v)
    (hN : N = g.length) (hgl : N ≤ 40) (hgr : ∀ l ∈ g, l.length ≤ 20) (hul : u.length ≤ 40) (hvl : v.length ≤ 40) (hfr : fr < N) (hin : Sol.InB (Sol.cleanG g) u v fr x) :
    Calls Try.prog 23 #[.slice A0 N c0, .slice A1 u.length c1, .slice A2 v.length c2, .int .i64 fr, .int .i64 x] w fun e w' => e = .returned (.bool true) ∧ Below w.heap.size w w' := by
  obtain ⟨i0, hi0, iz0, iz1, iz2⟩ := info_parts int_info
  obtain ⟨j0, hj0, hy0, hy1, hy2⟩ := info_parts bool_info
  have HGM := Lib.hid hg
  have HUM := Lib.hid hu
  have HVM := Lib.hid hv
  have HN := Lib.hid hN
  have HGR := Lib.hid hgr
  have HIN := Lib.hid hin
  have HCL : Hid ((Sol.cleanG g).length = N) := Lib.hid (by rw [Sol.cleanG_length, hN])
  clear hg hu hv hN hgr hin
  have hA1 := cell_alloc_if
  have hA2 := frozen_alloc_if
  have hA3 := cell_set_if
  go_enter Try.func23, Try.ntmps23
  go_wp2_with (refine wpList_make_full _ rfl (.tmp 17) (.tmp 17) 25 rfl w.heap.size 4 j0 _ 1 Try.underlying25 hj0 hy0 hy1 .i64 .i64 N N N rfl rfl rfl rfl ?m1 ?m2 ?m3 ?_)
  case m1 => rw [hy2]; omega
  case m2 => unfold maxLen; omega
  try (case m3 => exact Nat.le_refl _)
  intro w1 hrow hg1
  rw [toList_madeCells_one] at hrow
  have hblk := block_full hrow
  have hb1 : Below w.heap.size w w1 := (Below.refl _ _).grown hg1 (Nat.le_refl _) (fun k hk => by cases hk)
  have hbr : BoolR 4 w1 w.heap.size (List.replicate N false) := by unfold BoolR; rw [hblk]; simp
  have hlt1 : w.heap.size < w1.heap.size := hbr.lt
  obtain ⟨p0, f0⟩ := hbr.at_ (i := fr) (by simpa using hfr)
  have hS1 : SeenS w.heap.size (w1.alloc (.cells #[.int .i64 fr] 3)) w.heap.size (.slice (some ⟨w1.heap.size, 0, none⟩) 1 1) (List.replicate N false, [(fr : Int)]) :=
    ⟨hbr.next (ne_alloc _ _), (OwnL.lit (e := 3) (f := intC) (base := w.heap.size) w1 #[.int .i64 fr] [(fr : Int)] _ rfl (by omega) (by simp; decide) rfl rfl).queue, Nat.le_refl _, by simp [Value.ownBlock]; omega⟩
  have hS2 := hS1.mark fr true
  have hb2 : Below w.heap.size w ((w1.alloc (.cells #[.int .i64 fr] 3)).setCell ⟨w.heap.size, fr, none⟩ (.bool true)) := (hb1.alloc (by omega) _).setCell (Nat.le_refl _) _
  have hcomm : (w1.alloc (.cells #[.int .i64 fr] 3)).setCell ⟨w.heap.size, fr, none⟩ (.bool true) = (w1.setCell ⟨w.heap.size, fr, none⟩ (.bool true)).alloc (.cells #[.int .i64 fr] 3) := World.setCell_alloc_past (.cells #[.int .i64 fr] 3) w.heap.size fr _ hlt1
  rw [hcomm] at hS2 hb2
  have HS2 := Lib.hid hS2
  have HF0 : Hid (Sol.Found N (Sol.okW (Sol.cleanG g) u v x) fr ((List.replicate N false).set fr true) [(fr : Int)] [(fr : Int)]) := Lib.hid (by
    have h := Sol.Found.start (n := N) (ok := Sol.okW (Sol.cleanG g) u v x) (from_ := (fr : Int)) (by unfold Sol.InR; omega)
    rwa [Int.toNat_natCast] at h)
  clear hrow hg1 hblk hbr hS1 hcomm hS2
  go_wp2
  go_loopg [12] (2 * N + 2) (fun gk v12 wr => ∃ (vq : Value) (seen : List Bool) (lq sl : List Int), v12 = vq ∧ gk ≤ 2 * N + 2 ∧ Below w.heap.size w wr ∧ Hid (SeenS w.heap.size wr w.heap.size vq (seen, lq)) ∧ Hid (Sol.Found N (Sol.okW (Sol.cleanG g) u v x) fr seen lq sl) ∧ Hid (Sol.msrS N sl lq < gk))
  case atStart => exact ⟨_, _, _, _, rfl, by omega, hb2, HS2, HF0, Lib.hid (by unfold Sol.msrS; simp; omega)⟩
  case round =>
    clear hb2 HS2 HF0 p0 f0 hb1
    obtain ⟨vq, seen, lq, sl, rfl, hgk, hXb, HS, HF, HM⟩ := hrel
    have hXz := hXb.size
    obtain ⟨A3, c3, e, _⟩ := HS.out.q
    dsimp only at e
    subst e
    cases lq with
    | nil =>
      exfalso
      have h := HF.out
      rw [← HCL.out] at h
      exact Sol.way_end h HIN.out
    | cons i0' q =>
      have hir := HF.out.s.inr i0' (HF.out.s.sub i0' (by simp))
      unfold Sol.InR at hir
      obtain ⟨iN, rfl⟩ : ∃ k : Nat, i0' = (k : Int) := ⟨i0'.toNat, by omega⟩
      have hiN : iN < N := by omega
      have hql : q.length ≤ 82 := by
        have h := HM.out
        unfold Sol.msrS at h
        simp at h
        omega
      obtain ⟨b3, off3, e3, _, hb3, p3⟩ := HS.out.q.rdl.intAt (k := 0) (y := (iN : Int)) rfl
      rw [Nat.add_zero] at p3
      obtain ⟨hlc, hcm⟩ : q.length + 1 ≤ c3 ∧ c3 ≤ 9223372036854775807 := by
        have := HS.out.q.rdl.lenEq
        simp at this
        exact this
      obtain ⟨A4, hA4⟩ : ∃ A4, A4 = fromA A3 c3 1 1 := ⟨_, rfl⟩
      have hqt := OwnQ.tail HS.out.q
      rw [← hA4] at hqt
      simp only [List.length_cons, Nat.add_sub_cancel] at hqt
      have hsl := fun W => (run_sliceAt_slice (P := Try.prog) (w := W) 28 (.slice A3 (q.length + 1) c3) (some (.int .i64 1)) none none rfl).trans (run_slice_from (P := Try.prog) (T := 28) (e := 3) (sz := 1) rfl (by kernel_rfl) A3 (q.length + 1) c3 1 (by omega) hlc W)
      rw [← hA4] at hsl
      simp only [Nat.add_sub_cancel] at hsl
      have hob : (Value.slice A4 q.length (c3 - 1)).ownBlock = (Value.slice A3 (q.length + 1) c3).ownBlock := by
        rw [hA4, e3]
        unfold fromA
        by_cases hc : c3 = 1
        · rw [if_pos hc]; rfl
        · rw [if_neg hc]; simp [add_at, Value.ownBlock]
      have HT := Lib.hid (HS.out.turn (grown_refl _ _) hqt (.inr (.inl hob)))
      clear hqt hob hA4 hir
      simp only [List.length_cons] at *
      subst e3
      go_upto_region 7 with (fail)
      go_cut [43] (fun s43 wx => s43 = .bool (memB (Sol.rowI u iN) x) ∧ wx = wr)
      case first =>
        by_cases hu : iN < u.length
        · obtain ⟨lu, hlu⟩ : ∃ r, u[iN]? = some r := ⟨_, List.getElem?_eq_getElem hu⟩
          obtain ⟨bm, offm, c4, A5, c5, e, hbm, p20, hr⟩ := HUM.out.row hlu
          injection e with e1 e2 e3
          subst e1
          have p2 := (hXb.cell (p := ⟨bm, offm + iN, none⟩) hbm).trans p20
          have HHA := Lib.hid (hasI_any A5 lu.length c5 lu x wr (hr.next hXb))
          have HRW := Lib.hid (rowI_nat hlu)
          clear hr p20 hlu e2 e3
          go_wp2_with (go_at_call 22; (with_reducible refine HHA.out.mono ?_); rintro e w9 ⟨rfl, rfl⟩)
          go_meet
          exact ⟨by rw [HRW.out], rfl⟩
        · have HRW : Hid (memB (Sol.rowI u iN) x = false) := Lib.hid (by rw [rowI_out (by omega)]; rfl)
          go_wp2
          go_meet
          exact ⟨by rw [HRW.out], rfl⟩
      case rest =>
        obtain ⟨rfl, rfl⟩ := hcut
        by_cases hxu : x ∈ Sol.rowI u iN
        · have d := memB_yes hxu
          rw [d]
          go_wp2
          go_ret
          exact ⟨rfl, hXb⟩
        · have d := memB_no hxu
          rw [d]
          go_upto_region 9 with (fail)
          go_cut [55] (fun s55 wx => s55 = .bool (memB (Sol.rowI v iN) x) ∧ wx = wc)
          case first =>
            by_cases hv : iN < v.length
            · obtain ⟨lu, hlu⟩ : ∃ r, v[iN]? = some r := ⟨_, List.getElem?_eq_getElem hv⟩
              obtain ⟨bm, offm, c4, A5, c5, e, hbm, p20, hr⟩ := HVM.out.row hlu
              injection e with e1 e2 e3
              subst e1
              have p2 := (hXb.cell (p := ⟨bm, offm + iN, none⟩) hbm).trans p20
              have HHA := Lib.hid (hasI_any A5 lu.length c5 lu x wc (hr.next hXb))
              have HRW := Lib.hid (rowI_nat hlu)
              clear hr p20 hlu e2 e3
              go_wp2_with (go_at_call 22; (with_reducible refine HHA.out.mono ?_); rintro e w9 ⟨rfl, rfl⟩)
              go_meet
              exact ⟨by rw [HRW.out], rfl⟩
            · have HRW : Hid (memB (Sol.rowI v iN) x = false) := Lib.hid (by rw [rowI_out (by omega)]; rfl)
              go_wp2
              go_meet
              exact ⟨by rw [HRW.out], rfl⟩
          case rest =>
            obtain ⟨rfl, hwc⟩ := hcut
            rw [hwc]
            clear hwc
            by_cases hxv : x ∈ Sol.rowI v iN
            · have d' := memB_yes hxv
              rw [d']
              obtain ⟨k1, k2⟩ := HF.out.skip ⟨hxu, .inl hxv⟩
              have HK1 := Lib.hid k1
              have HK2 : Hid (Sol.msrS N sl q < gk - 1) := Lib.hid (by have := HM.out; omega)
              have hgk1 : gk - 1 < gk := by have := HM.out; omega
              clear k1 k2
              go_wp2
              go_roundg (gk - 1)
              case measure => exact hgk1
              case rel => exact ⟨_, seen, q, sl, rfl, by omega, hXb, HT, HK1, HK2⟩
            · have d' := memB_no hxv
              rw [d']
              obtain ⟨lr, hlr⟩ : ∃ r, g[iN]? = some r := ⟨_, List.getElem?_eq_getElem (by have := HN.out; omega)⟩
              have hlr20 := HGR.out lr (List.mem_of_getElem? hlr)
              have HRW := Lib.hid (rowI_nat hlr)
              obtain ⟨bm, offm, c4, A6, c6, e, hbm, p20, hr⟩ := HGM.out.row hlr
              injection e with e1 e2 e3
              subst e1
              have HROW := Lib.hid hr
              have p2 := (hXb.cell (p := ⟨bm, offm + iN, none⟩) hbm).trans p20
              have hsn : seen.length = N := HF.out.s.marks.1
              have hlq := hr.lenEq
              have HXU := Lib.hid hxu
              clear hr p20 hlr e2 e3 hxu hxv
              go_wp2
              go_loopw [12, 61] (fun v12 v wr => ∃ (t : Nat) (vq : Value) (st : Sol.StW), t ≤ lr.length ∧ v = .int .i64 t ∧ v12 = vq ∧ Below w.heap.size w wr ∧ st.2.length ≤ q.length + t ∧ st.1.length = N ∧ Hid (SeenS w.heap.size wr w.heap.size vq st) ∧ Hid ((lr.take t).foldl (Sol.addN fun k => decide (Sol.InR N k)) (seen, q) = st)) (fun _ v _ => lr.length - (intOf v).toNat)
              case atStart => exact ⟨0, _, _, by omega, rfl, rfl, hXb, by simp, hsn, HT, Lib.hid rfl⟩
              case round =>
                clear hXb HT p2 HS
                obtain ⟨t, vq, ⟨sn, lq⟩, ht, rfl, rfl, hXb, hlt, hsl2, HS, HFO⟩ := hrel
                dsimp only at *
                have hXz := hXb.size
                obtain ⟨A7, c7, e, _⟩ := HS.out.q
                dsimp only at e
                subst e
                by_cases htl : t < lr.length
                · obtain ⟨y, hy⟩ : ∃ y, lr[t]? = some y := ⟨_, List.getElem?_eq_getElem htl⟩
                  obtain ⟨b5, off5, e5, _, hb5, p50⟩ := HROW.out.intAt hy
                  have p5 := (hXb.cell (p := ⟨b5, off5 + t, none⟩) hb5).trans p50
                  have hst := addN_step (p := fun k => decide (Sol.InR N k)) hy (seen, q)
                  rw [HFO.out] at hst
                  have HST := Lib.hid hst
                  subst e5
                  clear p50 hst hy
                  by_cases h0 : y < 0
                  · have HS2 : Hid (Sol.addN (fun k => decide (Sol.InR N k)) (sn, lq) y = (sn, lq)) := Lib.hid (by unfold Sol.addN; rw [if_neg (by simp; unfold Sol.InR; omega)])
                    have d2 : decide ((0 : Int) ≤ y) = false := by simp; omega
                    go_wp2
                    go_roundw
                    case rel => exact ⟨t + 1, _, (sn, lq), by omega, by go_num, rfl, hXb, by dsimp only; omega, hsl2, HS, Lib.hid (HST.out.trans HS2.out)⟩
                    case measure => simp [intOf]; omega
                  · obtain ⟨yN, rfl⟩ : ∃ k : Nat, y = (k : Int) := ⟨y.toNat, by omega⟩
                    have d2 : decide ((0 : Int) ≤ (yN : Int)) = true := by simp
                    by_cases h1 : yN < N
                    · obtain ⟨p0, f0⟩ := HS.out.row.at_ (i := yN) (by dsimp only; omega)
                      obtain ⟨b, hb⟩ : ∃ b, b = sn.getD yN false := ⟨_, rfl⟩
                      dsimp only at p0
                      rw [← hb] at p0
                      have HS2 : Hid (Sol.addN (fun k => decide (Sol.InR N k)) (sn, lq) (yN : Int) = if b = true then (sn, lq) else (sn.set yN true, lq ++ [(yN : Int)])) := Lib.hid (by unfold Sol.addN Sol.addW; rw [if_pos (by simp; unfold Sol.InR; omega), Int.toNat_natCast, hb])
                      clear hb
                      cases b with
                      | true =>
                        go_wp2
                        go_roundw
                        case rel => exact ⟨t + 1, _, (sn, lq), by omega, by go_num, rfl, hXb, by dsimp only; omega, hsl2, HS, Lib.hid (HST.out.trans HS2.out)⟩
                        case measure => simp [intOf]; omega
                      | false =>
                        have HMK := Lib.hid (HS.out.mark yN true)
                        have hbm2 : Below w.heap.size w (wr.setCell ⟨w.heap.size, yN, none⟩ (.bool true)) := hXb.setCell (Nat.le_refl _) _
                        go_wp2_with (at_builtin; refine wpList_appQ rfl _ _ 28 rfl i0 Try.underlying28 hi0 iz0 iz1 iz2 (.slice A7 lq.length c7) lq rfl (HMK.out.q.next (by (repeat' (first | (with_reducible exact Below.refl _ _) | (with_reducible assumption) | (with_reducible refine Below.setCell ?_ ?_ _) | (with_reducible refine Below.alloc ?_ ?_ _) | (with_reducible refine Below.drew ?_) | (with_reducible refine below_drewN ?_ _) | (with_reducible refine below_next ?_ (by with_reducible assumption)) | omega | (dsimp only; omega) | (simp only [World.size_alloc, World.size_setCell, World.size_drew, World.heap_drewN]; omega))))) ⟨wr.heap.size, 0, none⟩ 1 (yN : Int) rfl ?c1 rfl (by omega) ?c2 ?_)
                        case c2 => first | omega | (simp; omega)
                        intro A9 c9 w9 hq9 hg9 hor9
                        have HM2 := Lib.hid (HMK.out.next (w' := (wr.setCell ⟨w.heap.size, yN, none⟩ (.bool true)).alloc (.cells #[.int .i64 yN] 3)) (by (repeat' (first | (with_reducible exact Below.refl _ _) | (with_reducible assumption) | (with_reducible refine Below.setCell ?_ ?_ _) | (with_reducible refine Below.alloc ?_ ?_ _) | (with_reducible refine Below.drew ?_) | (with_reducible refine below_drewN ?_ _) | (with_reducible refine below_next ?_ (by with_reducible assumption)) | omega | (dsimp only; omega) | (simp only [World.size_alloc, World.size_setCell, World.size_drew, World.heap_drewN]; omega)))))
                        have HT2 := Lib.hid (HM2.out.turn hg9 hq9 (.inr (hor9.imp id fun ⟨z, e, hz⟩ => ⟨z, e, by simpa using hz⟩)))
                        have hB9 : Below w.heap.size w w9 := (hbm2.alloc (by simp; omega) _).grown hg9 (by simp; omega) (fun k hk => (HMK.out.q.lt hk).1)
                        clear hq9 hg9 hor9
                        go_wp2
                        go_roundw
                        case rel => exact ⟨t + 1, _, (sn.set yN true, lq ++ [(yN : Int)]), by omega, by go_num, rfl, hB9, by simp; omega, by rw [List.length_set]; exact hsl2, by simpa using HT2, Lib.hid (HST.out.trans HS2.out)⟩
                        case measure => simp [intOf]; omega
                    · have HS2 : Hid (Sol.addN (fun k => decide (Sol.InR N k)) (sn, lq) (yN : Int) = (sn, lq)) := Lib.hid (by unfold Sol.addN; rw [if_neg (by simp; unfold Sol.InR; omega)])
                      go_wp2
                      go_roundw
                      case rel => exact ⟨t + 1, _, (sn, lq), by omega, by go_num, rfl, hXb, by dsimp only; omega, hsl2, HS, Lib.hid (HST.out.trans HS2.out)⟩
                      case measure => simp [intOf]; omega
                · obtain rfl : t = lr.length := by omega
                  have hfo := HFO.out
                  rw [List.take_length] at hfo
                  obtain ⟨sl', k1, k2⟩ := Sol.Found.next (ok := Sol.okW (Sol.cleanG g) u v x) (fun h ho => Sol.okW_mono h ho) (fun k => decide (Sol.InR N k)) lr (fun k _ h => of_decide_eq_true h) HF.out (fun sl' h => ⟨HXU.out, .inr fun k hk => by
                    rw [Sol.rowI_clean, HRW.out, List.mem_filter] at hk
                    refine h k hk.1 ?_
                    have := hk.2
                    rw [← HN.out] at this
                    exact this⟩)
                  rw [hfo] at k1 k2
                  dsimp only at k1 k2
                  have HK1 := Lib.hid k1
                  have HK2 : Hid (Sol.msrS N sl' lq < gk - 1) := Lib.hid (by have := HM.out; omega)
                  have hgk1 : gk - 1 < gk := by have := HM.out; omega
                  clear k1 k2 hfo
                  go_wp2
                  go_roundg (gk - 1)
                  case measure => exact hgk1
                  case rel => exact ⟨_, sn, lq, sl', rfl, by omega, hXb, HS, HK1, HK2⟩
end Go.Proofs.Ytadcjmfednachaa
