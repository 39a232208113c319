/-
  The statement's own search for a way back to where a number comes from.
-/
import Derived.Test.YtadcjmfednachaaSolW38
namespace Go.Proofs.Ytadcjmfednachaa
open Go.RowKit Go.Maps Go.WideShapes Go.ChangeShapes Go.Deep
set_option linter.unusedVariables false
set_option linter.unusedSimpArgs false

theorem inF_e {G : List (List Int)} {e : Int} {start : List Int} {makes ends : List (List Int)} {i x : Int} (h : Sol.InF G e start makes ends i x) : Sol.InR G.length e := by cases h <;> assumption
def nums (t : Nat) : List Int := (List.range t).map fun (k : Nat) => (k : Int)
theorem nums_fold (p : Int → Bool) (t : Nat) (st : Sol.StW) : (nums (t + 1)).foldl (Sol.addN p) st = Sol.addN p ((nums t).foldl (Sol.addN p) st) t := by
  unfold nums
  rw [List.range_succ, List.map_append, List.foldl_append]; rfl
theorem mem_nums {t : Nat} {k : Int} : k ∈ nums t ↔ Sol.InR t k := by
  unfold nums Sol.InR
  simp only [List.mem_map, List.mem_range]
  exact ⟨fun ⟨j, h1, h2⟩ => by omega, fun h => ⟨k.toNat, by omega, by omega⟩⟩
set_option maxRecDepth 100000 in
set_option maxHeartbeats 4000000 in
theorem comes_any (A0 As A1 A2 : Option Addr) (c0 ns cs c1 c2 N bt fr : Nat) (g u v : List (List Int)) (en : Int) (start : List Int) (x : Int) (w : World) (hg : RdM w (.slice A0 N c0) g) (hst : RdL intC 1 w (.slice As ns cs) start) (hu : RdM w (.slice A1 u.length c1) u) (hv : RdM w (.slice A2 v.length c2) v) (hmt : BoolR 4 w bt (Sol.reachB (Sol.cleanG g) en))
    (hN : N = g.length) (hgl : N ≤ 40) (hgr : ∀ l ∈ g, l.length ≤ 20) (hul : u.length ≤ 40) (hvl : v.length ≤ 40) (hfr : fr < N) (hin : Sol.InF (Sol.cleanG g) en start u v fr x) :
    Calls Try.prog 24 #[.slice A0 N c0, .slice (some ⟨bt, 0, none⟩) N N, .int .i64 en, .slice As ns cs, .slice A1 u.length c1, .slice A2 v.length c2, .int .i64 fr, .int .i64 x] w fun e w' => e = .returned (.bool true) ∧ Below w.heap.size w w' := by
  obtain ⟨i0, hi0, iz0, iz1, iz2⟩ := info_parts int_info
  obtain ⟨j0, hj0, hy0, hy1, hy2⟩ := info_parts bool_info
  obtain ⟨rfl, hsc0, hsm0⟩ := hst.lenEq
  have HGM := Lib.hid hg
  have HUM := Lib.hid hu
  have HVM := Lib.hid hv
  have HSTA := Lib.hid hst
  have HMT := Lib.hid hmt
  have HN := Lib.hid hN
  have HGR := Lib.hid hgr
  have HIN := Lib.hid hin
  have HCL : Hid ((Sol.cleanG g).length = N) := Lib.hid (by rw [Sol.cleanG_length, hN])
  have HEN := Lib.hid (inF_e hin)
  obtain ⟨rb, hrb⟩ : ∃ rb, rb = Sol.reachB (Sol.cleanG g) en := ⟨_, rfl⟩
  have hrl : rb.length = N := by rw [hrb, Sol.reachB_length, HCL.out]
  have HRC : Hid (∀ k : Nat, k < N → (rb.getD k false = true ↔ Sol.Rch (Sol.cleanG g) en k)) := Lib.hid fun k hk => by
    rw [hrb, Sol.reachB_at (by rw [HCL.out]; exact hk)]
    exact ⟨And.right, fun h => ⟨HEN.out, h⟩⟩
  rw [← hrb] at HMT
  clear hg hu hv hN hgr hin hst hmt hrb
  have hA1 := cell_alloc_if
  have hA2 := frozen_alloc_if
  have hA3 := cell_set_if
  go_enter Try.func24, Try.ntmps24
  go_wp2_with (refine wpList_make_full _ rfl (.tmp 22) (.tmp 22) 25 rfl w.heap.size 4 j0 _ 1 Try.underlying25 hj0 hy0 hy1 .i64 .i64 N N N rfl rfl rfl rfl ?m1 ?m2 ?m3 ?_)
  case m1 => rw [hy2]; omega
  case m2 => unfold maxLen; omega
  try (case m3 => exact Nat.le_refl _)
  intro w1 hrow hg1
  rw [toList_madeCells_one] at hrow
  have hblk := block_full hrow
  have hb1 : Below w.heap.size w w1 := (Below.refl _ _).grown hg1 (Nat.le_refl _) (fun k hk => by cases hk)
  have hbr : BoolR 4 w1 w.heap.size (List.replicate N false) := by unfold BoolR; rw [hblk]; simp
  have hlt1 : w.heap.size < w1.heap.size := hbr.lt
  obtain ⟨p0, f0⟩ := hbr.at_ (i := fr) (by simpa using hfr)
  have hS1 : SeenS w.heap.size (w1.alloc (.cells #[.int .i64 fr] 3)) w.heap.size (.slice (some ⟨w1.heap.size, 0, none⟩) 1 1) (List.replicate N false, [(fr : Int)]) :=
    ⟨hbr.next (ne_alloc _ _), (OwnL.lit (e := 3) (f := intC) (base := w.heap.size) w1 #[.int .i64 fr] [(fr : Int)] _ rfl (by omega) (by simp; decide) rfl rfl).queue, Nat.le_refl _, by simp [Value.ownBlock]; omega⟩
  have hS2 := hS1.mark fr true
  have hb2 : Below w.heap.size w ((w1.alloc (.cells #[.int .i64 fr] 3)).setCell ⟨w.heap.size, fr, none⟩ (.bool true)) := (hb1.alloc (by omega) _).setCell (Nat.le_refl _) _
  have hcomm : (w1.alloc (.cells #[.int .i64 fr] 3)).setCell ⟨w.heap.size, fr, none⟩ (.bool true) = (w1.setCell ⟨w.heap.size, fr, none⟩ (.bool true)).alloc (.cells #[.int .i64 fr] 3) := World.setCell_alloc_past (.cells #[.int .i64 fr] 3) w.heap.size fr _ hlt1
  rw [hcomm] at hS2 hb2
  have HS2 := Lib.hid hS2
  have HF0 : Hid (Sol.Found N (Sol.okC (Sol.cleanG g) en start u v x) fr ((List.replicate N false).set fr true) [(fr : Int)] [(fr : Int)]) := Lib.hid (by
    have h := Sol.Found.start (n := N) (ok := Sol.okC (Sol.cleanG g) en start u v x) (from_ := (fr : Int)) (by unfold Sol.InR; omega)
    rwa [Int.toNat_natCast] at h)
  clear hrow hg1 hblk hbr hS1 hcomm hS2
  go_wp2
  go_loopg [18] (2 * N + 2) (fun gk v12 wr => ∃ (vq : Value) (seen : List Bool) (lq sl : List Int), v12 = vq ∧ gk ≤ 2 * N + 2 ∧ Below w.heap.size w wr ∧ Hid (SeenS w.heap.size wr w.heap.size vq (seen, lq)) ∧ Hid (Sol.Found N (Sol.okC (Sol.cleanG g) en start u v x) fr seen lq sl) ∧ Hid (Sol.msrS N sl lq < gk))
  case atStart => exact ⟨_, _, _, _, rfl, by omega, hb2, HS2, HF0, Lib.hid (by unfold Sol.msrS; simp; omega)⟩
  case round =>
    clear hb2 HS2 HF0 p0 f0 hb1
    obtain ⟨vq, seen, lq, sl, rfl, hgk, hXb, HS, HF, HM⟩ := hrel
    have hXz := hXb.size
    obtain ⟨A3, c3, e, _⟩ := HS.out.q
    dsimp only at e
    subst e
    cases lq with
    | nil =>
      exfalso
      have h := HF.out
      rw [← HCL.out] at h
      exact Sol.comes_end (Sol.cln_clean g) h HIN.out
    | cons i0' q =>
      have hir := HF.out.s.inr i0' (HF.out.s.sub i0' (by simp))
      unfold Sol.InR at hir
      obtain ⟨iN, rfl⟩ : ∃ k : Nat, i0' = (k : Int) := ⟨i0'.toNat, by omega⟩
      have hiN : iN < N := by omega
      have hql : q.length ≤ 82 := by
        have h := HM.out
        unfold Sol.msrS at h
        simp at h
        omega
      obtain ⟨b3, off3, e3, _, hb3, p3⟩ := HS.out.q.rdl.intAt (k := 0) (y := (iN : Int)) rfl
      rw [Nat.add_zero] at p3
      obtain ⟨hlc, hcm⟩ : q.length + 1 ≤ c3 ∧ c3 ≤ 9223372036854775807 := by
        have := HS.out.q.rdl.lenEq
        simp at this
        exact this
      obtain ⟨A4, hA4⟩ : ∃ A4, A4 = fromA A3 c3 1 1 := ⟨_, rfl⟩
      have hqt := OwnQ.tail HS.out.q
      rw [← hA4] at hqt
      simp only [List.length_cons, Nat.add_sub_cancel] at hqt
      have hsl := fun W => (run_sliceAt_slice (P := Try.prog) (w := W) 28 (.slice A3 (q.length + 1) c3) (some (.int .i64 1)) none none rfl).trans (run_slice_from (P := Try.prog) (T := 28) (e := 3) (sz := 1) rfl (by kernel_rfl) A3 (q.length + 1) c3 1 (by omega) hlc W)
      rw [← hA4] at hsl
      simp only [Nat.add_sub_cancel] at hsl
      have hob : (Value.slice A4 q.length (c3 - 1)).ownBlock = (Value.slice A3 (q.length + 1) c3).ownBlock := by
        rw [hA4, e3]
        unfold fromA
        by_cases hc : c3 = 1
        · rw [if_pos hc]; rfl
        · rw [if_neg hc]; simp [add_at, Value.ownBlock]
      have HT := Lib.hid (HS.out.turn (grown_refl _ _) hqt (.inr (.inl hob)))
      clear hqt hob hA4 hir
      simp only [List.length_cons] at *
      subst e3
      go_upto_region 7 with (fail)
      go_cut [44] (fun s44 wx => s44 = .bool (decide ((iN : Int) = en ∧ x ∈ start)) ∧ wx = wr)
      case first =>
        by_cases he : (iN : Int) = en
        · have HHA := Lib.hid (hasI_any As start.length cs start x wr (HSTA.out.next hXb))
          have d : ((iN : Int) == en) = true := by simp [he]
          have HE2 : Hid (decide ((iN : Int) = en ∧ x ∈ start) = memB start x) := Lib.hid (by unfold memB; simp [he])
          clear he
          go_wp2_with (go_at_call 22; (with_reducible refine HHA.out.mono ?_); rintro e w9 ⟨rfl, rfl⟩)
          go_meet
          exact ⟨by rw [HE2.out], rfl⟩
        · have d : ((iN : Int) == en) = false := by simp [he]
          have HE2 : Hid (decide ((iN : Int) = en ∧ x ∈ start) = false) := Lib.hid (by simp [he])
          go_wp2
          go_meet
          exact ⟨by rw [HE2.out], rfl⟩
      case rest =>
        obtain ⟨rfl, hwc⟩ := hcut
        rw [hwc]
        clear hwc
        by_cases hes : (iN : Int) = en ∧ x ∈ start
        · have d : decide ((iN : Int) = en ∧ x ∈ start) = true := decide_eq_true hes
          rw [d]
          clear hes d
          go_wp2
          go_ret
          exact ⟨rfl, hXb⟩
        · have d : decide ((iN : Int) = en ∧ x ∈ start) = false := decide_eq_false hes
          rw [d]
          have HES := Lib.hid hes
          have hsn : seen.length = N := HF.out.s.marks.1
          clear hes d
          go_wp2
          go_loopw [18, 47] (fun v12 v' wr => ∃ (t : Nat) (vq : Value) (st : Sol.StW), t ≤ N ∧ v' = .int .i64 t ∧ v12 = vq ∧ Below w.heap.size w wr ∧ st.2.length ≤ q.length + t ∧ st.1.length = N ∧ Hid (SeenS w.heap.size wr w.heap.size vq st) ∧ Hid ((nums t).foldl (Sol.addN fun k => rb.getD k.toNat false && memB (Sol.rowI g k) iN && !memB (Sol.rowI v k) x) (seen, q) = st) ∧ Hid (∀ k : Nat, k < t → rb.getD k false = true → (iN : Int) ∈ Sol.rowI g k → x ∉ Sol.rowI u k)) (fun _ v' _ => N - (intOf v').toNat)
          case atStart => exact ⟨0, _, _, by omega, rfl, rfl, hXb, by simp, hsn, HT, Lib.hid rfl, Lib.hid fun k hk => absurd hk (by omega)⟩
          case round =>
            clear hXb HT HS
            obtain ⟨t, vq, ⟨sn, lq⟩, ht, rfl, rfl, hXb, hlt, hsl2, HS, HFO, HNO⟩ := hrel
            dsimp only at *
            have hXz := hXb.size
            obtain ⟨A7, c7, e, _⟩ := HS.out.q
            dsimp only at e
            subst e
            by_cases htl : t < N
            · have HST := Lib.hid (nums_fold (fun k => rb.getD k.toNat false && memB (Sol.rowI g k) iN && !memB (Sol.rowI v k) x) t (seen, q))
              rw [HFO.out] at HST
              have hAD : ∀ b : Bool, (rb.getD t false && memB (Sol.rowI g t) iN && !memB (Sol.rowI v t) x) = b → Sol.addN (fun k => rb.getD k.toNat false && memB (Sol.rowI g k) iN && !memB (Sol.rowI v k) x) (sn, lq) (t : Int) = if b = true then Sol.addW (sn, lq) t else (sn, lq) := fun b h => by
                show (if (rb.getD (t : Int).toNat false && memB (Sol.rowI g t) iN && !memB (Sol.rowI v t) x) = true then Sol.addW (sn, lq) t else (sn, lq)) = _
                rw [Int.toNat_natCast, h]
              have HAD := Lib.hid hAD
              have pm := ((HMT.out.next hXb).at_ (i := t) (by omega)).1
              obtain ⟨b, hb⟩ : ∃ b, b = rb.getD t false := ⟨_, rfl⟩
              rw [← hb] at pm
              have HB := Lib.hid hb
              clear hb hAD
              cases b with
              | false =>
                have HS2 := Lib.hid (HAD.out false (by rw [← HB.out]; rfl))
                have HNO2 : Hid (∀ k : Nat, k < t + 1 → rb.getD k false = true → (iN : Int) ∈ Sol.rowI g k → x ∉ Sol.rowI u k) := Lib.hid fun k hk h1 h2 => by
                  by_cases hkt : k = t
                  · subst hkt; rw [← HB.out] at h1; cases h1
                  · exact HNO.out k (by omega) h1 h2
                go_wp2
                go_roundw
                case rel => exact ⟨t + 1, _, (sn, lq), by omega, by go_num, rfl, hXb, by dsimp only; omega, hsl2, HS, Lib.hid (HST.out.trans HS2.out), HNO2⟩
                case measure => simp [intOf]; omega
              | true =>
                obtain ⟨lk, hlk⟩ : ∃ r, g[t]? = some r := ⟨_, List.getElem?_eq_getElem (by have := HN.out; omega)⟩
                have HRW := Lib.hid (rowI_nat hlk)
                obtain ⟨bm, offm, c4, A6, c6, e, hbm, p20, hr⟩ := HGM.out.row hlk
                injection e with e1 e2 e3
                subst e1
                have p2 := (hXb.cell (p := ⟨bm, offm + t, none⟩) hbm).trans p20
                have HHA := Lib.hid (hasI_any A6 lk.length c6 lk (iN : Int) wr (hr.next hXb))
                have HSM := Lib.hid (setL_any _ _ _ u t wr (HUM.out.next hXb) (by omega))
                have HSE := Lib.hid (setL_any _ _ _ v t wr (HVM.out.next hXb) (by omega))
                clear hr p20 hlk e2 e3
                by_cases hik : (iN : Int) ∈ lk
                · have q1 := memB_yes hik
                  by_cases hxu : x ∈ Sol.rowI u t
                  · have q2 := memB_yes hxu
                    clear hik hxu
                    go_wp2_with (first
                      | (go_at_call 22; (with_reducible refine HHA.out.mono ?_); rintro e w9 ⟨rfl, rfl⟩)
                      | (go_at_call 25; (with_reducible refine HSM.out.mono ?_); rintro e w9 ⟨AM, cM, rfl, hm, rfl⟩; have HM9 := Lib.hid (hasI_any _ _ _ _ x _ hm); clear hm)
                      | (go_at_call 22; (with_reducible refine HM9.out.mono ?_); rintro e w9 ⟨rfl, rfl⟩))
                    go_ret
                    exact ⟨rfl, hXb⟩
                  · have q2 := memB_no hxu
                    have HNO2 : Hid (∀ k : Nat, k < t + 1 → rb.getD k false = true → (iN : Int) ∈ Sol.rowI g k → x ∉ Sol.rowI u k) := Lib.hid fun k hk h1 h2 => by
                      by_cases hkt : k = t
                      · subst hkt; exact hxu
                      · exact HNO.out k (by omega) h1 h2
                    by_cases hxv : x ∈ Sol.rowI v t
                    · have q3 := memB_yes hxv
                      have HS2 := Lib.hid (HAD.out false (by rw [q3]; simp))
                      clear hik hxu hxv
                      go_wp2_with (first
                        | (go_at_call 22; (with_reducible refine HHA.out.mono ?_); rintro e w9 ⟨rfl, rfl⟩)
                        | (go_at_call 25; (with_reducible refine HSM.out.mono ?_); rintro e w9 ⟨AM, cM, rfl, hm, rfl⟩; have HM9 := Lib.hid (hasI_any _ _ _ _ x _ hm); clear hm HHA)
                        | (go_at_call 22; (with_reducible refine HM9.out.mono ?_); rintro e w9 ⟨rfl, rfl⟩)
                        | (go_at_call 25; (with_reducible refine HSE.out.mono ?_); rintro e w9 ⟨AE, cE, rfl, hm, rfl⟩; have HE9 := Lib.hid (hasI_any _ _ _ _ x _ hm); clear hm HM9)
                        | (go_at_call 22; (with_reducible refine HE9.out.mono ?_); rintro e w9 ⟨rfl, rfl⟩))
                      go_roundw
                      case rel => exact ⟨t + 1, _, (sn, lq), by omega, by go_num, rfl, hXb, by dsimp only; omega, hsl2, HS, Lib.hid (HST.out.trans HS2.out), HNO2⟩
                      case measure => simp [intOf]; omega
                    · have q3 := memB_no hxv
                      have HS2 := Lib.hid (HAD.out true (by rw [← HB.out, HRW.out, q1, q3]; rfl))
                      obtain ⟨p0, f0⟩ := HS.out.row.at_ (i := t) (by dsimp only; omega)
                      obtain ⟨b, hb⟩ : ∃ b, b = sn.getD t false := ⟨_, rfl⟩
                      dsimp only at p0
                      rw [← hb] at p0
                      have HS3 : Hid (Sol.addW (sn, lq) (t : Int) = if b = true then (sn, lq) else (sn.set t true, lq ++ [(t : Int)])) := Lib.hid (by unfold Sol.addW; rw [Int.toNat_natCast, hb])
                      clear hik hxu hxv hb
                      cases b with
                      | true =>
                        go_wp2_with (first
                          | (go_at_call 22; (with_reducible refine HHA.out.mono ?_); rintro e w9 ⟨rfl, rfl⟩)
                          | (go_at_call 25; (with_reducible refine HSM.out.mono ?_); rintro e w9 ⟨AM, cM, rfl, hm, rfl⟩; have HM9 := Lib.hid (hasI_any _ _ _ _ x _ hm); clear hm HHA)
                          | (go_at_call 22; (with_reducible refine HM9.out.mono ?_); rintro e w9 ⟨rfl, rfl⟩)
                          | (go_at_call 25; (with_reducible refine HSE.out.mono ?_); rintro e w9 ⟨AE, cE, rfl, hm, rfl⟩; have HE9 := Lib.hid (hasI_any _ _ _ _ x _ hm); clear hm HM9)
                          | (go_at_call 22; (with_reducible refine HE9.out.mono ?_); rintro e w9 ⟨rfl, rfl⟩))
                        go_roundw
                        case rel => exact ⟨t + 1, _, (sn, lq), by omega, by go_num, rfl, hXb, by dsimp only; omega, hsl2, HS, Lib.hid (HST.out.trans (HS2.out.trans HS3.out)), HNO2⟩
                        case measure => simp [intOf]; omega
                      | false =>
                        have HMK := Lib.hid (HS.out.mark t true)
                        have hbm2 : Below w.heap.size w (wr.setCell ⟨w.heap.size, t, none⟩ (.bool true)) := hXb.setCell (Nat.le_refl _) _
                        go_wp2_with (first
                          | (go_at_call 22; (with_reducible refine HHA.out.mono ?_); rintro e w9 ⟨rfl, rfl⟩)
                          | (go_at_call 25; (with_reducible refine HSM.out.mono ?_); rintro e w9 ⟨AM, cM, rfl, hm, rfl⟩; have HM9 := Lib.hid (hasI_any _ _ _ _ x _ hm); clear hm HHA)
                          | (go_at_call 22; (with_reducible refine HM9.out.mono ?_); rintro e w9 ⟨rfl, rfl⟩)
                          | (go_at_call 25; (with_reducible refine HSE.out.mono ?_); rintro e w9 ⟨AE, cE, rfl, hm, rfl⟩; have HE9 := Lib.hid (hasI_any _ _ _ _ x _ hm); clear hm HM9)
                          | (go_at_call 22; (with_reducible refine HE9.out.mono ?_); rintro e w9 ⟨rfl, rfl⟩)
                          | (at_builtin; refine wpList_appQ rfl _ _ 28 rfl i0 Try.underlying28 hi0 iz0 iz1 iz2 (.slice A7 lq.length c7) lq rfl (HMK.out.q.next (by (repeat' (first | (with_reducible exact Below.refl _ _) | (with_reducible assumption) | (with_reducible refine Below.setCell ?_ ?_ _) | (with_reducible refine Below.alloc ?_ ?_ _) | (with_reducible refine Below.drew ?_) | (with_reducible refine below_drewN ?_ _) | (with_reducible refine below_next ?_ (by with_reducible assumption)) | omega | (dsimp only; omega) | (simp only [World.size_alloc, World.size_setCell, World.size_drew, World.heap_drewN]; omega))))) ⟨wr.heap.size, 0, none⟩ 1 (t : Int) rfl ?c1 rfl (by omega) ?c2 ?_))
                        try (case c1 => first | (simp [World.setCell, cell_alloc_if]; done) | (rw [hA1]; simp [World.setCell]; done))
                        try (case c2 => first | omega | (simp; omega))
                        intro A9 c9 w9 hq9 hg9 hor9
                        have HM2 := Lib.hid (HMK.out.next (w' := (wr.setCell ⟨w.heap.size, t, none⟩ (.bool true)).alloc (.cells #[.int .i64 t] 3)) (by (repeat' (first | (with_reducible exact Below.refl _ _) | (with_reducible assumption) | (with_reducible refine Below.setCell ?_ ?_ _) | (with_reducible refine Below.alloc ?_ ?_ _) | (with_reducible refine Below.drew ?_) | (with_reducible refine below_drewN ?_ _) | (with_reducible refine below_next ?_ (by with_reducible assumption)) | omega | (dsimp only; omega) | (simp only [World.size_alloc, World.size_setCell, World.size_drew, World.heap_drewN]; omega)))))
                        have HT2 := Lib.hid (HM2.out.turn hg9 hq9 (.inr (hor9.imp id fun ⟨z, e, hz⟩ => ⟨z, e, by simpa using hz⟩)))
                        have hB9 : Below w.heap.size w w9 := (hbm2.alloc (by simp; omega) _).grown hg9 (by simp; omega) (fun k hk => (HMK.out.q.lt hk).1)
                        clear hq9 hg9 hor9
                        go_wp2
                        go_roundw
                        case rel => exact ⟨t + 1, _, (sn.set t true, lq ++ [(t : Int)]), by omega, by go_num, rfl, hB9, by simp; omega, by rw [List.length_set]; exact hsl2, by simpa using HT2, Lib.hid (HST.out.trans (HS2.out.trans HS3.out)), HNO2⟩
                        case measure => simp [intOf]; omega
                · have q1 := memB_no hik
                  have HS2 := Lib.hid (HAD.out false (by rw [HRW.out, q1]; simp))
                  have HNO2 : Hid (∀ k : Nat, k < t + 1 → rb.getD k false = true → (iN : Int) ∈ Sol.rowI g k → x ∉ Sol.rowI u k) := Lib.hid fun k hk h1 h2 => by
                    by_cases hkt : k = t
                    · subst hkt; rw [HRW.out] at h2; exact absurd h2 hik
                    · exact HNO.out k (by omega) h1 h2
                  clear hik
                  go_wp2_with (go_at_call 22; (with_reducible refine HHA.out.mono ?_); rintro e w9 ⟨rfl, rfl⟩)
                  go_roundw
                  case rel => exact ⟨t + 1, _, (sn, lq), by omega, by go_num, rfl, hXb, by dsimp only; omega, hsl2, HS, Lib.hid (HST.out.trans HS2.out), HNO2⟩
                  case measure => simp [intOf]; omega
            · obtain rfl : t = N := by omega
              obtain ⟨sl', k1, k2⟩ := Sol.Found.next (ok := Sol.okC (Sol.cleanG g) en start u v x) (fun h ho => Sol.okC_mono h ho) (fun k => rb.getD k.toNat false && memB (Sol.rowI g k) iN && !memB (Sol.rowI v k) x) (nums t) (fun k hk _ => mem_nums.1 hk) HF.out (fun sl' h => ⟨HES.out, fun k hkR hkr hki => by
                rw [HCL.out] at hkR
                have hkR0 := hkR
                unfold Sol.InR at hkR0
                obtain ⟨kN, rfl⟩ : ∃ z : Nat, k = (z : Int) := ⟨k.toNat, by omega⟩
                have hkN : kN < t := by omega
                rw [Sol.rowI_clean, List.mem_filter] at hki
                have hb := (HRC.out kN hkN).2 hkr
                refine ⟨HNO.out kN hkN hb hki.1, ?_⟩
                by_cases hxv : x ∈ Sol.rowI v kN
                · exact .inl hxv
                · refine .inr (h _ (mem_nums.2 hkR) ?_)
                  rw [Int.toNat_natCast, hb, memB_yes hki.1, memB_no hxv]; rfl⟩)
              rw [HFO.out] at k1 k2
              dsimp only at k1 k2
              have HK1 := Lib.hid k1
              have HK2 : Hid (Sol.msrS t sl' lq < gk - 1) := Lib.hid (by have := HM.out; omega)
              have hgk1 : gk - 1 < gk := by have := HM.out; omega
              clear k1 k2
              go_wp2
              go_roundg (gk - 1)
              case measure => exact hgk1
              case rel => exact ⟨_, sn, lq, sl', rfl, by omega, hXb, HS, HK1, HK2⟩
end Go.Proofs.Ytadcjmfednachaa
