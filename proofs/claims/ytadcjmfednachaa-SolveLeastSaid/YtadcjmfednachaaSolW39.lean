/-
  SolveLeast.
-/
import Derived.Test.YtadcjmfednachaaSolW38
namespace Go.Proofs.Ytadcjmfednachaa
open Go.RowKit Go.Maps Go.WideShapes Go.ChangeShapes Go.Deep
set_option linter.unusedVariables false
set_option linter.unusedSimpArgs false

structure Env4 (W : World) (g u v r : List (List Int)) (x1 x2 x3 x4 : Value) : Prop where
  a1 : RdM W x1 g
  a2 : RdM W x2 u
  a3 : RdM W x3 v
  a4 : RdM W x4 r
theorem Env4.next {W W' : World} {g u v r : List (List Int)} {x1 x2 x3 x4 : Value} (h : Env4 W g u v r x1 x2 x3 x4) (hb : Below W.heap.size W W') : Env4 W' g u v r x1 x2 x3 x4 :=
  ⟨h.a1.next hb, h.a2.next hb, h.a3.next hb, h.a4.next hb⟩
set_option maxRecDepth 100000 in
set_option maxHeartbeats 4000000 in
theorem least_any (A0 A1 A2 : Option Addr) (n0 n1 n2 c0 c1 c2 : Nat) (m a b : List (List Int)) (w : World) (hs : RdM w (.slice A0 n0 c0) m) (hsa : RdM w (.slice A1 n1 c1) a) (hsb : RdM w (.slice A2 n2 c2) b)
    (hwa : ∀ l ∈ a, ∀ x ∈ l, I64w x) (hwb : ∀ l ∈ b, ∀ x ∈ l, I64w x) :
    Calls Try.prog 5 #[.slice A0 n0 c0, .slice A1 n1 c1, .slice A2 n2 c2] w fun e w' => e = .returned (.bool true) ∧ Below w.heap.size w w' := by
  have HX := Lib.hid (fixed_any w)
  have hg0 := fewL_rows m
  have hg1 := fewL_le m
  have hu0 := fewL_rows a
  have hu1 := fewL_flat a
  have hul := fewL_le a
  have hu3 := fewL_wf hwa
  have hv0 := fewL_rows b
  have hvl := fewL_le b
  have hv3 := fewL_wf hwb
  have HF0 := Lib.hid fun (W : World) (h : Below w.heap.size w W) => few_any A0 n0 c0 m W (hs.next h)
  have HF1 := Lib.hid fun (W : World) (h : Below w.heap.size w W) => few_any A1 n1 c1 a W (hsa.next h)
  have HF2 := Lib.hid fun (W : World) (h : Below w.heap.size w W) => few_any A2 n2 c2 b W (hsb.next h)
  generalize fewL m = g at *
  generalize fewL a = u at *
  generalize fewL b = v at *
  have HG0 := Lib.hid hg0
  have HU0 := Lib.hid hu0
  have HV0 := Lib.hid hv0
  have HU3 := Lib.hid hu3
  have HV3 := Lib.hid hv3
  have HU1 := Lib.hid hu1
  obtain ⟨N, hN⟩ : ∃ N, N = g.length := ⟨_, rfl⟩
  have HN := Lib.hid hN
  have hgl : N ≤ 40 := by omega
  have HCL : Hid ((Sol.cleanG g).length = N) := Lib.hid (by rw [Sol.cleanG_length, hN])
  clear hs hsa hsb hwa hwb hg0 hu0 hv0 hu3 hv3 hu1 hN hg1
  have hA1 := cell_alloc_if
  have hA2 := frozen_alloc_if
  have hA3 := cell_set_if
  go_enter Try.func5, Try.ntmps5
  go_upto_region 8 with (first
    | (go_at_call 8; (with_reducible refine HX.out.mono ?_); rintro e w1 ⟨rfl, hB1⟩; have hz1 := hB1.size)
    | (go_at_call 9; (with_reducible refine (HF0.out w1 hB1).mono ?_); rintro e w2 ⟨A5, c5, rfl, hm2, hb2⟩; rw [← HN.out] at hm2 ⊢; have HM2 := Lib.hid hm2; have hz2 := hb2.size; have hB2 := hB1.trans (hb2.mono (by omega)); clear hm2)
    | (go_at_call 9; (with_reducible refine (HF1.out w2 hB2).mono ?_); rintro e w3 ⟨A6, c6, rfl, hm3, hb3⟩; have HM3 := Lib.hid hm3; have hz3 := hb3.size; have hB3 := hB2.trans (hb3.mono (by omega)); clear hm3)
    | (go_at_call 9; (with_reducible refine (HF2.out w3 hB3).mono ?_); rintro e w4 ⟨A7, c7, rfl, hm4, hb4⟩; have HM4 := Lib.hid hm4; have hz4 := hb4.size; have hB4 := hB3.trans (hb4.mono (by omega)); have HM24 := Lib.hid (HM2.out.next (hb3.trans (hb4.mono hz3))); have HM34 := Lib.hid (HM3.out.next hb4); clear hm4)
    | (go_at_call 18; (with_reducible refine (backward_any _ _ _ _ _ _ _ _ _ g u v w4 HM24.out HM34.out HM4.out (by have := HN.out; omega) (fun l hl => by have := HG0.out l hl; omega) (fun l hl => by have := HU0.out l hl; omega) (fun l hl => by have := HV0.out l hl; omega) (by have := HU1.out; omega) HU3.out HV3.out).mono ?_); rw [HCL.out]; rintro e w5 ⟨r, p1, hs5, rfl, hr5, hb5⟩; have hrl := hs5.len; rw [hrl] at hr5 ⊢; have HS5 := Lib.hid hs5; have HR5 := Lib.hid hr5; have hz5 := hb5.size; have hB5 := hB4.trans (hb5.mono (by omega)); clear hs5 hr5)
    | fail)
  have HE : Hid (Env4 w5 g u v r (.slice A5 N c5) (.slice A6 u.length c6) (.slice A7 v.length c7) (.slice (some ⟨p1, 0, none⟩) N N)) := Lib.hid ⟨HM24.out.next hb5, HM34.out.next hb5, HM4.out.next hb5, HR5.out⟩
  clear HM2 HM3 HM4 HM24 HM34 HR5 hb5 hb4 hb3 hb2 hB4 hB3 hB2 hB1 HF0 HF1 HF2 HX
  go_loopw [36] (fun v wr => ∃ i : Nat, i ≤ N ∧ v = .int .i64 i ∧ Below w5.heap.size w5 wr) (fun v _ => N - (intOf v).toNat)
  case atStart => exact ⟨0, by omega, rfl, Below.refl _ _⟩
  case round =>
    obtain ⟨i, hi, rfl, hXb⟩ := hrel
    have hXz := hXb.size
    by_cases hlt : i < N
    · have hiR : Sol.InR N (i : Int) := by unfold Sol.InR; omega
      obtain ⟨ri, hri⟩ : ∃ l, r[i]? = some l := ⟨_, List.getElem?_eq_getElem (by omega)⟩
      have hmem := HS5.out.mem (i : Int) hiR
      have hrise := HS5.out.rise i hlt
      have hgd : r.getD i [] = ri := by rw [List.getD_eq_getElem?_getD, hri]; rfl
      rw [Int.toNat_natCast, hgd] at hmem
      rw [hgd] at hrise
      have HMEM := Lib.hid hmem
      have HRISE := Lib.hid hrise
      obtain ⟨bq, offq, cq, AI, cI, e, hbq, pI0, hrI⟩ := HE.out.a4.row hri
      injection e with e1 e2 e3
      injection e1 with e1
      injection e1 with e1 e1'
      subst e1 e1'
      rw [Nat.zero_add] at pI0
      have HRI := Lib.hid hrI
      have PI0 := Lib.hid pI0
      have hil := hrI.lenEq
      have HHI : Hid (∀ W, Below w5.heap.size w5 W → ∀ x, Calls Try.prog 22 #[.slice AI ri.length cI, .int .i64 x] W fun e w' => e = .returned (.bool (memB ri x)) ∧ W = w') := Lib.hid fun W hW x => hasI_any AI ri.length cI ri x W (HRI.out.next hW)
      have HIR := Lib.hid hiR
      clear hri hmem hrise hgd hrI pI0 e2 e3 hiR
      go_upto_if 42 with (fail)
      go_cut [42] (fun s42 wx => Below w5.heap.size w5 wx)
      case first =>
        by_cases hu : i < u.length
        · obtain ⟨lu, hlu⟩ : ∃ l, u[i]? = some l := ⟨_, List.getElem?_eq_getElem hu⟩
          have hlu20 := HU0.out lu (List.mem_of_getElem? hlu)
          have HLU := Lib.hid (rowI_nat hlu)
          obtain ⟨bm, offm, c4, A8, c8, e, hbm, p20, hr⟩ := HE.out.a2.row hlu
          injection e with e1 e2 e3
          subst e1
          have HRU := Lib.hid hr
          have p2 := (hXb.cell (p := ⟨bm, offm + i, none⟩) hbm).trans p20
          have hlul := hr.lenEq
          clear hr p20 hlu e2 e3
          go_wp2
          go_loopw [48] (fun v wr => ∃ t : Nat, t ≤ lu.length ∧ v = .int .i64 t ∧ Below w5.heap.size w5 wr) (fun v _ => lu.length - (intOf v).toNat)
          case atStart => exact ⟨0, by omega, rfl, hXb⟩
          case round =>
            obtain ⟨t, ht, rfl, hYb⟩ := hrel
            by_cases htl : t < lu.length
            · obtain ⟨y, hy⟩ : ∃ y, lu[t]? = some y := ⟨_, List.getElem?_eq_getElem htl⟩
              obtain ⟨b3, off3, e3, _, hb3, p30⟩ := HRU.out.intAt hy
              have p3 := (hYb.cell (p := ⟨b3, off3 + t, none⟩) hb3).trans p30
              have pI := (hYb.cell (p := ⟨_, _, none⟩) hbq).trans PI0.out
              have hyi : y ∈ ri := (HMEM.out y).2 (.use (by rw [HLU.out]; exact List.mem_of_getElem? hy))
              have hq := memB_yes hyi
              have HH := Lib.hid (HHI.out wr hYb y)
              subst e3
              clear hy p30 hyi
              go_wp2_with (go_at_call 22; (with_reducible refine HH.out.mono ?_); rintro e w9 ⟨rfl, rfl⟩)
              go_roundw
              case rel => exact ⟨t + 1, by omega, by go_num, hYb⟩
              case measure => simp [intOf]; omega
            · obtain rfl : t = lu.length := by omega
              go_wp2
              go_meet
              exact hYb
        · go_wp2
          go_meet
          exact hXb
      case rest =>
        have hYb := hcut
        have pI := (hYb.cell (p := ⟨p1, i, none⟩) hbq).trans PI0.out
        clear hXb hXz hcut
        go_wp2
        go_loopw [65] (fun v wr => ∃ t : Nat, t ≤ ri.length ∧ v = .int .i64 t ∧ Below w5.heap.size w5 wr) (fun v _ => ri.length - (intOf v).toNat)
        case atStart => exact ⟨0, by omega, rfl, hYb⟩
        case round =>
          clear pI hYb
          obtain ⟨t, ht, rfl, hYb⟩ := hrel
          have hYz := hYb.size
          have pI := (hYb.cell (p := ⟨p1, i, none⟩) hbq).trans PI0.out
          by_cases htl : t < ri.length
          · obtain ⟨y, hy⟩ : ∃ y, ri[t]? = some y := ⟨_, List.getElem?_eq_getElem htl⟩
            have hin := (HMEM.out y).1 (List.mem_of_getElem? hy)
            have HEW := HE.out.next hYb
            have HWY := Lib.hid (way_any A5 A6 A7 c5 c6 c7 N i g u v y wr HEW.a1 HEW.a2 HEW.a3 HN.out hgl HG0.out hul hvl hlt hin)
            obtain ⟨b3, off3, e3, _, hb3, p30⟩ := HRI.out.intAt hy
            have p3 := (hYb.cell (p := ⟨b3, off3 + t, none⟩) hb3).trans p30
            cases t with
            | zero =>
              rw [Nat.add_zero] at p3
              subst e3
              clear hy p30 hin HEW
              go_wp2_with (go_at_call 23; (with_reducible refine HWY.out.mono ?_); rintro e w9 ⟨rfl, hb9⟩)
              have hY9 := hYb.trans (hb9.mono hYz)
              go_roundw
              case rel => exact ⟨0 + 1, by omega, by go_num, hY9⟩
              case measure => simp [intOf]; omega
            | succ t' =>
              obtain ⟨yp, hyp⟩ : ∃ y, ri[t']? = some y := ⟨_, List.getElem?_eq_getElem (by omega)⟩
              have hlt2 : yp < y := by
                have h1 := List.pairwise_iff_getElem.1 HRISE.out t' (t' + 1) (by omega) htl (by omega)
                rw [List.getElem?_eq_getElem (by omega)] at hyp hy
                rw [Option.some.inj hyp, Option.some.inj hy] at h1
                exact h1
              obtain ⟨b4, off4, e4, _, hb4, p40⟩ := HRI.out.intAt hyp
              rw [e3] at e4
              injection e4 with e4
              injection e4 with e4 e4'
              subst e4 e4'
              have p4 := (hYb.cell (p := ⟨b3, off3 + t', none⟩) hb4).trans p40
              have d1 : decide (y ≤ yp) = false := by simp; omega
              subst e3
              clear hy hyp p30 p40 hin HEW
              go_wp2_with (go_at_call 23; (with_reducible refine HWY.out.mono ?_); rintro e w9 ⟨rfl, hb9⟩)
              have hY9 := hYb.trans (hb9.mono hYz)
              go_roundw
              case rel => exact ⟨t' + 1 + 1, by omega, by go_num, hY9⟩
              case measure => simp [intOf]; omega
          · obtain rfl : t = ri.length := by omega
            obtain ⟨lr, hlr⟩ : ∃ l, g[i]? = some l := ⟨_, List.getElem?_eq_getElem (by have := HN.out; omega)⟩
            have hlr20 := HG0.out lr (List.mem_of_getElem? hlr)
            have HLR := Lib.hid (rowI_nat hlr)
            obtain ⟨bm, offm, c4, A8, c8, e, hbm, p20, hr⟩ := HE.out.a1.row hlr
            injection e with e1 e2 e3
            subst e1
            have HRU := Lib.hid hr
            have p2 := (hYb.cell (p := ⟨bm, offm + i, none⟩) hbm).trans p20
            have hlul := hr.lenEq
            clear hr p20 hlr e2 e3
            go_wp2
            go_loopw [99] (fun v wr => ∃ t : Nat, t ≤ lr.length ∧ v = .int .i64 t ∧ Below w5.heap.size w5 wr) (fun v _ => lr.length - (intOf v).toNat)
            case atStart => exact ⟨0, by omega, rfl, hYb⟩
            case round =>
              clear p2 pI hYb hYz
              obtain ⟨t, ht, rfl, hYb⟩ := hrel
              by_cases htl : t < lr.length
              · obtain ⟨y, hy⟩ : ∃ y, lr[t]? = some y := ⟨_, List.getElem?_eq_getElem htl⟩
                obtain ⟨b3, off3, e3, _, hb3, p30⟩ := HRU.out.intAt hy
                have p3 := (hYb.cell (p := ⟨b3, off3 + t, none⟩) hb3).trans p30
                have hym := List.mem_of_getElem? hy
                subst e3
                clear hy p30
                by_cases h0 : y < 0
                · have d2 : decide (y < (0 : Int)) = true := decide_eq_true h0
                  go_wp2
                  go_roundw
                  case rel => exact ⟨t + 1, by omega, by go_num, hYb⟩
                  case measure => simp [intOf]; omega
                · obtain ⟨kN, rfl⟩ : ∃ k : Nat, y = (k : Int) := ⟨y.toNat, by omega⟩
                  by_cases h1 : kN < N
                  · have hkR : Sol.InR N (kN : Int) := by unfold Sol.InR; omega
                    have hkr : (kN : Int) ∈ Sol.rowI (Sol.cleanG g) i := by
                      rw [Sol.rowI_clean, HLR.out, List.mem_filter]
                      exact ⟨hym, by simp; rw [← HN.out]; exact hkR⟩
                    obtain ⟨rk, hrk⟩ : ∃ l, r[kN]? = some l := ⟨_, List.getElem?_eq_getElem (by omega)⟩
                    have hmk := HS5.out.mem (kN : Int) hkR
                    rw [Int.toNat_natCast, show r.getD kN [] = rk by rw [List.getD_eq_getElem?_getD, hrk]; rfl] at hmk
                    have HSTEP : Hid (∀ x ∈ rk, x ∉ ri → x ∈ Sol.rowI v i) := Lib.hid fun x hx hn => by
                      by_cases hxv : x ∈ Sol.rowI v i
                      · exact hxv
                      · exact absurd ((HMEM.out x).2 (.step hkr ((hmk x).1 hx) hxv)) hn
                    obtain ⟨bz, offz, cz, AK, cK, e, hbz, pK0, hrK⟩ := HE.out.a4.row hrk
                    injection e with e1 e2 e3
                    injection e1 with e1
                    injection e1 with e1 e1'
                    subst e1 e1'
                    rw [Nat.zero_add] at pK0
                    have HRK := Lib.hid hrK
                    have pK := (hYb.cell (p := ⟨p1, kN, none⟩) hbz).trans pK0
                    have hkl := hrK.lenEq
                    clear hrk hmk hrK pK0 e2 e3 hkr hkR hym
                    go_wp2
                    go_loopw [116] (fun v wr => ∃ s : Nat, s ≤ rk.length ∧ v = .int .i64 s ∧ Below w5.heap.size w5 wr) (fun v _ => rk.length - (intOf v).toNat)
                    case atStart => exact ⟨0, by omega, rfl, hYb⟩
                    case round =>
                      clear pK p3 hYb
                      obtain ⟨s, hs, rfl, hYb⟩ := hrel
                      have pI := (hYb.cell (p := ⟨p1, i, none⟩) hbq).trans PI0.out
                      by_cases hsl : s < rk.length
                      · obtain ⟨x, hx⟩ : ∃ y, rk[s]? = some y := ⟨_, List.getElem?_eq_getElem hsl⟩
                        obtain ⟨b6, off6, e6, _, hb6, p60⟩ := HRK.out.intAt hx
                        have p6 := (hYb.cell (p := ⟨b6, off6 + s, none⟩) hb6).trans p60
                        have hxm := List.mem_of_getElem? hx
                        have HH := Lib.hid (HHI.out wr hYb x)
                        subst e6
                        clear hx p60
                        by_cases hxi : x ∈ ri
                        · have hq := memB_yes hxi
                          clear hxi hxm
                          go_wp2_with (go_at_call 22; (with_reducible refine HH.out.mono ?_); rintro e w9 ⟨rfl, rfl⟩)
                          go_roundw
                          case rel => exact ⟨s + 1, by omega, by go_num, hYb⟩
                          case measure => simp [intOf]; omega
                        · have hxv := HSTEP.out x hxm hxi
                          have hq := memB_no hxi
                          have hvi := rowI_mem_lt hxv
                          obtain ⟨lv, hlv⟩ : ∃ l, v[i]? = some l := ⟨_, List.getElem?_eq_getElem hvi⟩
                          rw [rowI_nat hlv] at hxv
                          have hq2 := memB_yes hxv
                          obtain ⟨bv, offv, cv, AV, cV, e, hbv, pV0, hrV⟩ := HE.out.a3.row hlv
                          injection e with e1 e2 e3
                          subst e1
                          have pV := (hYb.cell (p := ⟨bv, offv + i, none⟩) hbv).trans pV0
                          have HHV := Lib.hid (hasI_any AV lv.length cV lv x wr (hrV.next hYb))
                          have d3 : decide ((v.length : Int) ≤ (i : Int)) = false := by simp; omega
                          have d4 : decide (v.length ≤ i) = false := by simp; omega
                          clear hxi hxm hxv hlv hrV pV0 e2 e3
                          go_wp2_with (first
                            | (go_at_call 22; (with_reducible refine HH.out.mono ?_); rintro e w9 ⟨rfl, rfl⟩)
                            | (go_at_call 22; (with_reducible refine HHV.out.mono ?_); rintro e w9 ⟨rfl, rfl⟩))
                          go_roundw
                          case rel => exact ⟨s + 1, by omega, by go_num, hYb⟩
                          case measure => simp [intOf]; omega
                      · obtain rfl : s = rk.length := by omega
                        go_wp2
                        go_roundw
                        case rel => exact ⟨t + 1, by omega, by go_num, hYb⟩
                        case measure => simp [intOf]; omega
                  · have d3 : decide ((N : Int) ≤ (kN : Int)) = true := by simp; omega
                    have d4 : decide (N ≤ kN) = true := by simp; omega
                    go_wp2
                    go_roundw
                    case rel => exact ⟨t + 1, by omega, by go_num, hYb⟩
                    case measure => simp [intOf]; omega
              · obtain rfl : t = lr.length := by omega
                go_wp2
                go_roundw
                case rel => exact ⟨i + 1, by omega, by go_num, hYb⟩
                case measure => simp [intOf]; omega
    · obtain rfl : i = N := by omega
      go_wp2
      go_ret
      exact ⟨rfl, hB5.trans (hXb.mono (by have := hB5.size; omega))⟩
end Go.Proofs.Ytadcjmfednachaa
