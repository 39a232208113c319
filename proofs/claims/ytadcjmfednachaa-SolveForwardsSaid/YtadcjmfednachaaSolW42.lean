/-
  SolveForwards.
-/
import Derived.Test.YtadcjmfednachaaSolW40
namespace Go.Proofs.Ytadcjmfednachaa
open Go.RowKit Go.Maps Go.WideShapes Go.ChangeShapes Go.Deep
set_option linter.unusedVariables false
set_option linter.unusedSimpArgs false

theorem inF_rch {G : List (List Int)} {e : Int} {start : List Int} {makes ends : List (List Int)} {i x : Int} (h : Sol.InF G e start makes ends i x) : Sol.Rch G e i := by
  cases h with
  | start _ _ => exact .refl
  | make _ hm hk _ => exact .step hm hk
  | pass _ hm hk _ _ => exact .step hm hk
structure EnvF (W : World) (g u v r : List (List Int)) (st : List Int) (rb : List Bool) (x1 x2 x3 x4 x5 : Value) (bt : Nat) : Prop where
  a1 : RdM W x1 g
  a2 : RdM W x2 u
  a3 : RdM W x3 v
  a4 : RdM W x4 r
  a5 : RdL intC 1 W x5 st
  t : BoolR 4 W bt rb
theorem EnvF.next {W W' : World} {g u v r : List (List Int)} {st : List Int} {rb : List Bool} {x1 x2 x3 x4 x5 : Value} {bt : Nat} (h : EnvF W g u v r st rb x1 x2 x3 x4 x5 bt) (hb : Below W.heap.size W W') : EnvF W' g u v r st rb x1 x2 x3 x4 x5 bt :=
  ⟨h.a1.next hb, h.a2.next hb, h.a3.next hb, h.a4.next hb, h.a5.next hb, h.t.next hb⟩
set_option maxRecDepth 100000 in
set_option maxHeartbeats 4000000 in
theorem forwards_any (A0 A2 A3 A4 : Option Addr) (n0 n2 n3 n4 c0 c2 c3 c4 : Nat) (m : List (List Int)) (en : Int) (start : List Int) (a b : List (List Int)) (w : World) (hs : RdM w (.slice A0 n0 c0) m) (hst : RdL intC 1 w (.slice A2 n2 c2) start) (hsa : RdM w (.slice A3 n3 c3) a) (hsb : RdM w (.slice A4 n4 c4) b)
    (hws : ∀ x ∈ start, I64w x) (hwa : ∀ l ∈ a, ∀ x ∈ l, I64w x) (hwb : ∀ l ∈ b, ∀ x ∈ l, I64w x) :
    Calls Try.prog 7 #[.slice A0 n0 c0, .int .i64 en, .slice A2 n2 c2, .slice A3 n3 c3, .slice A4 n4 c4] w fun e w' => e = .returned (.bool true) ∧ Below w.heap.size w w' := by
  have HX := Lib.hid (fixed_any w)
  obtain ⟨rfl, hsc, hsm⟩ := hst.lenEq
  have hg0 := fewL_rows m
  have hg1 := fewL_le m
  have hu0 := fewL_rows a
  have hu1 := fewL_flat a
  have hul := fewL_le a
  have hu3 := fewL_wf hwa
  have hv0 := fewL_rows b
  have hvl := fewL_le b
  have hv3 := fewL_wf hwb
  have HF0 := Lib.hid fun (W : World) (h : Below w.heap.size w W) => few_any A0 n0 c0 m W (hs.next h)
  have HF3 := Lib.hid fun (W : World) (h : Below w.heap.size w W) => few_any A3 n3 c3 a W (hsa.next h)
  have HF4 := Lib.hid fun (W : World) (h : Below w.heap.size w W) => few_any A4 n4 c4 b W (hsb.next h)
  have HWT : Hid (∀ x ∈ start.take 20, I64w x) := Lib.hid fun x hx => hws x (List.mem_of_mem_take hx)
  generalize fewL m = g at *
  generalize fewL a = u at *
  generalize fewL b = v at *
  have HST := Lib.hid hst
  have HG0 := Lib.hid hg0
  have HU0 := Lib.hid hu0
  have HV0 := Lib.hid hv0
  have HU3 := Lib.hid hu3
  have HV3 := Lib.hid hv3
  have HU1 := Lib.hid hu1
  obtain ⟨N, hN⟩ : ∃ N, N = g.length := ⟨_, rfl⟩
  have HN := Lib.hid hN
  have hgl : N ≤ 40 := by omega
  have HCL : Hid ((Sol.cleanG g).length = N) := Lib.hid (by rw [Sol.cleanG_length, hN])
  clear hs hst hsa hsb hws hwa hwb hg0 hu0 hv0 hu3 hv3 hu1 hN hg1
  have hA1 := cell_alloc_if
  have hA2 := frozen_alloc_if
  have hA3 := cell_set_if
  go_enter Try.func7, Try.ntmps7
  go_upto_if 34 with (first
    | (go_at_call 8; (with_reducible refine HX.out.mono ?_); rintro e w1 ⟨rfl, hB1⟩; have hz1 := hB1.size)
    | (go_at_call 9; (with_reducible refine (HF0.out w1 hB1).mono ?_); rintro e w2 ⟨A5, c5, rfl, hm2, hb2⟩; rw [← HN.out] at hm2 ⊢; have HM2 := Lib.hid hm2; have hz2 := hb2.size; have hB2 := hB1.trans (hb2.mono (by omega)); clear hm2)
    | (go_at_call 9; (with_reducible refine (HF3.out w2 hB2).mono ?_); rintro e w3 ⟨A6, c6, rfl, hm3, hb3⟩; have HM3 := Lib.hid hm3; have hz3 := hb3.size; have hB3 := hB2.trans (hb3.mono (by omega)); clear hm3)
    | (go_at_call 9; (with_reducible refine (HF4.out w3 hB3).mono ?_); rintro e w4 ⟨A7, c7, rfl, hm4, hb4⟩; have HM4 := Lib.hid hm4; have hz4 := hb4.size; have hB4 := hB3.trans (hb4.mono (by omega)); have HM24 := Lib.hid (HM2.out.next (hb3.trans (hb4.mono hz3))); have HM34 := Lib.hid (HM3.out.next hb4); clear hm4)
    | fail)
  go_cut [2] (fun s2 wx => ∃ n' : Nat, s2 = .slice A2 n' c2 ∧ n' ≤ 20 ∧ wx = w4 ∧ Hid (RdL intC 1 w4 (.slice A2 n' c2) (start.take 20)))
  case first =>
    by_cases h20 : start.length ≤ 20
    · have d : decide (20 < (start.length : Int)) = false := by simp; omega
      go_wp2
      go_meet
      exact ⟨start.length, rfl, h20, rfl, Lib.hid (by rw [List.take_of_length_le h20]; exact HST.out.next hB4)⟩
    · have d : decide (20 < (start.length : Int)) = true := by simp; omega
      have d2 : decide ((20 : Int) ≤ (c2 : Int)) = true := by simp; omega
      go_wp2
      go_meet
      exact ⟨20, rfl, by omega, rfl, Lib.hid ((HST.out.take 20 (by omega)).next hB4)⟩
  case rest =>
    obtain ⟨n', rfl, hn', hwc, HS4⟩ := hcut
    rw [hwc]
    clear hwc
    generalize start.take 20 = st at *
    obtain ⟨rfl, _, _⟩ := HS4.out.lenEq
    have HUL : Hid ((st ++ u.flatten).length ≤ 820) := Lib.hid (by rw [List.length_append]; have := HU1.out; omega)
    have r20 : ∀ {m : List (List Int)}, (∀ l ∈ m, l.length ≤ 20) → ∀ l ∈ m, l.length ≤ 524288 := fun h l hl => by have := h l hl; omega
    have r21 : ∀ {m : List (List Int)}, (∀ l ∈ m, l.length ≤ 20) → ∀ l ∈ m, l.length ≤ 1048576 := fun h l hl => by have := h l hl; omega
    have HFW := Lib.hid (forward_any A5 A2 A6 A7 N st.length u.length v.length c5 c2 c6 c7 g en st u v w4 HM24.out HS4.out HM34.out HM4.out (by have := HN.out; omega) (r20 HG0.out) (r20 HU0.out) (r20 HV0.out) (by have := HUL.out; omega) HWT.out HU3.out HV3.out)
    have HREA := Lib.hid fun (W : World) (h : Below w4.heap.size w4 W) => reach_any A5 N c5 g en W (HM24.out.next h) (by have := HN.out; omega) (r21 HG0.out)
    rw [HCL.out] at HFW
    have hrl0 : (Sol.reachB (Sol.cleanG g) en).length = N := by rw [Sol.reachB_length, HCL.out]
    obtain ⟨rb, hrb⟩ : ∃ rb, rb = Sol.reachB (Sol.cleanG g) en := ⟨_, rfl⟩
    have HRBE := Lib.hid hrb
    have HRC : Hid (∀ k : Nat, k < N → (rb.getD k false = true ↔ Sol.InR N en ∧ Sol.Rch (Sol.cleanG g) en k)) := Lib.hid fun k hk => by
      rw [hrb, Sol.reachB_at (by rw [HCL.out]; exact hk), HCL.out]
    rw [← hrb] at HREA hrl0
    clear r20 r21 hrb
    go_upto_region 11 with (first
      | (go_at_call 20; (with_reducible refine HFW.out.mono ?_); rintro e w5 ⟨r, p1, hs5, rfl, hr5, hb5⟩; have hrl := hs5.len; rw [hrl] at hr5 ⊢; have HS5 := Lib.hid hs5; have HR5 := Lib.hid hr5; have hz5 := hb5.size; clear hs5 hr5)
      | (go_at_call 10; (with_reducible refine (HREA.out w5 hb5).mono ?_); rintro e w6 ⟨bt, rfl, ht6, hb6⟩; rw [hrl0]; have HT6 := Lib.hid ht6; have hz6 := hb6.size; have hb46 := hb5.trans (hb6.mono hz5); have HR6 := Lib.hid (HR5.out.next hb6); clear ht6 HR5)
      | fail)
    have HE : Hid (EnvF w6 g u v r st rb (.slice A5 N c5) (.slice A6 u.length c6) (.slice A7 v.length c7) (.slice (some ⟨p1, 0, none⟩) N N) (.slice A2 st.length c2) bt) := Lib.hid ⟨HM24.out.next hb46, HM34.out.next hb46, HM4.out.next hb46, HR6.out, HS4.out.next hb46, HT6.out⟩
    have hB6 : Below w.heap.size w w6 := hB4.trans (hb46.mono (by omega))
    clear HM2 HM3 HM4 HM24 HM34 HR6 HS4 HT6 hb6 hb5 hb46 hb4 hb3 hb2 hB4 hB3 hB2 hB1 HF0 HF3 HF4 HX HFW HREA HST
    go_loopw [60] (fun v wr => ∃ i : Nat, i ≤ N ∧ v = .int .i64 i ∧ Below w6.heap.size w6 wr) (fun v _ => N - (intOf v).toNat)
    case atStart => exact ⟨0, by omega, rfl, Below.refl _ _⟩
    case round =>
      obtain ⟨i, hi, rfl, hXb⟩ := hrel
      have hXz := hXb.size
      by_cases hlt : i < N
      · have hiR : Sol.InR N (i : Int) := by unfold Sol.InR; omega
        obtain ⟨ri, hri⟩ : ∃ l, r[i]? = some l := ⟨_, List.getElem?_eq_getElem (by omega)⟩
        have hmem := HS5.out.mem (i : Int) hiR
        have hrise := HS5.out.rise i hlt
        have hgd : r.getD i [] = ri := by rw [List.getD_eq_getElem?_getD, hri]; rfl
        rw [Int.toNat_natCast, hgd] at hmem
        rw [hgd] at hrise
        have HMEM := Lib.hid hmem
        have HRISE := Lib.hid hrise
        obtain ⟨bq, offq, cq, AI, cI, e, hbq, pI0, hrI⟩ := HE.out.a4.row hri
        injection e with e1 e2 e3
        injection e1 with e1
        injection e1 with e1 e1'
        subst e1 e1'
        rw [Nat.zero_add] at pI0
        have HRI := Lib.hid hrI
        have PI0 := Lib.hid pI0
        have hil := hrI.lenEq
        have pI := (hXb.cell (p := ⟨p1, i, none⟩) hbq).trans pI0
        obtain ⟨bi, hbi⟩ : ∃ b, b = rb.getD i false := ⟨_, rfl⟩
        have HBI := Lib.hid hbi
        have PT : Hid (∀ W, Below w6.heap.size w6 W → W.cell? ⟨bt, i, none⟩ = some (.bool bi)) := Lib.hid fun W hW => by
          have h := ((HE.out.t.next hW).at_ (i := i) (by omega)).1
          rwa [← hbi] at h
        have HIR := Lib.hid hiR
        clear hri hmem hrise hgd hrI pI0 e2 e3 hiR hbi
        go_wp2
        go_loopw [68] (fun v wr => ∃ t : Nat, t ≤ ri.length ∧ v = .int .i64 t ∧ Below w6.heap.size w6 wr) (fun v _ => ri.length - (intOf v).toNat)
        case atStart => exact ⟨0, by omega, rfl, hXb⟩
        case round =>
          clear pI hXb hXz
          obtain ⟨t, ht, rfl, hYb⟩ := hrel
          have hYz := hYb.size
          have pI := (hYb.cell (p := ⟨p1, i, none⟩) hbq).trans PI0.out
          by_cases htl : t < ri.length
          · obtain ⟨y, hy⟩ : ∃ y, ri[t]? = some y := ⟨_, List.getElem?_eq_getElem htl⟩
            have hin := (HMEM.out y).1 (List.mem_of_getElem? hy)
            have hbt : bi = true := by
              rw [HBI.out, HRC.out i hlt]
              have h := inF_e hin
              rw [HCL.out] at h
              exact ⟨h, inF_rch hin⟩
            have pt := PT.out wr hYb
            rw [hbt] at pt
            have HEW := HE.out.next hYb
            have HWY := Lib.hid (comes_any A5 A2 A6 A7 c5 st.length c2 c6 c7 N bt i g u v en st y wr HEW.a1 HEW.a5 HEW.a2 HEW.a3 (by rw [← HRBE.out]; exact HEW.t) HN.out hgl HG0.out hul hvl hlt hin)
            obtain ⟨b3, off3, e3, _, hb3, p30⟩ := HRI.out.intAt hy
            have p3 := (hYb.cell (p := ⟨b3, off3 + t, none⟩) hb3).trans p30
            cases t with
            | zero =>
              rw [Nat.add_zero] at p3
              subst e3
              clear hy p30 hin HEW hbt
              go_wp2_with (go_at_call 24; (with_reducible refine HWY.out.mono ?_); rintro e w9 ⟨rfl, hb9⟩)
              have hY9 := hYb.trans (hb9.mono hYz)
              go_roundw
              case rel => exact ⟨0 + 1, by omega, by go_num, hY9⟩
              case measure => simp [intOf]; omega
            | succ t' =>
              obtain ⟨yp, hyp⟩ : ∃ y, ri[t']? = some y := ⟨_, List.getElem?_eq_getElem (by omega)⟩
              have hlt2 : yp < y := by
                have h1 := List.pairwise_iff_getElem.1 HRISE.out t' (t' + 1) (by omega) htl (by omega)
                rw [List.getElem?_eq_getElem (by omega)] at hyp hy
                rw [Option.some.inj hyp, Option.some.inj hy] at h1
                exact h1
              obtain ⟨b4, off4, e4, _, hb4, p40⟩ := HRI.out.intAt hyp
              rw [e3] at e4
              injection e4 with e4
              injection e4 with e4 e4'
              subst e4 e4'
              have p4 := (hYb.cell (p := ⟨b3, off3 + t', none⟩) hb4).trans p40
              have d1 : decide (y ≤ yp) = false := by simp; omega
              subst e3
              clear hy hyp p30 p40 hin HEW hbt
              go_wp2_with (go_at_call 24; (with_reducible refine HWY.out.mono ?_); rintro e w9 ⟨rfl, hb9⟩)
              have hY9 := hYb.trans (hb9.mono hYz)
              go_roundw
              case rel => exact ⟨t' + 1 + 1, by omega, by go_num, hY9⟩
              case measure => simp [intOf]; omega
          · obtain rfl : t = ri.length := by omega
            obtain ⟨lr, hlr⟩ : ∃ l, g[i]? = some l := ⟨_, List.getElem?_eq_getElem (by have := HN.out; omega)⟩
            have hlr20 := HG0.out lr (List.mem_of_getElem? hlr)
            have HLR := Lib.hid (rowI_nat hlr)
            obtain ⟨bm, offm, c8, A8, c9, e, hbm, p20, hr⟩ := HE.out.a1.row hlr
            injection e with e1 e2 e3
            subst e1
            have HRU := Lib.hid hr
            have p2 := (hYb.cell (p := ⟨bm, offm + i, none⟩) hbm).trans p20
            have hlul := hr.lenEq
            clear hr p20 hlr e2 e3
            go_wp2
            go_loopw [112] (fun v wr => ∃ t : Nat, t ≤ lr.length ∧ v = .int .i64 t ∧ Below w6.heap.size w6 wr) (fun v _ => lr.length - (intOf v).toNat)
            case atStart => exact ⟨0, by omega, rfl, hYb⟩
            case round =>
              clear p2 pI hYb hYz
              obtain ⟨t, ht, rfl, hYb⟩ := hrel
              have pt := PT.out wr hYb
              by_cases htl : t < lr.length
              · obtain ⟨y, hy⟩ : ∃ y, lr[t]? = some y := ⟨_, List.getElem?_eq_getElem htl⟩
                obtain ⟨b3, off3, e3, _, hb3, p30⟩ := HRU.out.intAt hy
                have p3 := (hYb.cell (p := ⟨b3, off3 + t, none⟩) hb3).trans p30
                have hym := List.mem_of_getElem? hy
                subst e3
                clear hy p30
                by_cases h0 : y < 0
                · have d2 : decide (y < (0 : Int)) = true := decide_eq_true h0
                  go_wp2
                  go_roundw
                  case rel => exact ⟨t + 1, by omega, by go_num, hYb⟩
                  case measure => simp [intOf]; omega
                · obtain ⟨kN, rfl⟩ : ∃ k : Nat, y = (k : Int) := ⟨y.toNat, by omega⟩
                  by_cases h1 : kN < N
                  · cases bi with
                    | false =>
                      go_wp2
                      go_roundw
                      case rel => exact ⟨t + 1, by omega, by go_num, hYb⟩
                      case measure => simp [intOf]; omega
                    | true =>
                      obtain ⟨henR, hrch⟩ := (HRC.out i hlt).1 HBI.out.symm
                      rw [← HCL.out] at henR
                      have hkR : Sol.InR N (kN : Int) := by unfold Sol.InR; omega
                      have hkr : (kN : Int) ∈ Sol.rowI (Sol.cleanG g) i := by
                        rw [Sol.rowI_clean, HLR.out, List.mem_filter]
                        exact ⟨hym, by simp; rw [← HN.out]; exact hkR⟩
                      obtain ⟨rk, hrk⟩ : ∃ l, r[kN]? = some l := ⟨_, List.getElem?_eq_getElem (by omega)⟩
                      have hmk := HS5.out.mem (kN : Int) hkR
                      rw [Int.toNat_natCast, show r.getD kN [] = rk by rw [List.getD_eq_getElem?_getD, hrk]; rfl] at hmk
                      have HSTEP : Hid (∀ x ∈ ri, x ∉ Sol.rowI v i → x ∈ rk) := Lib.hid fun x hx hn => (hmk x).2 (.pass henR hrch hkr ((HMEM.out x).1 hx) hn)
                      have HMAKE : Hid (∀ x ∈ Sol.rowI u i, x ∈ rk) := Lib.hid fun x hx => (hmk x).2 (.make henR hrch hkr hx)
                      obtain ⟨bz, offz, cz, AK, cK, e, hbz, pK0, hrK⟩ := HE.out.a4.row hrk
                      injection e with e1 e2 e3
                      injection e1 with e1
                      injection e1 with e1 e1'
                      subst e1 e1'
                      rw [Nat.zero_add] at pK0
                      have HRK := Lib.hid hrK
                      have PK0 := Lib.hid pK0
                      have pI := (hYb.cell (p := ⟨p1, i, none⟩) hbq).trans PI0.out
                      have hkl := hrK.lenEq
                      clear hrk hmk hrK pK0 e2 e3 hkr hkR hym henR hrch
                      go_wp2
                      go_loopw [136] (fun v wr => ∃ s : Nat, s ≤ ri.length ∧ v = .int .i64 s ∧ Below w6.heap.size w6 wr) (fun v _ => ri.length - (intOf v).toNat)
                      case atStart => exact ⟨0, by omega, rfl, hYb⟩
                      case round =>
                        clear pI p3 pt hYb
                        obtain ⟨s, hs, rfl, hYb⟩ := hrel
                        have pK := (hYb.cell (p := ⟨p1, kN, none⟩) hbz).trans PK0.out
                        by_cases hsl : s < ri.length
                        · obtain ⟨x, hx⟩ : ∃ y, ri[s]? = some y := ⟨_, List.getElem?_eq_getElem hsl⟩
                          obtain ⟨b6, off6, e6, _, hb6, p60⟩ := HRI.out.intAt hx
                          have p6 := (hYb.cell (p := ⟨b6, off6 + s, none⟩) hb6).trans p60
                          have hxm := List.mem_of_getElem? hx
                          have HHK := Lib.hid (hasI_any AK rk.length cK rk x wr (HRK.out.next hYb))
                          subst e6
                          clear hx p60
                          by_cases hvi : i < v.length
                          · obtain ⟨lv, hlv⟩ : ∃ l, v[i]? = some l := ⟨_, List.getElem?_eq_getElem hvi⟩
                            have hrwv := rowI_nat hlv
                            obtain ⟨bv, offv, cv, AV, cV, e, hbv, pV0, hrV⟩ := HE.out.a3.row hlv
                            injection e with e1 e2 e3
                            subst e1
                            have pV := (hYb.cell (p := ⟨bv, offv + i, none⟩) hbv).trans pV0
                            have HHV := Lib.hid (hasI_any AV lv.length cV lv x wr (hrV.next hYb))
                            have d3 : decide ((v.length : Int) ≤ (i : Int)) = false := by simp; omega
                            have d4 : decide (v.length ≤ i) = false := by simp; omega
                            clear hlv hrV pV0 e2 e3
                            by_cases hxv : x ∈ lv
                            · have q1 := memB_yes hxv
                              clear hxv hxm hrwv
                              go_wp2_with (go_at_call 22; (with_reducible refine HHV.out.mono ?_); rintro e w9 ⟨rfl, rfl⟩)
                              go_roundw
                              case rel => exact ⟨s + 1, by omega, by go_num, hYb⟩
                              case measure => simp [intOf]; omega
                            · have q1 := memB_no hxv
                              have q2 := memB_yes (HSTEP.out x hxm (by rw [hrwv]; exact hxv))
                              clear hxv hxm hrwv
                              go_wp2_with (first
                                | (go_at_call 22; (with_reducible refine HHV.out.mono ?_); rintro e w9 ⟨rfl, rfl⟩)
                                | (go_at_call 22; (with_reducible refine HHK.out.mono ?_); rintro e w9 ⟨rfl, rfl⟩))
                              go_roundw
                              case rel => exact ⟨s + 1, by omega, by go_num, hYb⟩
                              case measure => simp [intOf]; omega
                          · have q2 := memB_yes (HSTEP.out x hxm (by rw [rowI_out (by omega)]; simp))
                            have d3 : decide ((v.length : Int) ≤ (i : Int)) = true := by simp; omega
                            have d4 : decide (v.length ≤ i) = true := by simp; omega
                            clear hxm
                            go_wp2_with (go_at_call 22; (with_reducible refine HHK.out.mono ?_); rintro e w9 ⟨rfl, rfl⟩)
                            go_roundw
                            case rel => exact ⟨s + 1, by omega, by go_num, hYb⟩
                            case measure => simp [intOf]; omega
                        · obtain rfl : s = ri.length := by omega
                          have HSE := Lib.hid (setL_any _ _ _ u i wr (HE.out.next hYb).a2 (by omega))
                          go_wp2_with (go_at_call 25; (with_reducible refine HSE.out.mono ?_); rintro e w9 ⟨AM, cM, rfl, hm, hw9⟩; have HM9 := Lib.hid hm; clear hm; subst hw9)
                          obtain ⟨lm, hlm⟩ : ∃ l, l = Sol.rowI u i := ⟨_, rfl⟩
                          rw [← hlm] at HM9 HMAKE ⊢
                          obtain ⟨w10, hw10⟩ : ∃ w10, w10 = wr := ⟨_, rfl⟩
                          rw [← hw10] at HM9 hYb ⊢
                          have hml := HM9.out.lenEq
                          clear hlm pK hw10
                          go_loopw [167] (fun v wr => ∃ s : Nat, s ≤ lm.length ∧ v = .int .i64 s ∧ Below w10.heap.size w10 wr) (fun v _ => lm.length - (intOf v).toNat)
                          case atStart => exact ⟨0, by omega, rfl, Below.refl _ _⟩
                          case round =>
                            obtain ⟨s, hs, rfl, hZb⟩ := hrel
                            have hZ6 : Below w6.heap.size w6 wr := hYb.trans (hZb.mono hYb.size)
                            have pK := (hZ6.cell (p := ⟨p1, kN, none⟩) hbz).trans PK0.out
                            by_cases hsl : s < lm.length
                            · obtain ⟨x, hx⟩ : ∃ y, lm[s]? = some y := ⟨_, List.getElem?_eq_getElem hsl⟩
                              obtain ⟨b6, off6, e6, _, hb6, p60⟩ := HM9.out.intAt hx
                              have p6 := (hZb.cell (p := ⟨b6, off6 + s, none⟩) hb6).trans p60
                              have q2 := memB_yes (HMAKE.out x (List.mem_of_getElem? hx))
                              have HHK := Lib.hid (hasI_any AK rk.length cK rk x wr (HRK.out.next hZ6))
                              subst e6
                              clear hx p60
                              go_wp2_with (go_at_call 22; (with_reducible refine HHK.out.mono ?_); rintro e w9 ⟨rfl, rfl⟩)
                              go_roundw
                              case rel => exact ⟨s + 1, by omega, by go_num, hZb⟩
                              case measure => simp [intOf]; omega
                            · obtain rfl : s = lm.length := by omega
                              go_wp2
                              go_roundw
                              case rel => exact ⟨t + 1, by omega, by go_num, hZ6⟩
                              case measure => simp [intOf]; omega
                  · have d3 : decide ((N : Int) ≤ (kN : Int)) = true := by simp; omega
                    have d4 : decide (N ≤ kN) = true := by simp; omega
                    go_wp2
                    go_roundw
                    case rel => exact ⟨t + 1, by omega, by go_num, hYb⟩
                    case measure => simp [intOf]; omega
              · obtain rfl : t = lr.length := by omega
                go_wp2
                go_roundw
                case rel => exact ⟨i + 1, by omega, by go_num, hYb⟩
                case measure => simp [intOf]; omega
      · obtain rfl : i = N := by omega
        go_wp2
        go_loopw [183] (fun v wr => ∃ s : Nat, s ≤ st.length ∧ v = .int .i64 s ∧ Below w6.heap.size w6 wr) (fun v _ => st.length - (intOf v).toNat)
        case atStart => exact ⟨0, by omega, rfl, hXb⟩
        case round =>
          clear hXb hXz
          obtain ⟨s, hs, rfl, hYb⟩ := hrel
          by_cases hsl : s < st.length
          · obtain ⟨x, hx⟩ : ∃ y, st[s]? = some y := ⟨_, List.getElem?_eq_getElem hsl⟩
            obtain ⟨b6, off6, e6, _, hb6, p60⟩ := HE.out.a5.intAt hx
            have p6 := (hYb.cell (p := ⟨b6, off6 + s, none⟩) hb6).trans p60
            have hxm := List.mem_of_getElem? hx
            subst e6
            clear hx p60
            by_cases h0 : 0 ≤ en
            · obtain ⟨eN, rfl⟩ : ∃ k : Nat, en = (k : Int) := ⟨en.toNat, by omega⟩
              by_cases h1 : eN < i
              · have heR : Sol.InR i (eN : Int) := by unfold Sol.InR; omega
                obtain ⟨re, hre⟩ : ∃ l, r[eN]? = some l := ⟨_, List.getElem?_eq_getElem (by omega)⟩
                have hmk := HS5.out.mem (eN : Int) heR
                rw [Int.toNat_natCast, show r.getD eN [] = re by rw [List.getD_eq_getElem?_getD, hre]; rfl] at hmk
                have q2 := memB_yes ((hmk x).2 (.start (by rw [HCL.out]; exact heR) hxm))
                obtain ⟨bz, offz, cz, AK, cK, e, hbz, pK0, hrK⟩ := HE.out.a4.row hre
                injection e with e1 e2 e3
                injection e1 with e1
                injection e1 with e1 e1'
                subst e1 e1'
                rw [Nat.zero_add] at pK0
                have pK := (hYb.cell (p := ⟨p1, eN, none⟩) hbz).trans pK0
                have HHK := Lib.hid (hasI_any AK re.length cK re x wr (hrK.next hYb))
                clear hre hmk hrK pK0 e2 e3 hxm heR
                go_wp2_with (go_at_call 22; (with_reducible refine HHK.out.mono ?_); rintro e w9 ⟨rfl, rfl⟩)
                go_roundw
                case rel => exact ⟨s + 1, by omega, by go_num, hYb⟩
                case measure => simp [intOf]; omega
              · have d3 : decide ((eN : Int) < (i : Int)) = false := by simp; omega
                have d4 : decide (eN < i) = false := by simp; omega
                go_wp2
                go_roundw
                case rel => exact ⟨s + 1, by omega, by go_num, hYb⟩
                case measure => simp [intOf]; omega
            · have d2 : decide ((0 : Int) ≤ en) = false := by simp; omega
              go_wp2
              go_roundw
              case rel => exact ⟨s + 1, by omega, by go_num, hYb⟩
              case measure => simp [intOf]; omega
          · obtain rfl : s = st.length := by omega
            go_wp2
            go_ret
            exact ⟨rfl, hB6.trans (hYb.mono (by have := hB6.size; omega))⟩
end Go.Proofs.Ytadcjmfednachaa
