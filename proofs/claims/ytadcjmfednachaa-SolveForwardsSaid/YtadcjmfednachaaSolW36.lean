/-
  SolveSets.
-/
import Derived.Test.YtadcjmfednachaaSolW35
namespace Go.Proofs.Ytadcjmfednachaa
open Go.RowKit Go.Maps Go.WideShapes Go.ChangeShapes Go.Deep
set_option linter.unusedVariables false
set_option linter.unusedSimpArgs false

theorem flat_len : ∀ (l : List (List Int)) (k : Nat), (∀ x ∈ l, x.length ≤ k) → l.flatten.length ≤ l.length * k
  | [], k, _ => by simp
  | x :: l, k, h => by
    rw [List.flatten_cons, List.length_append, List.length_cons, Nat.add_mul]
    have h1 := h x (by simp)
    have h2 := flat_len l k fun y hy => h y (by simp [hy])
    omega
theorem fewL_flat (m : List (List Int)) : (fewL m).flatten.length ≤ 800 := by
  have h1 := flat_len (fewL m) 20 (fewL_rows m)
  have h2 := fewL_le m
  have h3 : (fewL m).length * 20 ≤ 40 * 20 := Nat.mul_le_mul_right _ h2
  omega
theorem fewL_wf {m : List (List Int)} (h : ∀ l ∈ m, ∀ x ∈ l, I64w x) : ∀ l ∈ fewL m, ∀ x ∈ l, I64w x := by
  intro l hl x hx
  unfold fewL at hl
  obtain ⟨l0, h0, rfl⟩ := List.mem_map.1 hl
  exact h l0 (List.mem_of_mem_take h0) x (List.mem_of_mem_take hx)
structure Env8 (W : World) (g u v : List (List Int)) (st : List Int) (x1 x2 x3 x4 y1 y2 y3 y4 : Value) : Prop where
  a1 : RdM W x1 g
  a2 : RdM W x2 u
  a3 : RdM W x3 v
  a4 : RdL intC 1 W x4 st
  b1 : RdM W y1 g
  b2 : RdM W y2 u
  b3 : RdM W y3 v
  b4 : RdL intC 1 W y4 st
theorem Env8.next {W W' : World} {g u v : List (List Int)} {st : List Int} {x1 x2 x3 x4 y1 y2 y3 y4 : Value} (h : Env8 W g u v st x1 x2 x3 x4 y1 y2 y3 y4) (hb : Below W.heap.size W W') : Env8 W' g u v st x1 x2 x3 x4 y1 y2 y3 y4 :=
  ⟨h.a1.next hb, h.a2.next hb, h.a3.next hb, h.a4.next hb, h.b1.next hb, h.b2.next hb, h.b3.next hb, h.b4.next hb⟩
set_option maxRecDepth 100000 in
set_option maxHeartbeats 4000000 in
theorem setsL_any (A0 A2 A3 A4 : Option Addr) (n0 n2 n3 n4 c0 c2 c3 c4 : Nat) (m : List (List Int)) (en : Int) (start : List Int) (a b : List (List Int)) (w : World) (hs : RdM w (.slice A0 n0 c0) m) (hst : RdL intC 1 w (.slice A2 n2 c2) start) (hsa : RdM w (.slice A3 n3 c3) a) (hsb : RdM w (.slice A4 n4 c4) b)
    (hws : ∀ x ∈ start, I64w x) (hwa : ∀ l ∈ a, ∀ x ∈ l, I64w x) (hwb : ∀ l ∈ b, ∀ x ∈ l, I64w x) :
    Calls Try.prog 4 #[.slice A0 n0 c0, .int .i64 en, .slice A2 n2 c2, .slice A3 n3 c3, .slice A4 n4 c4] w fun e w' => e = .returned (.bool true) ∧ Below w.heap.size w w' := by
  obtain ⟨i0, hi0, iz0, iz1, iz2⟩ := info_parts int_info
  have HX := Lib.hid (fixed_any w)
  obtain ⟨rfl, hsc, hsm⟩ := hst.lenEq
  have hg0 := fewL_rows m
  have hg1 := fewL_le m
  have hg2 := fewL_few m
  have hu0 := fewL_rows a
  have hu1 := fewL_flat a
  have hu2 := fewL_few a
  have hu3 := fewL_wf hwa
  have hv0 := fewL_rows b
  have hv2 := fewL_few b
  have hv3 := fewL_wf hwb
  have HF0 := Lib.hid fun (W : World) (h : Below w.heap.size w W) => few_any A0 n0 c0 m W (hs.next h)
  have HF3 := Lib.hid fun (W : World) (h : Below w.heap.size w W) => few_any A3 n3 c3 a W (hsa.next h)
  have HF4 := Lib.hid fun (W : World) (h : Below w.heap.size w W) => few_any A4 n4 c4 b W (hsb.next h)
  have HWT : Hid (∀ x ∈ start.take 20, I64w x) := Lib.hid fun x hx => hws x (List.mem_of_mem_take hx)
  generalize fewL m = g at *
  generalize fewL a = u at *
  generalize fewL b = v at *
  have HST := Lib.hid hst
  have HG2 := Lib.hid hg2
  have HU2 := Lib.hid hu2
  have HV2 := Lib.hid hv2
  have HG0 := Lib.hid hg0
  have HU0 := Lib.hid hu0
  have HV0 := Lib.hid hv0
  have HU3 := Lib.hid hu3
  have HV3 := Lib.hid hv3
  have HU1 := Lib.hid hu1
  have q1 := eqM_self g
  have q2 := eqM_self u
  have q3 := eqM_self v
  have q4 := eqB_self (start.take 20)
  clear hs hst hsa hsb hws hwa hwb hg2 hu2 hv2 hg0 hu0 hv0 hu3 hv3 hu1
  have hA1 := cell_alloc_if
  have hA2 := frozen_alloc_if
  have hA3 := cell_set_if
  go_enter Try.func4, Try.ntmps4
  go_upto_if 25 with (first
    | (go_at_call 8; (with_reducible refine HX.out.mono ?_); rintro e w1 ⟨rfl, hB1⟩; have hz1 := hB1.size)
    | (go_at_call 9; (with_reducible refine (HF0.out w1 hB1).mono ?_); rintro e w2 ⟨A5, c5, rfl, hm2, hb2⟩; have HM2 := Lib.hid hm2; have hz2 := hb2.size; have hB2 := hB1.trans (hb2.mono (by omega)); clear hm2)
    | (go_at_call 9; (with_reducible refine (HF3.out w2 hB2).mono ?_); rintro e w3 ⟨A6, c6, rfl, hm3, hb3⟩; have HM3 := Lib.hid hm3; have hz3 := hb3.size; have hB3 := hB2.trans (hb3.mono (by omega)); clear hm3)
    | (go_at_call 9; (with_reducible refine (HF4.out w3 hB3).mono ?_); rintro e w4 ⟨A7, c7, rfl, hm4, hb4⟩; have HM4 := Lib.hid hm4; have hz4 := hb4.size; have hB4 := hB3.trans (hb4.mono (by omega)); clear hm4)
    | fail)
  go_cut [2] (fun s2 wx => ∃ n' : Nat, s2 = .slice A2 n' c2 ∧ n' ≤ 20 ∧ wx = w4 ∧ Hid (RdL intC 1 w4 (.slice A2 n' c2) (start.take 20)))
  case first =>
    by_cases h20 : start.length ≤ 20
    · have d : decide (20 < (start.length : Int)) = false := by simp; omega
      go_wp2
      go_meet
      exact ⟨start.length, rfl, h20, rfl, Lib.hid (by rw [List.take_of_length_le h20]; exact HST.out.next hB4)⟩
    · have d : decide (20 < (start.length : Int)) = true := by simp; omega
      have d2 : decide ((20 : Int) ≤ (c2 : Int)) = true := by simp; omega
      go_wp2
      go_meet
      exact ⟨20, rfl, by omega, rfl, Lib.hid ((HST.out.take 20 (by omega)).next hB4)⟩
  case rest =>
    obtain ⟨n', rfl, hn', rfl, HS4⟩ := hcut
    generalize start.take 20 = st at *
    obtain ⟨rfl, _, _⟩ := HS4.out.lenEq
    have HM34 := Lib.hid (HM3.out.next hb4)
    have HM24 := Lib.hid (HM2.out.next (hb3.trans (hb4.mono hz3)))
    have HG5 : Hid (Calls Try.prog 9 #[.slice A5 g.length c5] wc (FewP wc g)) := Lib.hid (by have h := few_any A5 g.length c5 g wc HM24.out; rw [HG2.out] at h; exact h)
    have HU5 : Hid (∀ W, Below wc.heap.size wc W → Calls Try.prog 9 #[.slice A6 u.length c6] W (FewP W u)) := Lib.hid fun W hW => by have h := few_any A6 u.length c6 u W (HM34.out.next hW); rw [HU2.out] at h; exact h
    have HV5 : Hid (∀ W, Below wc.heap.size wc W → Calls Try.prog 9 #[.slice A7 v.length c7] W (FewP W v)) := Lib.hid fun W hW => by have h := few_any A7 v.length c7 v W (HM4.out.next hW); rw [HV2.out] at h; exact h
    go_wp2_with (first
      | (go_at_call 9; (with_reducible refine HG5.out.mono ?_); rintro e w5 ⟨A8, c8, rfl, hm5, hB5⟩; have HM5 := Lib.hid hm5; have hz5 := hB5.size; clear hm5)
      | (go_at_call 9; (with_reducible refine (HU5.out w5 hB5).mono ?_); rintro e w6 ⟨A9, c9, rfl, hm6, hb6⟩; have HM6 := Lib.hid hm6; have hz6 := hb6.size; have hB6 := hB5.trans (hb6.mono (by omega)); clear hm6)
      | (go_at_call 9; (with_reducible refine (HV5.out w6 hB6).mono ?_); rintro e w7 ⟨A10, c10, rfl, hm7, hb7⟩; have HM7 := Lib.hid hm7; have hz7 := hb7.size; have hB7 := hB6.trans (hb7.mono (by omega)); clear hm7)
      | (at_builtin; refine wpList_app (e := 3) (f := intC) rfl (.tmp 34) (.tmp 35) 28 rfl w7.heap.size i0 _ 8 Try.underlying28 hi0 iz0 iz1 iz2 rfl (by decide) intC_len (.slice (some ⟨w7.heap.size, 0, none⟩) 0 0) [] rfl ?c0 A2 st.length c2 st rfl ?c1 (intC_one _) (by decide) ?c2 ?c3 ?_))
    case c0 => exact OwnL.lit _ _ [] _ rfl (Nat.le_refl _) (by decide) rfl rfl
    case c1 => exact HS4.out.next (by (repeat' (first | (with_reducible exact Below.refl _ _) | (with_reducible assumption) | (with_reducible refine Below.setCell ?_ ?_ _) | (with_reducible refine Below.alloc ?_ ?_ _) | (with_reducible refine Below.drew ?_) | (with_reducible refine below_drewN ?_ _) | (with_reducible refine below_next ?_ (by with_reducible assumption)) | omega | (dsimp only; omega) | (simp only [World.size_alloc, World.size_setCell, World.size_drew, World.heap_drewN]; omega))))
    case c2 => first | omega | (simp; omega)
    try (case c3 => simp)
    intro A11 c11 w8 hown1 hg1 hBx hor1
    have hB8 : Below w7.heap.size w7 w8 := Below.trans ((Below.refl _ _).alloc (Nat.le_refl _) _) hBx
    have hz8 := hB8.size
    have hB78 := hb7.trans (hB8.mono hz7)
    have hB68 := hb6.trans (hB78.mono hz6)
    have hB58 := hB5.trans (hB68.mono hz5)
    have HE8 : Hid (Env8 w8 g u v st (.slice A5 g.length c5) (.slice A6 u.length c6) (.slice A7 v.length c7) (.slice A2 st.length c2) (.slice A8 g.length c8) (.slice A9 u.length c9) (.slice A10 v.length c10) (.slice A11 st.length c11)) := Lib.hid
      ⟨HM24.out.next hB58, HM34.out.next hB58, HM4.out.next hB58, HS4.out.next hB58, HM5.out.next hB68, HM6.out.next hB78, HM7.out.next hB8, by simpa using hown1.rdl intC_len⟩
    have hBw8 : Below w.heap.size w w8 := hB4.trans (hB58.mono (by omega))
    clear hown1 hg1 hBx hor1 HM24 HM34 HM4 HS4 HM5 HM6 HM7 HM2 HM3 HG5 HU5 HV5 hB78 hB68 hB58 hB8 hB7 hB6 hB5 hb7 hb6 hb4 hb3 hb2 hB1 hB2 hB3 hB4 HF0 HF3 HF4 HX HST
    have hcl : (Sol.cleanG g).length = g.length := Sol.cleanG_length g
    have HUL : Hid ((st ++ u.flatten).length ≤ 820) := Lib.hid (by rw [List.length_append]; have := HU1.out; omega)
    have r20 : ∀ {m : List (List Int)}, (∀ l ∈ m, l.length ≤ 20) → ∀ l ∈ m, l.length ≤ 524288 := fun h l hl => by have := h l hl; omega
    have r21 : ∀ {m : List (List Int)}, (∀ l ∈ m, l.length ≤ 20) → ∀ l ∈ m, l.length ≤ 1048576 := fun h l hl => by have := h l hl; omega
    have HBW := Lib.hid (backward_any A8 A9 A10 g.length u.length v.length c8 c9 c10 g u v w8 HE8.out.b1 HE8.out.b2 HE8.out.b3 (by omega) (r21 HG0.out) (r21 HU0.out) (r21 HV0.out) (by have := HU1.out; omega) HU3.out HV3.out)
    have HRB := Lib.hid fun (W : World) (h : Env8 W g u v st (.slice A5 g.length c5) (.slice A6 u.length c6) (.slice A7 v.length c7) (.slice A2 st.length c2) (.slice A8 g.length c8) (.slice A9 u.length c9) (.slice A10 v.length c10) (.slice A11 st.length c11)) =>
      rbackward_any A5 A6 A7 g.length u.length v.length c5 c6 c7 g u v W h.a1 h.a2 h.a3 (by omega) (r21 HG0.out) (by have := HU1.out; omega)
    have HFW := Lib.hid fun (W : World) (h : Env8 W g u v st (.slice A5 g.length c5) (.slice A6 u.length c6) (.slice A7 v.length c7) (.slice A2 st.length c2) (.slice A8 g.length c8) (.slice A9 u.length c9) (.slice A10 v.length c10) (.slice A11 st.length c11)) =>
      forward_any A8 A11 A9 A10 g.length st.length u.length v.length c8 c11 c9 c10 g en st u v W h.b1 h.b4 h.b2 h.b3 (by omega) (r20 HG0.out) (r20 HU0.out) (r20 HV0.out) (by have := HUL.out; omega) HWT.out HU3.out HV3.out
    have HRF := Lib.hid fun (W : World) (h : Env8 W g u v st (.slice A5 g.length c5) (.slice A6 u.length c6) (.slice A7 v.length c7) (.slice A2 st.length c2) (.slice A8 g.length c8) (.slice A9 u.length c9) (.slice A10 v.length c10) (.slice A11 st.length c11)) =>
      rforward_any A5 A2 A6 A7 g.length st.length u.length v.length c5 c2 c6 c7 g en st u v W h.a1 h.a4 h.a2 h.a3 (by omega) (r21 HG0.out) (by have := HUL.out; omega)
    clear r20 r21
    go_wp2_with (first
      | (go_at_call 18; (with_reducible refine HBW.out.mono ?_); rintro e w9 ⟨r1, p1, hs1, rfl, hr1, hb9⟩; have HE9 := Lib.hid (HE8.out.next hb9); have HS1 := Lib.hid hs1; have HR1 := Lib.hid hr1; have q5 := eqM_self r1; have hz9 := hb9.size; clear hs1 hr1 HBW)
      | (go_at_call 19; (with_reducible refine (HRB.out w9 HE9.out).mono ?_); rintro e w10 ⟨r2, hs2, rfl, hm2, hb10⟩; have er := hs2.uniq HS1.out; rw [er] at hm2; rw [er]; have HR2 := Lib.hid (hm2.rdm (by rw [HS1.out.len, hcl]; unfold maxLen; omega)); have HR1' := Lib.hid (HR1.out.next hb10); have HE10 := Lib.hid (HE9.out.next hb10); have hz10 := hb10.size; clear hs2 er hm2 r2 HE9 HR1 HRB)
      | (go_at_call 15; (with_reducible refine (same_any _ _ _ _ _ _ r1 r1 w10 HR1'.out HR2.out).mono ?_); rintro e w11 ⟨rfl, hb11⟩; have HE11 := Lib.hid (HE10.out.next hb11); have hz11 := hb11.size; clear HE10 HR1' HR2)
      | (go_at_call 20; (with_reducible refine (HFW.out w11 HE11.out).mono ?_); rintro e w12 ⟨r3, p3, hs3, rfl, hr3, hb12⟩; have HE12 := Lib.hid (HE11.out.next hb12); have HS3 := Lib.hid hs3; have HR3 := Lib.hid hr3; have q6 := eqM_self r3; have hz12 := hb12.size; clear hs3 hr3 HFW HE11 q5)
      | (go_at_call 21; (with_reducible refine (HRF.out w12 HE12.out).mono ?_); rintro e w13 ⟨r4, hs4, rfl, hm4, hb13⟩; have er := hs4.uniq HS3.out; rw [er] at hm4; rw [er]; have HR4 := Lib.hid (hm4.rdm (by rw [HS3.out.len, hcl]; unfold maxLen; omega)); have HR3' := Lib.hid (HR3.out.next hb13); have HE13 := Lib.hid (HE12.out.next hb13); have hz13 := hb13.size; clear hs4 er hm4 r4 HE12 HR3 HRF)
      | (go_at_call 15; (with_reducible refine (same_any _ _ _ _ _ _ r3 r3 w13 HR3'.out HR4.out).mono ?_); rintro e w14 ⟨rfl, hb14⟩; have HE14 := Lib.hid (HE13.out.next hb14); have hz14 := hb14.size; clear HE13 HR3' HR4)
      | (go_at_call 15; (with_reducible refine (same_any _ _ _ _ _ _ g g w14 HE14.out.b1 HE14.out.a1).mono ?_); rintro e w15 ⟨rfl, hb15⟩; have HE15 := Lib.hid (HE14.out.next hb15); have hz15 := hb15.size; clear HE14)
      | (go_at_call 15; (with_reducible refine (same_any _ _ _ _ _ _ u u w15 HE15.out.b2 HE15.out.a2).mono ?_); rintro e w16 ⟨rfl, hb16⟩; have HE16 := Lib.hid (HE15.out.next hb16); have hz16 := hb16.size; clear HE15)
      | (go_at_call 15; (with_reducible refine (same_any _ _ _ _ _ _ v v w16 HE16.out.b3 HE16.out.a3).mono ?_); rintro e w17 ⟨rfl, hb17⟩; have HE17 := Lib.hid (HE16.out.next hb17); have hz17 := hb17.size; clear HE16)
      | (go_at_call 12; (with_reducible refine (sameInts_any _ _ _ _ _ _ st st w17 HE17.out.b4 HE17.out.a4).mono ?_); rintro e w18 ⟨rfl, hb18⟩)
      | fail)
    go_ret
    refine ⟨rfl, ?_⟩
    exact hBw8.trans ((hb9.mono (by omega)).trans ((hb10.mono (by omega)).trans ((hb11.mono (by omega)).trans ((hb12.mono (by omega)).trans ((hb13.mono (by omega)).trans ((hb14.mono (by omega)).trans ((hb15.mono (by omega)).trans ((hb16.mono (by omega)).trans ((hb17.mono (by omega)).trans (hb18.mono (by omega)))))))))))
end Go.Proofs.Ytadcjmfednachaa
