/-
  LexNumbers, walked.
-/
import Derived.Test.YteplbbjmbhgllaaGreatDoorLexM33
import Derived.BigQuiet
namespace Go.Proofs.YteplbbjmbhgllaaGreatDoor
open Go.RowKit
set_option linter.unusedVariables false
set_option linter.unusedSimpArgs false

theorem tokensL_of {fl : Lx.Bs → Nat → Option Nat} {l : List UInt8} {ts : List Lx.Tok} (h : Lx.Toks fl l (1, 1) ts) (hl : l.length ≤ 1048576) (hv : Lx.Val l) : Lx.tokensL fl l = .ok ts := by
  rw [Lx.tokensL_A hl (Lx.spoilt_none.2 hv)]
  have := Lx.toks_tokensF h l.length [] (Nat.le_refl _)
  simpa [Lx.tokA] using this
theorem val_all : ∀ {l : List UInt8}, (∀ b ∈ l, b.toNat < 128) → Lx.Val l
  | [], _ => .nil
  | b :: l, h => .ascii (h b (by simp)) (val_all fun c hc => h c (by simp [hc]))
theorem num_tokens {base n : Nat} (hb : base = 8 ∨ base = 10 ∨ base = 16) (hn : n < 18446744073709551616) {t : List UInt8} (ht : t ∈ Lx.tails) (hl : (Lx.numText base n ++ t).length ≤ 1048576) :
    ∃ p, Lx.tokensL Lx.flF (Lx.numText base n ++ t) = .ok [⟨3, (1, 1), Lx.numText base n ++ t, n, []⟩, ⟨8, p, [], 0, []⟩] := by
  have hall := (Lx.numText_bytes hb hn ht).1
  exact ⟨_, tokensL_of (Lx.toks_num hb hn ht (1, 1)) hl (val_all fun b hb => Lx.let_ascii (hall b hb))⟩
def c16 : ByteArray := ⟨#[48, 49, 50, 51, 52, 53, 54, 55, 56, 57, 97, 98, 99, 100, 101, 102]⟩
theorem c16_at : ∀ d, d < 16 → ((⟨#[48, 49, 50, 51, 52, 53, 54, 55, 56, 57, 97, 98, 99, 100, 101, 102]⟩ : ByteArray).extract d (d + 1)).data.toList = [Lx.hexC d] := by decide +kernel
theorem digs_step {base f v : Nat} {acc : List UInt8} (h : 0 < v) (hf : v < base ^ f) : ∃ f', f = f' + 1 ∧ (2 ≤ base → v / base < base ^ f') ∧ Lx.digs base f v acc = Lx.digs base f' (v / base) (Lx.hexC (v % base) :: acc) := by
  match f, hf with
  | 0, hf => simp at hf; omega
  | f' + 1, hf =>
    refine ⟨f', rfl, fun hb => ?_, by rw [Lx.digs, if_neg (by omega)]⟩
    rw [Nat.div_lt_iff_lt_mul (by omega)]
    rw [Nat.pow_succ] at hf
    exact hf
theorem digs_end {base f : Nat} {acc : List UInt8} : Lx.digs base f 0 acc = acc := by
  cases f with
  | zero => rfl
  | succ f => rw [Lx.digs, if_pos rfl]
/-- What the tokens of a written number are asked for. -/
theorem num_ask {base n : Nat} (hb : base = 8 ∨ base = 10 ∨ base = 16) (hn : n < 18446744073709551616) {t T : ByteArray} (ht : t.data.toList ∈ Lx.tails) (hz : t.size ≤ 2) (hTz : T.size ≤ 70) (hT : T.data.toList = Lx.numText base n) (W : World) (h1 : Tabs W) (h2 : 13 ≤ W.heap.size) :
    Calls Tryz.prog 8 #[.string (T ++ t)] W fun e w' => (∃ g c, w'.cell? ⟨g, 0, none⟩ = some (.int .i64 3) ∧ w'.cell? ⟨g, 3, none⟩ = some (.string (T ++ t)) ∧ w'.cell? ⟨g, 4, none⟩ = some (.int .u64 (n : Int)) ∧ g < w'.heap.size ∧ e = .returned (.tuple #[.slice (some ⟨g, 0, none⟩) 2 c, .agg #[.int .i64 0, .int .i64 0], .int .i64 0])) ∧ Below W.heap.size W w' := by
  have hl : (Lx.numText base n ++ t.data.toList).length ≤ 1048576 := by rw [← hT, List.length_append, szl, szl]; omega
  obtain ⟨p, hp⟩ := num_tokens hb hn ht hl
  have hd : (T ++ t).data.toList = Lx.numText base n ++ t.data.toList := by rw [app_data, hT]
  rw [← hd] at hp
  refine (tokens_ok hp W h1 h2).mono ?_
  rintro e w' ⟨⟨v, hown, rfl⟩, hbl⟩
  refine ⟨?_, hbl⟩
  have hrd := OwnL.rdl tokC_len hown
  obtain ⟨A, c, rfl, hr⟩ := hown
  rcases hr.2 with ⟨_, h0⟩ | ⟨g, cap, cur, e1, e2, e3, e4, e5, e6, e7⟩
  · cases h0
  · injection e1 with e1 _ e1'
    subst e1 e1'
    obtain ⟨g', o', c', hv, _, _, hgl, hgc⟩ := hrd.some_ (by simp)
    injection hv with hv _ _
    injection hv with hv
    injection hv with hv1 hv2 _
    subst hv1 hv2
    have hx := RdL.tAt hgc (k := 0) rfl
    have e : baB (T ++ t).data.toList = T ++ t := baB_data _
    rw [e] at hx
    simp only [Nat.zero_mul, Nat.zero_add] at hx
    exact ⟨g, c, hx.1, hx.2.2.2.1, hx.2.2.2.2.1, hgl, rfl⟩
theorem seven (x : Int) : ∃ i : Nat, i < 7 ∧ wrap64 ((IntKind.u64.wrap x).tmod 7) = (i : Int) := by
  have h0 : 0 ≤ IntKind.u64.wrap x := by unfold IntKind.wrap; exact Int.emod_nonneg _ (by decide)
  obtain ⟨y, hy⟩ : ∃ y : Nat, IntKind.u64.wrap x = (y : Int) := ⟨(IntKind.u64.wrap x).toNat, by omega⟩
  rw [hy]
  refine ⟨y % 7, by omega, ?_⟩
  have e : (y : Int).tmod 7 = ((y % 7 : Nat) : Int) := rfl
  rw [e]
  exact IntWalk.wrap64_in _ ⟨by omega, by omega⟩
set_option maxRecDepth 100000 in
set_option maxHeartbeats 8000000 in
theorem numbers_any (n : Nat) (hn : n < 18446744073709551616) (form letters : Int) (hl1 : -9223372036854775808 ≤ letters) (hl2 : letters ≤ 9223372036854775807) (w : World) (hT : Tabs w) (hz : 13 ≤ w.heap.size) :
    Calls Tryz.prog 5 #[.int .u64 n, .int .i64 form, .int .i64 letters] w fun e w' => e = .returned (.bool true) ∧ Below w.heap.size w w' := by
  have HT := Lib.hid hT
  have HF := Lib.hid (fixed_any w hT hz)
  clear hT
  have hA1 := cell_alloc_if
  have hA2 := frozen_alloc_if
  have hA3 := cell_set_if
  go_enter Tryz.func5, Tryz.ntmps5
  go_wp2_with (go_at_call 7; refine (HF.out).mono ?_)
  rintro e w1 ⟨rfl, hbl1⟩
  have hz1 := hbl1.size
  have HB1 := Lib.hid hbl1
  have HT1 := Lib.hid (tabs_below HT.out hz hbl1)
  clear hbl1
  go_upto_region 3 with (fail)
  go_cut [7] from 16 to 22 (fun v wx => ∃ t : ByteArray, v = .string t ∧ Hid (t.data.toList ∈ Lx.tails ∧ t.size ≤ 2) ∧ Hid (Below w1.heap.size w1 wx))
  case first =>
    obtain ⟨i, hi, hx⟩ := seven letters
    have hc : i = 0 ∨ i = 1 ∨ i = 2 ∨ i = 3 ∨ i = 4 ∨ i = 5 ∨ i = 6 := by omega
    have HBW : Hid (Below w1.heap.size w1 (w1.alloc (.cells #[.string ⟨#[]⟩, .string ⟨#[117]⟩, .string ⟨#[76]⟩, .string ⟨#[117, 76]⟩, .string ⟨#[108, 85]⟩, .string ⟨#[85]⟩, .string ⟨#[108]⟩] 9))) := Lib.hid ((Below.refl _ _).alloc (Nat.le_refl _) _)
    clear hi
    rcases hc with rfl | rfl | rfl | rfl | rfl | rfl | rfl
    all_goals (
      go_wp2
      go_meet
      exact ⟨_, rfl, Lib.hid ⟨by decide, by decide⟩, HBW⟩)
  case rest =>
    obtain ⟨t, rfl, HTL, HBW⟩ := hcut
    obtain ⟨W2, rfl⟩ : ∃ W2, W2 = wc := ⟨_, rfl⟩
    obtain ⟨y, hy⟩ : ∃ y, bits .and .i64 form 3 = y := ⟨_, rfl⟩
    go_upto_block 0 with (fail)
    go_cut [9] from 25 to 29 (fun v wx => ∃ base : Nat, v = .int .u64 base ∧ (base = 8 ∨ base = 10 ∨ base = 16) ∧ W2 = wx)
    case first =>
      clear hy
      by_cases c1 : y = 1
      · have d1 : (y == 1) = true := by simp [c1]
        clear c1
        go_wp2
        go_meet
        exact ⟨8, rfl, by omega, rfl⟩
      · have d1 : (y == 1) = false := by simp [c1]
        by_cases c2 : y = 2
        · have d2 : (y == 2) = true := by simp [c2]
          clear c1 c2
          go_wp2
          go_meet
          exact ⟨16, rfl, by omega, rfl⟩
        · have d2 : (y == 2) = false := by simp [c2]
          by_cases c3 : y = 3
          · have d3 : (y == 3) = true := by simp [c3]
            clear c1 c2 c3
            go_wp2
            go_meet
            exact ⟨16, rfl, by omega, rfl⟩
          · have d3 : (y == 3) = false := by simp [c3]
            clear c1 c2 c3
            go_wp2
            go_meet
            exact ⟨10, rfl, by omega, rfl⟩
    case rest =>
      obtain ⟨base, rfl, hbase, rfl⟩ := hcut
      rcases hbase with rfl | rfl | rfl
      · skip
        have HPW := Lib.hid (Lx.pow64 (base := 8) (by omega) hn)
        go_wp2
        go_loopw [8, 10] (fun a8 a10 wr => ∃ (v f : Nat) (txt : ByteArray), a8 = .string txt ∧ a10 = .int .u64 v ∧ v < 18446744073709551616 ∧ txt.size + f ≤ 64 ∧ Hid (v < 8 ^ f ∧ Lx.digs 8 64 n [] = Lx.digs 8 f v txt.data.toList) ∧ Hid (Below w1.heap.size w1 wr)) (fun _ a10 _ => (intOf a10).toNat)
        case atStart => exact ⟨n, 64, ⟨#[]⟩, rfl, rfl, hn, by decide, Lib.hid ⟨HPW.out, rfl⟩, HBW⟩
        case round =>
          obtain ⟨v, f, txt, rfl, rfl, hv, htx, HI, HBR⟩ := hrel
          have hz2 := HBR.out.size
          have htz := HTL.out.2
          by_cases hv0 : 0 < v
          · obtain ⟨f', hf', hlt, hst⟩ := digs_step (acc := txt.data.toList) hv0 HI.out.1
            have hd : v % 8 < 16 := by omega
            have hrem : (v : Int).tmod 8 = ((v % 8 : Nat) : Int) := rfl
            have hquo : (v : Int).tdiv 8 = ((v / 8 : Nat) : Int) := rfl
            have hcx := c16_at (v % 8) hd
            have HN : Hid (v / 8 < 8 ^ f' ∧ Lx.digs 8 64 n [] = Lx.digs 8 f' (v / 8) (Lx.hexC (v % 8) :: txt.data.toList)) := Lib.hid ⟨hlt (by omega), HI.out.2.trans hst⟩
            have hqv : v / 8 < v := Nat.div_lt_self hv0 (by omega)
            obtain ⟨d, ed⟩ : ∃ d, v % 8 = d := ⟨_, rfl⟩
            obtain ⟨u, eu⟩ : ∃ u, v / 8 = u := ⟨_, rfl⟩
            rw [ed] at hd hrem hcx HN
            rw [eu] at hquo HN hqv
            have HCX := Lib.hid hcx
            clear ed eu hcx hst hlt HI
            go_upto_region 14 with (fail)
            go_quiet (fail)
            go_wp2
            go_roundw
            case rel =>
              refine ⟨u, f', _, rfl, by go_num, by omega, ?_, Lib.hid ⟨HN.out.1, ?_⟩, Lib.hid (_root_.Go.below_drewN HBR.out _)⟩
              · have h1 := congrArg List.length HCX.out
                rw [szl] at h1
                rw [ByteArray.size_append]
                simp at h1
                simp
                omega
              · rw [app_data, HCX.out]; exact HN.out.2
            case measure => simp [intOf]; omega
          · obtain rfl : v = 0 := by omega
            have hdg : Lx.digs 8 64 n [] = txt.data.toList := HI.out.2.trans digs_end
            clear HI
            by_cases h0 : txt.size = 0
            · have hne : (txt.toList == []) = true := by rw [empty_iff]; exact decide_eq_true h0
              have hnil : txt.data.toList = [] := List.eq_nil_of_length_eq_zero (by rw [szl]; exact h0)
              clear h0
              have hTx : ((⟨#[48]⟩ : ByteArray) ++ txt : ByteArray).data.toList = Lx.numText 8 n := by
                unfold Lx.numText
                rw [hdg]
                simp [hnil, app_data]
              have HTK := Lib.hid (fun W h1 h2 => num_ask (base := 8) (by omega) hn HTL.out.1 HTL.out.2 (T := (⟨#[48]⟩ : ByteArray) ++ txt) (by first | decide | (rw [ByteArray.size_append]; simp only [show (⟨#[48]⟩ : ByteArray).size = 1 from rfl, show (⟨#[48, 88]⟩ : ByteArray).size = 2 from rfl]; omega) | omega) hTx W h1 h2)
              clear hTx hnil hdg
              go_wp2_with (go_at_call 8; refine (HTK.out _ (tabs_below HT1.out (by omega) HBR.out) (by omega)).mono ?_)
              rintro e w3 ⟨⟨g, c, k0, k3, k4, hg, rfl⟩, hbl3⟩
              have hz3 := hbl3.size
              have hA1 := cell_alloc_if
              have hA2 := frozen_alloc_if
              have hA3 := cell_set_if
              go_wp2
              go_ret
              exact ⟨rfl, HB1.out.trans (((HBR.out.trans (hbl3.mono (by omega))).alloc (by omega) _).mono (by omega))⟩
            · have hne : (txt.toList == []) = false := by rw [empty_iff]; exact decide_eq_false h0
              have hnil : txt.data.toList ≠ [] := fun e => h0 (by rw [← szl, e]; rfl)
              have hTx : ((⟨#[48]⟩ : ByteArray) ++ txt : ByteArray).data.toList = Lx.numText 8 n := by
                unfold Lx.numText
                rw [hdg]
                simp [hnil, app_data]
              have HTK := Lib.hid (fun W h1 h2 => num_ask (base := 8) (by omega) hn HTL.out.1 HTL.out.2 (T := (⟨#[48]⟩ : ByteArray) ++ txt) (by first | decide | (rw [ByteArray.size_append]; simp only [show (⟨#[48]⟩ : ByteArray).size = 1 from rfl, show (⟨#[48, 88]⟩ : ByteArray).size = 2 from rfl]; omega) | omega) hTx W h1 h2)
              clear hTx hnil hdg
              go_wp2_with (go_at_call 8; refine (HTK.out _ (tabs_below HT1.out (by omega) HBR.out) (by omega)).mono ?_)
              rintro e w3 ⟨⟨g, c, k0, k3, k4, hg, rfl⟩, hbl3⟩
              have hz3 := hbl3.size
              have hA1 := cell_alloc_if
              have hA2 := frozen_alloc_if
              have hA3 := cell_set_if
              go_wp2
              go_ret
              exact ⟨rfl, HB1.out.trans (((HBR.out.trans (hbl3.mono (by omega))).alloc (by omega) _).mono (by omega))⟩
      · skip
        have HPW := Lib.hid (Lx.pow64 (base := 10) (by omega) hn)
        go_wp2
        go_loopw [8, 10] (fun a8 a10 wr => ∃ (v f : Nat) (txt : ByteArray), a8 = .string txt ∧ a10 = .int .u64 v ∧ v < 18446744073709551616 ∧ txt.size + f ≤ 64 ∧ Hid (v < 10 ^ f ∧ Lx.digs 10 64 n [] = Lx.digs 10 f v txt.data.toList) ∧ Hid (Below w1.heap.size w1 wr)) (fun _ a10 _ => (intOf a10).toNat)
        case atStart => exact ⟨n, 64, ⟨#[]⟩, rfl, rfl, hn, by decide, Lib.hid ⟨HPW.out, rfl⟩, HBW⟩
        case round =>
          obtain ⟨v, f, txt, rfl, rfl, hv, htx, HI, HBR⟩ := hrel
          have hz2 := HBR.out.size
          have htz := HTL.out.2
          by_cases hv0 : 0 < v
          · obtain ⟨f', hf', hlt, hst⟩ := digs_step (acc := txt.data.toList) hv0 HI.out.1
            have hd : v % 10 < 16 := by omega
            have hrem : (v : Int).tmod 10 = ((v % 10 : Nat) : Int) := rfl
            have hquo : (v : Int).tdiv 10 = ((v / 10 : Nat) : Int) := rfl
            have hcx := c16_at (v % 10) hd
            have HN : Hid (v / 10 < 10 ^ f' ∧ Lx.digs 10 64 n [] = Lx.digs 10 f' (v / 10) (Lx.hexC (v % 10) :: txt.data.toList)) := Lib.hid ⟨hlt (by omega), HI.out.2.trans hst⟩
            have hqv : v / 10 < v := Nat.div_lt_self hv0 (by omega)
            obtain ⟨d, ed⟩ : ∃ d, v % 10 = d := ⟨_, rfl⟩
            obtain ⟨u, eu⟩ : ∃ u, v / 10 = u := ⟨_, rfl⟩
            rw [ed] at hd hrem hcx HN
            rw [eu] at hquo HN hqv
            have HCX := Lib.hid hcx
            clear ed eu hcx hst hlt HI
            go_upto_region 14 with (fail)
            go_quiet (fail)
            go_wp2
            go_roundw
            case rel =>
              refine ⟨u, f', _, rfl, by go_num, by omega, ?_, Lib.hid ⟨HN.out.1, ?_⟩, Lib.hid (_root_.Go.below_drewN HBR.out _)⟩
              · have h1 := congrArg List.length HCX.out
                rw [szl] at h1
                rw [ByteArray.size_append]
                simp at h1
                simp
                omega
              · rw [app_data, HCX.out]; exact HN.out.2
            case measure => simp [intOf]; omega
          · obtain rfl : v = 0 := by omega
            have hdg : Lx.digs 10 64 n [] = txt.data.toList := HI.out.2.trans digs_end
            clear HI
            by_cases h0 : txt.size = 0
            · have hne : (txt.toList == []) = true := by rw [empty_iff]; exact decide_eq_true h0
              have hnil : txt.data.toList = [] := List.eq_nil_of_length_eq_zero (by rw [szl]; exact h0)
              clear h0
              have hTx : ((⟨#[48]⟩ : ByteArray) ++ txt : ByteArray).data.toList = Lx.numText 10 n := by
                unfold Lx.numText
                rw [hdg]
                simp [hnil, app_data]
              have HTK := Lib.hid (fun W h1 h2 => num_ask (base := 10) (by omega) hn HTL.out.1 HTL.out.2 (T := (⟨#[48]⟩ : ByteArray) ++ txt) (by first | decide | (rw [ByteArray.size_append]; simp only [show (⟨#[48]⟩ : ByteArray).size = 1 from rfl, show (⟨#[48, 88]⟩ : ByteArray).size = 2 from rfl]; omega) | omega) hTx W h1 h2)
              clear hTx hnil hdg
              go_wp2_with (go_at_call 8; refine (HTK.out _ (tabs_below HT1.out (by omega) HBR.out) (by omega)).mono ?_)
              rintro e w3 ⟨⟨g, c, k0, k3, k4, hg, rfl⟩, hbl3⟩
              have hz3 := hbl3.size
              have hA1 := cell_alloc_if
              have hA2 := frozen_alloc_if
              have hA3 := cell_set_if
              go_wp2
              go_ret
              exact ⟨rfl, HB1.out.trans (((HBR.out.trans (hbl3.mono (by omega))).alloc (by omega) _).mono (by omega))⟩
            · have hne : (txt.toList == []) = false := by rw [empty_iff]; exact decide_eq_false h0
              have hnil : txt.data.toList ≠ [] := fun e => h0 (by rw [← szl, e]; rfl)
              have hTx : (txt : ByteArray).data.toList = Lx.numText 10 n := by
                unfold Lx.numText
                rw [hdg]
                simp [hnil, app_data]
              have HTK := Lib.hid (fun W h1 h2 => num_ask (base := 10) (by omega) hn HTL.out.1 HTL.out.2 (T := txt) (by first | decide | (rw [ByteArray.size_append]; simp only [show (⟨#[48]⟩ : ByteArray).size = 1 from rfl, show (⟨#[48, 88]⟩ : ByteArray).size = 2 from rfl]; omega) | omega) hTx W h1 h2)
              clear hTx hnil hdg
              go_wp2_with (go_at_call 8; refine (HTK.out _ (tabs_below HT1.out (by omega) HBR.out) (by omega)).mono ?_)
              rintro e w3 ⟨⟨g, c, k0, k3, k4, hg, rfl⟩, hbl3⟩
              have hz3 := hbl3.size
              have hA1 := cell_alloc_if
              have hA2 := frozen_alloc_if
              have hA3 := cell_set_if
              go_wp2
              go_ret
              exact ⟨rfl, HB1.out.trans (((HBR.out.trans (hbl3.mono (by omega))).alloc (by omega) _).mono (by omega))⟩
      · skip
        have HPW := Lib.hid (Lx.pow64 (base := 16) (by omega) hn)
        go_wp2
        go_loopw [8, 10] (fun a8 a10 wr => ∃ (v f : Nat) (txt : ByteArray), a8 = .string txt ∧ a10 = .int .u64 v ∧ v < 18446744073709551616 ∧ txt.size + f ≤ 64 ∧ Hid (v < 16 ^ f ∧ Lx.digs 16 64 n [] = Lx.digs 16 f v txt.data.toList) ∧ Hid (Below w1.heap.size w1 wr)) (fun _ a10 _ => (intOf a10).toNat)
        case atStart => exact ⟨n, 64, ⟨#[]⟩, rfl, rfl, hn, by decide, Lib.hid ⟨HPW.out, rfl⟩, HBW⟩
        case round =>
          obtain ⟨v, f, txt, rfl, rfl, hv, htx, HI, HBR⟩ := hrel
          have hz2 := HBR.out.size
          have htz := HTL.out.2
          by_cases hv0 : 0 < v
          · obtain ⟨f', hf', hlt, hst⟩ := digs_step (acc := txt.data.toList) hv0 HI.out.1
            have hd : v % 16 < 16 := by omega
            have hrem : (v : Int).tmod 16 = ((v % 16 : Nat) : Int) := rfl
            have hquo : (v : Int).tdiv 16 = ((v / 16 : Nat) : Int) := rfl
            have hcx := c16_at (v % 16) hd
            have HN : Hid (v / 16 < 16 ^ f' ∧ Lx.digs 16 64 n [] = Lx.digs 16 f' (v / 16) (Lx.hexC (v % 16) :: txt.data.toList)) := Lib.hid ⟨hlt (by omega), HI.out.2.trans hst⟩
            have hqv : v / 16 < v := Nat.div_lt_self hv0 (by omega)
            obtain ⟨d, ed⟩ : ∃ d, v % 16 = d := ⟨_, rfl⟩
            obtain ⟨u, eu⟩ : ∃ u, v / 16 = u := ⟨_, rfl⟩
            rw [ed] at hd hrem hcx HN
            rw [eu] at hquo HN hqv
            have HCX := Lib.hid hcx
            clear ed eu hcx hst hlt HI
            go_upto_region 14 with (fail)
            go_quiet (fail)
            go_wp2
            go_roundw
            case rel =>
              refine ⟨u, f', _, rfl, by go_num, by omega, ?_, Lib.hid ⟨HN.out.1, ?_⟩, Lib.hid (_root_.Go.below_drewN HBR.out _)⟩
              · have h1 := congrArg List.length HCX.out
                rw [szl] at h1
                rw [ByteArray.size_append]
                simp at h1
                simp
                omega
              · rw [app_data, HCX.out]; exact HN.out.2
            case measure => simp [intOf]; omega
          · obtain rfl : v = 0 := by omega
            have hdg : Lx.digs 16 64 n [] = txt.data.toList := HI.out.2.trans digs_end
            clear HI
            by_cases h0 : txt.size = 0
            · have hne : (txt.toList == []) = true := by rw [empty_iff]; exact decide_eq_true h0
              have hnil : txt.data.toList = [] := List.eq_nil_of_length_eq_zero (by rw [szl]; exact h0)
              clear h0
              have hTx : ((⟨#[48, 120, 48]⟩ : ByteArray) : ByteArray).data.toList = Lx.numText 16 n := by
                unfold Lx.numText
                rw [hdg]
                simp [hnil, app_data]
              have HTK := Lib.hid (fun W h1 h2 => num_ask (base := 16) (by omega) hn HTL.out.1 HTL.out.2 (T := (⟨#[48, 120, 48]⟩ : ByteArray)) (by first | decide | (rw [ByteArray.size_append]; simp only [show (⟨#[48]⟩ : ByteArray).size = 1 from rfl, show (⟨#[48, 88]⟩ : ByteArray).size = 2 from rfl]; omega) | omega) hTx W h1 h2)
              clear hTx hnil hdg
              go_wp2_with (go_at_call 8; refine (HTK.out _ (tabs_below HT1.out (by omega) HBR.out) (by omega)).mono ?_)
              rintro e w3 ⟨⟨g, c, k0, k3, k4, hg, rfl⟩, hbl3⟩
              have hz3 := hbl3.size
              have hA1 := cell_alloc_if
              have hA2 := frozen_alloc_if
              have hA3 := cell_set_if
              go_wp2
              go_ret
              exact ⟨rfl, HB1.out.trans (((HBR.out.trans (hbl3.mono (by omega))).alloc (by omega) _).mono (by omega))⟩
            · have hne : (txt.toList == []) = false := by rw [empty_iff]; exact decide_eq_false h0
              have hnil : txt.data.toList ≠ [] := fun e => h0 (by rw [← szl, e]; rfl)
              have hTx : ((⟨#[48, 88]⟩ : ByteArray) ++ txt : ByteArray).data.toList = Lx.numText 16 n := by
                unfold Lx.numText
                rw [hdg]
                simp [hnil, app_data]
              have HTK := Lib.hid (fun W h1 h2 => num_ask (base := 16) (by omega) hn HTL.out.1 HTL.out.2 (T := (⟨#[48, 88]⟩ : ByteArray) ++ txt) (by first | decide | (rw [ByteArray.size_append]; simp only [show (⟨#[48]⟩ : ByteArray).size = 1 from rfl, show (⟨#[48, 88]⟩ : ByteArray).size = 2 from rfl]; omega) | omega) hTx W h1 h2)
              clear hTx hnil hdg
              go_wp2_with (go_at_call 8; refine (HTK.out _ (tabs_below HT1.out (by omega) HBR.out) (by omega)).mono ?_)
              rintro e w3 ⟨⟨g, c, k0, k3, k4, hg, rfl⟩, hbl3⟩
              have hz3 := hbl3.size
              have hA1 := cell_alloc_if
              have hA2 := frozen_alloc_if
              have hA3 := cell_set_if
              go_wp2
              go_ret
              exact ⟨rfl, HB1.out.trans (((HBR.out.trans (hbl3.mono (by omega))).alloc (by omega) _).mono (by omega))⟩
end Go.Proofs.YteplbbjmbhgllaaGreatDoor
