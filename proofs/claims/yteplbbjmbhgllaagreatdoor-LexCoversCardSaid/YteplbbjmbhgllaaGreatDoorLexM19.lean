/-
  internal/strconv.ParseUint, walked.
  internal/strconv.ParseUint, walked.
  internal/strconv.ParseUint, walked.
-/
import Derived.Test.YteplbbjmbhgllaaGreatDoorLexM18
import Derived.Deep.CutBlock
namespace Go.Proofs.YteplbbjmbhgllaaGreatDoor
open Go.RowKit
set_option linter.unusedVariables false
set_option linter.unusedSimpArgs false

set_option maxRecDepth 100000 in
set_option maxHeartbeats 8000000 in
theorem parse16_any (s : ByteArray) (hs : s.size ≤ 1048576) (h0 : 0 < s.size) (w : World) : Calls Tryz.prog 44 #[.string s, .int .i64 16, .int .i64 64] w fun e w' => PuP (numM 16 18446744073709551615 0 s.data.toList) e ∧ Below w.heap.size w w' := by
  skip
  have hne : (s.toList == []) = false := by rw [empty_iff]; exact decide_eq_false (by omega)
  have hcv := Lib.run_convert_string_bytes (P := Tryz.prog) w 9 34 5 s (u := .string) Tryz.underlying9 Tryz.underlying34 Tryz.underlying5
  have hB := Lib.hid (fun j (hj : j < s.size) => Lib.bytesWorld_cell w 5 s j hj)
  have HBW := Lib.hid (Lib.bytesWorld_below w 5 s)
  obtain ⟨W1, hW1⟩ : ∃ W1, W1 = Lib.bytesWorld w 5 s := ⟨_, rfl⟩
  rw [← hW1] at hcv hB HBW
  clear hW1
  have hmv : IntKind.u64.wrap (IntKind.u64.wrap 18446744073709551616 - 1) = 18446744073709551615 := by decide
  go_enter Tryz.func44, Tryz.ntmps44
  go_wp2
  go_loop [12, 13, 101] (fun vu vn vi => ∃ (k acc : Nat) (a : Int), vu = .bool false ∧ vn = .int .u64 a ∧ vi = .int .i64 k ∧ k ≤ s.size ∧ 0 ≤ a ∧ a ≤ 18446744073709551615 ∧ Hid (a = (acc : Int) ∧ numM 16 18446744073709551615 0 s.data.toList = numM 16 18446744073709551615 acc (s.data.toList.drop k))) (fun _ _ vi => s.size - (intOf vi).toNat)
  case atStart => exact ⟨0, 0, 0, rfl, rfl, rfl, by omega, by omega, by omega, Lib.hid ⟨rfl, by rw [List.drop_zero]⟩⟩
  case round =>
    obtain ⟨k, acc, a, rfl, rfl, rfl, hk, ha0, haM, HI⟩ := hrel
    obtain ⟨hac, hdec⟩ := HI.out
    clear HI
    by_cases hlt : k < s.size
    · have hc : W1.cell? ⟨w.heap.size, k, none⟩ = some (.int .u8 ((byteN s.data.toList k : Nat) : Int)) := hB.out k hlt
      have hx := byteN_lt s.data.toList k
      have HT := hdec.trans (numM_step (base := 16) (by omega) (by rw [szl]; exact hlt))
      have HLW := Lib.hid (fun W => lower_any (byteN s.data.toList k) hx W)
      have hlw := lowN_cases _ hx
      generalize byteN s.data.toList k = x at hc hx HT HLW hlw
      obtain ⟨l1, l2, l3, l4⟩ := hlw
      clear hdec
      have HTT := Lib.hid HT
      have HAC := Lib.hid hac
      clear HT hac
      go_upto_block 5 with (fail)
      go_cut [12, 16] from 105 to 133 (fun u t wx => ∃ d : Nat, u = .bool false ∧ t = .int .u8 d ∧ d < 36 ∧ Hid (alN x = some d) ∧ W1 = wx)
      case first =>
        clear hc haM ha0
        by_cases c1 : 48 ≤ x ∧ x ≤ 57
        · have hal : Hid (alN x = some (x - 48)) := Lib.hid (by unfold alN; rw [if_pos c1])
          clear l1 l2 l3 l4
          obtain ⟨c1a, c1b⟩ := c1
          have d95 : ((x : Int) == 95) = false := by simp; omega
          go_wp2_with (go_at_call 60; (with_reducible refine (HLW.out _).mono ?_); rintro e w' ⟨rfl, rfl⟩)
          go_meet
          exact ⟨x - 48, rfl, by congr 1; omega, by omega, hal, rfl⟩
        · by_cases c2 : 65 ≤ x ∧ x ≤ 90
          · have hal : Hid (alN x = some (x - 55)) := Lib.hid (by unfold alN; rw [if_neg c1, if_pos c2])
            have e1 := l1 c2
            rw [e1] at HLW
            push_cast at HLW
            clear l1 l2 l3 l4 e1 c1
            obtain ⟨c2a, c2b⟩ := c2
            have d95 : ((x : Int) == 95) = false := by simp; omega
            go_wp2_with (go_at_call 60; (with_reducible refine (HLW.out _).mono ?_); rintro e w' ⟨rfl, rfl⟩)
            go_meet
            exact ⟨x - 55, rfl, by congr 1; omega, by omega, hal, rfl⟩
          · by_cases c3 : 97 ≤ x ∧ x ≤ 122
            · have hal : Hid (alN x = some (x - 87)) := Lib.hid (by unfold alN; rw [if_neg c1, if_neg c2, if_pos c3])
              have e1 := l2 c3
              rw [e1] at HLW
              clear l1 l2 l3 l4 e1 c1 c2
              obtain ⟨c3a, c3b⟩ := c3
              have d95 : ((x : Int) == 95) = false := by simp; omega
              go_wp2_with (go_at_call 60; (with_reducible refine (HLW.out _).mono ?_); rintro e w' ⟨rfl, rfl⟩)
              go_meet
              exact ⟨x - 87, rfl, by congr 1; omega, by omega, hal, rfl⟩
            · have hal0 : alN x = none := by unfold alN; rw [if_neg c1, if_neg c2, if_neg c3]
              have HN : Hid (numM 16 18446744073709551615 0 s.data.toList = none) := Lib.hid (by rw [HTT.out, hal0])
              clear hal0
              have hll := l4 c2 c3
              have hlo := lowN_low x hx
              generalize lowN x = y at HLW hll l3 hlo
              clear l1 l2 c2 c3 HTT HAC
              by_cases hx48 : x < 48
              · have hy := hlo.1 hx48
                have d95 : ((x : Int) == 95) = false := by simp; omega
                clear hll c1 hlo
                go_wp2_with (go_at_call 60; (with_reducible refine (HLW.out _).mono ?_); rintro e w' ⟨rfl, rfl⟩)
                all_goals (go_returns; exact ⟨by rw [HN.out]; exact ⟨_, _, .inr rfl, rfl⟩, HBW.out⟩)
              · have hx57 : 57 < x := by omega
                by_cases h95 : x = 95
                · have hy := hlo.2 h95
                  have d95 : ((x : Int) == 95) = true := by simp [h95]
                  have hy2 : 122 < y := by omega
                  clear hll c1 hlo h95 hy
                  go_wp2_with (go_at_call 60; (with_reducible refine (HLW.out _).mono ?_); rintro e w' ⟨rfl, rfl⟩)
                  all_goals (go_returns; exact ⟨by rw [HN.out]; exact ⟨_, _, .inr rfl, rfl⟩, HBW.out⟩)
                · have d95 : ((x : Int) == 95) = false := by simp; omega
                  clear c1 hlo h95
                  rcases hll with hll | hll
                  · skip
                    go_wp2_with (go_at_call 60; (with_reducible refine (HLW.out _).mono ?_); rintro e w' ⟨rfl, rfl⟩)
                    all_goals (go_returns; exact ⟨by rw [HN.out]; exact ⟨_, _, .inr rfl, rfl⟩, HBW.out⟩)
                  · skip
                    go_wp2_with (go_at_call 60; (with_reducible refine (HLW.out _).mono ?_); rintro e w' ⟨rfl, rfl⟩)
                    all_goals (go_returns; exact ⟨by rw [HN.out]; exact ⟨_, _, .inr rfl, rfl⟩, HBW.out⟩)
      case rest =>
        obtain ⟨d, rfl, rfl, hd36, HD, rfl⟩ := hcut
        have hT := HTT.out
        have hac := HAC.out
        rw [HD.out] at hT
        dsimp only at hT
        clear hc HTT HAC HLW l1 l2 l3 l4 HD
        by_cases cd : d < 16
        · by_cases cm : acc * 16 + d ≤ 18446744073709551615
          · have HN : Hid (numM 16 18446744073709551615 0 s.data.toList = numM 16 18446744073709551615 (acc * 16 + d) (s.data.toList.drop (k + 1))) := Lib.hid (by rw [hT, if_pos ⟨cd, cm⟩])
            have icut : a < 1152921504606846976 := by omega
            have iov : a * 16 + (d : Int) ≤ 18446744073709551615 := by omega
            have HA2 : Hid (a * 16 + (d : Int) = ((acc * 16 + d : Nat) : Int)) := Lib.hid (by omega)
            clear hT cm hac
            go_wp2
            go_round
            case rel => exact ⟨k + 1, acc * 16 + d, a * 16 + (d : Int), rfl, (by first | rfl | (congr 1; omega)), (by first | rfl | (congr 1; omega)), by omega, by omega, by omega, Lib.hid ⟨HA2.out, HN.out⟩⟩
            case measure => simp [intOf]; omega
          · have HN : Hid (numM 16 18446744073709551615 0 s.data.toList = none) := Lib.hid (by rw [hT, if_neg (fun h => cm h.2)])
            by_cases hcut : a < 1152921504606846976
            · have iov : 18446744073709551615 < a * 16 + (d : Int) := by omega
              clear hT cm hac
              go_wp2_with (go_at_call 60; (with_reducible refine (HLW.out _).mono ?_); rintro e w' ⟨rfl, rfl⟩)
              all_goals (go_returns; exact ⟨by rw [HN.out]; exact ⟨_, _, .inl rfl, rfl⟩, HBW.out⟩)
            · clear hT cm hac
              go_wp2_with (go_at_call 60; (with_reducible refine (HLW.out _).mono ?_); rintro e w' ⟨rfl, rfl⟩)
              all_goals (go_returns; exact ⟨by rw [HN.out]; exact ⟨_, _, .inl rfl, rfl⟩, HBW.out⟩)
        · have HN : Hid (numM 16 18446744073709551615 0 s.data.toList = none) := Lib.hid (by rw [hT, if_neg (fun h => cd h.1)])
          clear hT hac
          go_wp2_with (go_at_call 60; (with_reducible refine (HLW.out _).mono ?_); rintro e w' ⟨rfl, rfl⟩)
          all_goals (go_returns; exact ⟨by rw [HN.out]; exact ⟨_, _, .inr rfl, rfl⟩, HBW.out⟩)
    · have HN : Hid (numM 16 18446744073709551615 0 s.data.toList = some acc) := Lib.hid (by rw [hdec, List.drop_of_length_le (by rw [szl]; omega)]; rfl)
      subst hac
      clear hdec
      go_wp2
      go_returns
      exact ⟨by rw [HN.out]; rfl, HBW.out⟩
end Go.Proofs.YteplbbjmbhgllaaGreatDoor

namespace Go.Proofs.YteplbbjmbhgllaaGreatDoor
open Go.RowKit
set_option linter.unusedVariables false
set_option linter.unusedSimpArgs false

set_option maxRecDepth 100000 in
set_option maxHeartbeats 8000000 in
theorem parse8_any (s : ByteArray) (hs : s.size ≤ 1048576) (h0 : 0 < s.size) (w : World) : Calls Tryz.prog 44 #[.string s, .int .i64 8, .int .i64 64] w fun e w' => PuP (numM 8 18446744073709551615 0 s.data.toList) e ∧ Below w.heap.size w w' := by
  skip
  have hne : (s.toList == []) = false := by rw [empty_iff]; exact decide_eq_false (by omega)
  have hcv := Lib.run_convert_string_bytes (P := Tryz.prog) w 9 34 5 s (u := .string) Tryz.underlying9 Tryz.underlying34 Tryz.underlying5
  have hB := Lib.hid (fun j (hj : j < s.size) => Lib.bytesWorld_cell w 5 s j hj)
  have HBW := Lib.hid (Lib.bytesWorld_below w 5 s)
  obtain ⟨W1, hW1⟩ : ∃ W1, W1 = Lib.bytesWorld w 5 s := ⟨_, rfl⟩
  rw [← hW1] at hcv hB HBW
  clear hW1
  have hmv : IntKind.u64.wrap (IntKind.u64.wrap 18446744073709551616 - 1) = 18446744073709551615 := by decide
  go_enter Tryz.func44, Tryz.ntmps44
  go_wp2
  go_loop [12, 13, 101] (fun vu vn vi => ∃ (k acc : Nat) (a : Int), vu = .bool false ∧ vn = .int .u64 a ∧ vi = .int .i64 k ∧ k ≤ s.size ∧ 0 ≤ a ∧ a ≤ 18446744073709551615 ∧ Hid (a = (acc : Int) ∧ numM 8 18446744073709551615 0 s.data.toList = numM 8 18446744073709551615 acc (s.data.toList.drop k))) (fun _ _ vi => s.size - (intOf vi).toNat)
  case atStart => exact ⟨0, 0, 0, rfl, rfl, rfl, by omega, by omega, by omega, Lib.hid ⟨rfl, by rw [List.drop_zero]⟩⟩
  case round =>
    obtain ⟨k, acc, a, rfl, rfl, rfl, hk, ha0, haM, HI⟩ := hrel
    obtain ⟨hac, hdec⟩ := HI.out
    clear HI
    by_cases hlt : k < s.size
    · have hc : W1.cell? ⟨w.heap.size, k, none⟩ = some (.int .u8 ((byteN s.data.toList k : Nat) : Int)) := hB.out k hlt
      have hx := byteN_lt s.data.toList k
      have HT := hdec.trans (numM_step (base := 8) (by omega) (by rw [szl]; exact hlt))
      have HLW := Lib.hid (fun W => lower_any (byteN s.data.toList k) hx W)
      have hlw := lowN_cases _ hx
      generalize byteN s.data.toList k = x at hc hx HT HLW hlw
      obtain ⟨l1, l2, l3, l4⟩ := hlw
      clear hdec
      have HTT := Lib.hid HT
      have HAC := Lib.hid hac
      clear HT hac
      go_upto_block 5 with (fail)
      go_cut [12, 16] from 105 to 133 (fun u t wx => ∃ d : Nat, u = .bool false ∧ t = .int .u8 d ∧ d < 36 ∧ Hid (alN x = some d) ∧ W1 = wx)
      case first =>
        clear hc haM ha0
        by_cases c1 : 48 ≤ x ∧ x ≤ 57
        · have hal : Hid (alN x = some (x - 48)) := Lib.hid (by unfold alN; rw [if_pos c1])
          clear l1 l2 l3 l4
          obtain ⟨c1a, c1b⟩ := c1
          have d95 : ((x : Int) == 95) = false := by simp; omega
          go_wp2_with (go_at_call 60; (with_reducible refine (HLW.out _).mono ?_); rintro e w' ⟨rfl, rfl⟩)
          go_meet
          exact ⟨x - 48, rfl, by congr 1; omega, by omega, hal, rfl⟩
        · by_cases c2 : 65 ≤ x ∧ x ≤ 90
          · have hal : Hid (alN x = some (x - 55)) := Lib.hid (by unfold alN; rw [if_neg c1, if_pos c2])
            have e1 := l1 c2
            rw [e1] at HLW
            push_cast at HLW
            clear l1 l2 l3 l4 e1 c1
            obtain ⟨c2a, c2b⟩ := c2
            have d95 : ((x : Int) == 95) = false := by simp; omega
            go_wp2_with (go_at_call 60; (with_reducible refine (HLW.out _).mono ?_); rintro e w' ⟨rfl, rfl⟩)
            go_meet
            exact ⟨x - 55, rfl, by congr 1; omega, by omega, hal, rfl⟩
          · by_cases c3 : 97 ≤ x ∧ x ≤ 122
            · have hal : Hid (alN x = some (x - 87)) := Lib.hid (by unfold alN; rw [if_neg c1, if_neg c2, if_pos c3])
              have e1 := l2 c3
              rw [e1] at HLW
              clear l1 l2 l3 l4 e1 c1 c2
              obtain ⟨c3a, c3b⟩ := c3
              have d95 : ((x : Int) == 95) = false := by simp; omega
              go_wp2_with (go_at_call 60; (with_reducible refine (HLW.out _).mono ?_); rintro e w' ⟨rfl, rfl⟩)
              go_meet
              exact ⟨x - 87, rfl, by congr 1; omega, by omega, hal, rfl⟩
            · have hal0 : alN x = none := by unfold alN; rw [if_neg c1, if_neg c2, if_neg c3]
              have HN : Hid (numM 8 18446744073709551615 0 s.data.toList = none) := Lib.hid (by rw [HTT.out, hal0])
              clear hal0
              have hll := l4 c2 c3
              have hlo := lowN_low x hx
              generalize lowN x = y at HLW hll l3 hlo
              clear l1 l2 c2 c3 HTT HAC
              by_cases hx48 : x < 48
              · have hy := hlo.1 hx48
                have d95 : ((x : Int) == 95) = false := by simp; omega
                clear hll c1 hlo
                go_wp2_with (go_at_call 60; (with_reducible refine (HLW.out _).mono ?_); rintro e w' ⟨rfl, rfl⟩)
                all_goals (go_returns; exact ⟨by rw [HN.out]; exact ⟨_, _, .inr rfl, rfl⟩, HBW.out⟩)
              · have hx57 : 57 < x := by omega
                by_cases h95 : x = 95
                · have hy := hlo.2 h95
                  have d95 : ((x : Int) == 95) = true := by simp [h95]
                  have hy2 : 122 < y := by omega
                  clear hll c1 hlo h95 hy
                  go_wp2_with (go_at_call 60; (with_reducible refine (HLW.out _).mono ?_); rintro e w' ⟨rfl, rfl⟩)
                  all_goals (go_returns; exact ⟨by rw [HN.out]; exact ⟨_, _, .inr rfl, rfl⟩, HBW.out⟩)
                · have d95 : ((x : Int) == 95) = false := by simp; omega
                  clear c1 hlo h95
                  rcases hll with hll | hll
                  · skip
                    go_wp2_with (go_at_call 60; (with_reducible refine (HLW.out _).mono ?_); rintro e w' ⟨rfl, rfl⟩)
                    all_goals (go_returns; exact ⟨by rw [HN.out]; exact ⟨_, _, .inr rfl, rfl⟩, HBW.out⟩)
                  · skip
                    go_wp2_with (go_at_call 60; (with_reducible refine (HLW.out _).mono ?_); rintro e w' ⟨rfl, rfl⟩)
                    all_goals (go_returns; exact ⟨by rw [HN.out]; exact ⟨_, _, .inr rfl, rfl⟩, HBW.out⟩)
      case rest =>
        obtain ⟨d, rfl, rfl, hd36, HD, rfl⟩ := hcut
        have hT := HTT.out
        have hac := HAC.out
        rw [HD.out] at hT
        dsimp only at hT
        clear hc HTT HAC HLW l1 l2 l3 l4 HD
        by_cases cd : d < 8
        · by_cases cm : acc * 8 + d ≤ 18446744073709551615
          · have HN : Hid (numM 8 18446744073709551615 0 s.data.toList = numM 8 18446744073709551615 (acc * 8 + d) (s.data.toList.drop (k + 1))) := Lib.hid (by rw [hT, if_pos ⟨cd, cm⟩])
            have icut : a < 2305843009213693952 := by omega
            have iov : a * 8 + (d : Int) ≤ 18446744073709551615 := by omega
            have HA2 : Hid (a * 8 + (d : Int) = ((acc * 8 + d : Nat) : Int)) := Lib.hid (by omega)
            clear hT cm hac
            go_wp2
            go_round
            case rel => exact ⟨k + 1, acc * 8 + d, a * 8 + (d : Int), rfl, (by first | rfl | (congr 1; omega)), (by first | rfl | (congr 1; omega)), by omega, by omega, by omega, Lib.hid ⟨HA2.out, HN.out⟩⟩
            case measure => simp [intOf]; omega
          · have HN : Hid (numM 8 18446744073709551615 0 s.data.toList = none) := Lib.hid (by rw [hT, if_neg (fun h => cm h.2)])
            by_cases hcut : a < 2305843009213693952
            · have iov : 18446744073709551615 < a * 8 + (d : Int) := by omega
              clear hT cm hac
              go_wp2_with (go_at_call 60; (with_reducible refine (HLW.out _).mono ?_); rintro e w' ⟨rfl, rfl⟩)
              all_goals (go_returns; exact ⟨by rw [HN.out]; exact ⟨_, _, .inl rfl, rfl⟩, HBW.out⟩)
            · clear hT cm hac
              go_wp2_with (go_at_call 60; (with_reducible refine (HLW.out _).mono ?_); rintro e w' ⟨rfl, rfl⟩)
              all_goals (go_returns; exact ⟨by rw [HN.out]; exact ⟨_, _, .inl rfl, rfl⟩, HBW.out⟩)
        · have HN : Hid (numM 8 18446744073709551615 0 s.data.toList = none) := Lib.hid (by rw [hT, if_neg (fun h => cd h.1)])
          clear hT hac
          go_wp2_with (go_at_call 60; (with_reducible refine (HLW.out _).mono ?_); rintro e w' ⟨rfl, rfl⟩)
          all_goals (go_returns; exact ⟨by rw [HN.out]; exact ⟨_, _, .inr rfl, rfl⟩, HBW.out⟩)
    · have HN : Hid (numM 8 18446744073709551615 0 s.data.toList = some acc) := Lib.hid (by rw [hdec, List.drop_of_length_le (by rw [szl]; omega)]; rfl)
      subst hac
      clear hdec
      go_wp2
      go_returns
      exact ⟨by rw [HN.out]; rfl, HBW.out⟩
end Go.Proofs.YteplbbjmbhgllaaGreatDoor

namespace Go.Proofs.YteplbbjmbhgllaaGreatDoor
open Go.RowKit
set_option linter.unusedVariables false
set_option linter.unusedSimpArgs false

set_option maxRecDepth 100000 in
set_option maxHeartbeats 8000000 in
theorem parse16b_any (s : ByteArray) (hs : s.size ≤ 1048576) (h0 : 0 < s.size) (w : World) : Calls Tryz.prog 44 #[.string s, .int .i64 16, .int .i64 8] w fun e w' => PuP (numM 16 255 0 s.data.toList) e ∧ Below w.heap.size w w' := by
  skip
  have hne : (s.toList == []) = false := by rw [empty_iff]; exact decide_eq_false (by omega)
  have hcv := Lib.run_convert_string_bytes (P := Tryz.prog) w 9 34 5 s (u := .string) Tryz.underlying9 Tryz.underlying34 Tryz.underlying5
  have hB := Lib.hid (fun j (hj : j < s.size) => Lib.bytesWorld_cell w 5 s j hj)
  have HBW := Lib.hid (Lib.bytesWorld_below w 5 s)
  obtain ⟨W1, hW1⟩ : ∃ W1, W1 = Lib.bytesWorld w 5 s := ⟨_, rfl⟩
  rw [← hW1] at hcv hB HBW
  clear hW1
  have hmv : IntKind.u64.wrap (IntKind.u64.wrap 256 - 1) = 255 := by decide
  go_enter Tryz.func44, Tryz.ntmps44
  go_wp2
  go_loop [12, 13, 101] (fun vu vn vi => ∃ (k acc : Nat) (a : Int), vu = .bool false ∧ vn = .int .u64 a ∧ vi = .int .i64 k ∧ k ≤ s.size ∧ 0 ≤ a ∧ a ≤ 255 ∧ Hid (a = (acc : Int) ∧ numM 16 255 0 s.data.toList = numM 16 255 acc (s.data.toList.drop k))) (fun _ _ vi => s.size - (intOf vi).toNat)
  case atStart => exact ⟨0, 0, 0, rfl, rfl, rfl, by omega, by omega, by omega, Lib.hid ⟨rfl, by rw [List.drop_zero]⟩⟩
  case round =>
    obtain ⟨k, acc, a, rfl, rfl, rfl, hk, ha0, haM, HI⟩ := hrel
    obtain ⟨hac, hdec⟩ := HI.out
    clear HI
    by_cases hlt : k < s.size
    · have hc : W1.cell? ⟨w.heap.size, k, none⟩ = some (.int .u8 ((byteN s.data.toList k : Nat) : Int)) := hB.out k hlt
      have hx := byteN_lt s.data.toList k
      have HT := hdec.trans (numM_step (base := 16) (by omega) (by rw [szl]; exact hlt))
      have HLW := Lib.hid (fun W => lower_any (byteN s.data.toList k) hx W)
      have hlw := lowN_cases _ hx
      generalize byteN s.data.toList k = x at hc hx HT HLW hlw
      obtain ⟨l1, l2, l3, l4⟩ := hlw
      clear hdec
      have HTT := Lib.hid HT
      have HAC := Lib.hid hac
      clear HT hac
      go_upto_block 5 with (fail)
      go_cut [12, 16] from 105 to 133 (fun u t wx => ∃ d : Nat, u = .bool false ∧ t = .int .u8 d ∧ d < 36 ∧ Hid (alN x = some d) ∧ W1 = wx)
      case first =>
        clear hc haM ha0
        by_cases c1 : 48 ≤ x ∧ x ≤ 57
        · have hal : Hid (alN x = some (x - 48)) := Lib.hid (by unfold alN; rw [if_pos c1])
          clear l1 l2 l3 l4
          obtain ⟨c1a, c1b⟩ := c1
          have d95 : ((x : Int) == 95) = false := by simp; omega
          go_wp2_with (go_at_call 60; (with_reducible refine (HLW.out _).mono ?_); rintro e w' ⟨rfl, rfl⟩)
          go_meet
          exact ⟨x - 48, rfl, by congr 1; omega, by omega, hal, rfl⟩
        · by_cases c2 : 65 ≤ x ∧ x ≤ 90
          · have hal : Hid (alN x = some (x - 55)) := Lib.hid (by unfold alN; rw [if_neg c1, if_pos c2])
            have e1 := l1 c2
            rw [e1] at HLW
            push_cast at HLW
            clear l1 l2 l3 l4 e1 c1
            obtain ⟨c2a, c2b⟩ := c2
            have d95 : ((x : Int) == 95) = false := by simp; omega
            go_wp2_with (go_at_call 60; (with_reducible refine (HLW.out _).mono ?_); rintro e w' ⟨rfl, rfl⟩)
            go_meet
            exact ⟨x - 55, rfl, by congr 1; omega, by omega, hal, rfl⟩
          · by_cases c3 : 97 ≤ x ∧ x ≤ 122
            · have hal : Hid (alN x = some (x - 87)) := Lib.hid (by unfold alN; rw [if_neg c1, if_neg c2, if_pos c3])
              have e1 := l2 c3
              rw [e1] at HLW
              clear l1 l2 l3 l4 e1 c1 c2
              obtain ⟨c3a, c3b⟩ := c3
              have d95 : ((x : Int) == 95) = false := by simp; omega
              go_wp2_with (go_at_call 60; (with_reducible refine (HLW.out _).mono ?_); rintro e w' ⟨rfl, rfl⟩)
              go_meet
              exact ⟨x - 87, rfl, by congr 1; omega, by omega, hal, rfl⟩
            · have hal0 : alN x = none := by unfold alN; rw [if_neg c1, if_neg c2, if_neg c3]
              have HN : Hid (numM 16 255 0 s.data.toList = none) := Lib.hid (by rw [HTT.out, hal0])
              clear hal0
              have hll := l4 c2 c3
              have hlo := lowN_low x hx
              generalize lowN x = y at HLW hll l3 hlo
              clear l1 l2 c2 c3 HTT HAC
              by_cases hx48 : x < 48
              · have hy := hlo.1 hx48
                have d95 : ((x : Int) == 95) = false := by simp; omega
                clear hll c1 hlo
                go_wp2_with (go_at_call 60; (with_reducible refine (HLW.out _).mono ?_); rintro e w' ⟨rfl, rfl⟩)
                all_goals (go_returns; exact ⟨by rw [HN.out]; exact ⟨_, _, .inr rfl, rfl⟩, HBW.out⟩)
              · have hx57 : 57 < x := by omega
                by_cases h95 : x = 95
                · have hy := hlo.2 h95
                  have d95 : ((x : Int) == 95) = true := by simp [h95]
                  have hy2 : 122 < y := by omega
                  clear hll c1 hlo h95 hy
                  go_wp2_with (go_at_call 60; (with_reducible refine (HLW.out _).mono ?_); rintro e w' ⟨rfl, rfl⟩)
                  all_goals (go_returns; exact ⟨by rw [HN.out]; exact ⟨_, _, .inr rfl, rfl⟩, HBW.out⟩)
                · have d95 : ((x : Int) == 95) = false := by simp; omega
                  clear c1 hlo h95
                  rcases hll with hll | hll
                  · skip
                    go_wp2_with (go_at_call 60; (with_reducible refine (HLW.out _).mono ?_); rintro e w' ⟨rfl, rfl⟩)
                    all_goals (go_returns; exact ⟨by rw [HN.out]; exact ⟨_, _, .inr rfl, rfl⟩, HBW.out⟩)
                  · skip
                    go_wp2_with (go_at_call 60; (with_reducible refine (HLW.out _).mono ?_); rintro e w' ⟨rfl, rfl⟩)
                    all_goals (go_returns; exact ⟨by rw [HN.out]; exact ⟨_, _, .inr rfl, rfl⟩, HBW.out⟩)
      case rest =>
        obtain ⟨d, rfl, rfl, hd36, HD, rfl⟩ := hcut
        have hT := HTT.out
        have hac := HAC.out
        rw [HD.out] at hT
        dsimp only at hT
        clear hc HTT HAC HLW l1 l2 l3 l4 HD
        by_cases cd : d < 16
        · by_cases cm : acc * 16 + d ≤ 255
          · have HN : Hid (numM 16 255 0 s.data.toList = numM 16 255 (acc * 16 + d) (s.data.toList.drop (k + 1))) := Lib.hid (by rw [hT, if_pos ⟨cd, cm⟩])
            have icut : a < 1152921504606846976 := by omega
            have iov : a * 16 + (d : Int) ≤ 255 := by omega
            have HA2 : Hid (a * 16 + (d : Int) = ((acc * 16 + d : Nat) : Int)) := Lib.hid (by omega)
            clear hT cm hac
            go_wp2
            go_round
            case rel => exact ⟨k + 1, acc * 16 + d, a * 16 + (d : Int), rfl, (by first | rfl | (congr 1; omega)), (by first | rfl | (congr 1; omega)), by omega, by omega, by omega, Lib.hid ⟨HA2.out, HN.out⟩⟩
            case measure => simp [intOf]; omega
          · have HN : Hid (numM 16 255 0 s.data.toList = none) := Lib.hid (by rw [hT, if_neg (fun h => cm h.2)])
            by_cases hcut : a < 1152921504606846976
            · have iov : 255 < a * 16 + (d : Int) := by omega
              clear hT cm hac
              go_wp2_with (go_at_call 60; (with_reducible refine (HLW.out _).mono ?_); rintro e w' ⟨rfl, rfl⟩)
              all_goals (go_returns; exact ⟨by rw [HN.out]; exact ⟨_, _, .inl rfl, rfl⟩, HBW.out⟩)
            · clear hT cm hac
              go_wp2_with (go_at_call 60; (with_reducible refine (HLW.out _).mono ?_); rintro e w' ⟨rfl, rfl⟩)
              all_goals (go_returns; exact ⟨by rw [HN.out]; exact ⟨_, _, .inl rfl, rfl⟩, HBW.out⟩)
        · have HN : Hid (numM 16 255 0 s.data.toList = none) := Lib.hid (by rw [hT, if_neg (fun h => cd h.1)])
          clear hT hac
          go_wp2_with (go_at_call 60; (with_reducible refine (HLW.out _).mono ?_); rintro e w' ⟨rfl, rfl⟩)
          all_goals (go_returns; exact ⟨by rw [HN.out]; exact ⟨_, _, .inr rfl, rfl⟩, HBW.out⟩)
    · have HN : Hid (numM 16 255 0 s.data.toList = some acc) := Lib.hid (by rw [hdec, List.drop_of_length_le (by rw [szl]; omega)]; rfl)
      subst hac
      clear hdec
      go_wp2
      go_returns
      exact ⟨by rw [HN.out]; rfl, HBW.out⟩
end Go.Proofs.YteplbbjmbhgllaaGreatDoor
