/-
  A whole number's value, as the reference's loops find it: the tail first, from the end; then the base; then the digits.
  The reference's whole: a whole number's value.
-/
import Derived.Test.YteplbbjmbhgllaaGreatDoorLexM05
import Derived.Deep.CutBlock
namespace Go.Proofs.YteplbbjmbhgllaaGreatDoor
open Go.RowKit Lx
set_option linter.unusedVariables false
set_option linter.unusedSimpArgs false

theorem isU_yes {x : UInt8} (h : x.toNat = 117 ∨ x.toNat = 85) : isU x = true ∧ isTail x = true := by
  unfold isU isTail; rcases h with h | h <;> rw [h] <;> decide
theorem isU_no {x : UInt8} (h : x.toNat = 108 ∨ x.toNat = 76) : isU x = false ∧ isTail x = true := by
  unfold isU isTail; rcases h with h | h <;> rw [h] <;> decide
theorem isTail_no {x : UInt8} (h1 : x.toNat ≠ 117) (h2 : x.toNat ≠ 85) (h3 : x.toNat ≠ 108) (h4 : x.toNat ≠ 76) : isTail x = false := by
  unfold isTail; simp [h1, h2, h3, h4]
def TailOK (l : List UInt8) (k u c : Nat) : Prop := k ≤ l.length ∧ (∀ b ∈ l.drop k, isTail b = true) ∧ u = ((l.drop k).filter isU).length ∧ c = ((l.drop k).filter fun b => !isU b).length
theorem TailOK.start (l : List UInt8) : TailOK l l.length 0 0 := by
  refine ⟨Nat.le_refl _, ?_, ?_, ?_⟩ <;> simp
theorem TailOK.stepU {l : List UInt8} {k u c : Nat} (h : TailOK l (k + 1) u c) (hb : byteN l k = 117 ∨ byteN l k = 85) : TailOK l k (u + 1) c := by
  obtain ⟨h1, h2, h3, h4⟩ := h
  have hk : k < l.length := h1
  obtain ⟨hU, hT⟩ := isU_yes hb
  refine ⟨by omega, ?_, ?_, ?_⟩
  · rw [drop_byte hk]; intro b hm
    rcases List.mem_cons.1 hm with e | e
    · rw [e]; exact hT
    · exact h2 b e
  · rw [drop_byte hk, List.filter_cons_of_pos hU, h3]; simp
  · rw [drop_byte hk, List.filter_cons_of_neg (by simp only [hU]; decide), h4]
theorem TailOK.stepL {l : List UInt8} {k u c : Nat} (h : TailOK l (k + 1) u c) (hb : byteN l k = 108 ∨ byteN l k = 76) : TailOK l k u (c + 1) := by
  obtain ⟨h1, h2, h3, h4⟩ := h
  have hk : k < l.length := h1
  obtain ⟨hU, hT⟩ := isU_no hb
  refine ⟨by omega, ?_, ?_, ?_⟩
  · rw [drop_byte hk]; intro b hm
    rcases List.mem_cons.1 hm with e | e
    · rw [e]; exact hT
    · exact h2 b e
  · rw [drop_byte hk, List.filter_cons_of_neg (by simp only [hU]; decide), h3]
  · rw [drop_byte hk, List.filter_cons_of_pos (by simp only [hU]; decide), h4]; simp
theorem TailOK.le {l : List UInt8} {k u c : Nat} (h : TailOK l k u c) : u + c + k = l.length := by
  obtain ⟨h1, h2, h3, h4⟩ := h
  have : ∀ m : List UInt8, (m.filter isU).length + (m.filter fun b => !isU b).length = m.length := by
    intro m
    induction m with
    | nil => rfl
    | cons b m ih => cases hb : isU b <;> simp [List.filter_cons, hb] <;> omega
  have h5 := this (l.drop k)
  rw [List.length_drop] at h5
  omega
def baseB (b : List UInt8) : Nat := if 1 < b.length ∧ byteN b 0 = 48 then (if byteN b 1 = 120 ∨ byteN b 1 = 88 then 16 else 8) else 10
def fromB (b : List UInt8) : Nat := if 1 < b.length ∧ byteN b 0 = 48 then (if byteN b 1 = 120 ∨ byteN b 1 = 88 then 2 else 1) else 0
def wholeB (b : List UInt8) (u c : Nat) : Option Nat := if 1 < u ∨ 1 < c ∨ b.length ≤ fromB b then none else numB (baseB b) 0 (b.drop (fromB b))
theorem takeWhile_rev {l : List UInt8} {k : Nat} (hk : k ≤ l.length) (h : ∀ b ∈ l.drop k, isTail b = true) (h0 : k = 0 ∨ isTail (l.getD (k - 1) 0) = false) :
    l.reverse.takeWhile isTail = (l.drop k).reverse ∧ l.reverse.dropWhile isTail = (l.take k).reverse := by
  have e : l.reverse = (l.drop k).reverse ++ (l.take k).reverse := by rw [← List.reverse_append, List.take_append_drop]
  have ha : ∀ b ∈ (l.drop k).reverse, isTail b = true := fun b hb => h b (List.mem_reverse.1 hb)
  have hs : (l.take k).reverse.takeWhile isTail = [] ∧ (l.take k).reverse.dropWhile isTail = (l.take k).reverse := by
    rcases h0 with rfl | h0
    · simp
    · by_cases hz : k = 0
      · subst hz; simp
      · obtain ⟨j, rfl⟩ : ∃ j, k = j + 1 := ⟨k - 1, by omega⟩
        have : l.take (j + 1) = l.take j ++ [l.getD j 0] := by
          rw [List.take_add_one, List.getD_eq_getElem?_getD, List.getElem?_eq_getElem (by omega)]; rfl
        rw [this, List.reverse_append]
        simp only [Nat.add_sub_cancel] at h0
        simp only [List.reverse_cons, List.reverse_nil, List.nil_append, List.singleton_append, List.takeWhile_cons, List.dropWhile_cons, h0]
        exact ⟨rfl, rfl⟩
  rw [e, List.takeWhile_append_of_pos ha, List.dropWhile_append_of_pos ha, hs.1, hs.2]
  simp
theorem wholeL_B {l : List UInt8} {k u c : Nat} (h : TailOK l k u c) (h0 : k = 0 ∨ isTail (l.getD (k - 1) 0) = false) : wholeL l = wholeB (l.take k) u c := by
  obtain ⟨h1, h2, h3, h4⟩ := h
  obtain ⟨e1, e2⟩ := takeWhile_rev h1 h2 h0
  unfold wholeL
  simp only [e1, e2, List.filter_reverse, List.length_reverse, List.reverse_reverse, ← h3, ← h4]
  unfold wholeB
  by_cases hu : 1 < u ∨ 1 < c
  · rw [if_pos hu, if_pos (by omega)]
  · rw [if_neg hu]
    generalize l.take k = b
    match b with
    | [] => simp [fromB]
    | [x] => simp [fromB, baseB]; omega
    | x :: y :: r =>
      have b0 : byteN (x :: y :: r) 0 = x.toNat := rfl
      have b1 : byteN (x :: y :: r) 1 = y.toNat := rfl
      simp only [fromB, baseB, b0, b1]
      by_cases hx : x.toNat = 48
      · rw [if_pos hx]
        by_cases hy : y.toNat = 120 ∨ y.toNat = 88
        · rw [if_pos hy]
          cases r with
          | nil => simp [hx, hy]
          | cons z r => simp [hx, hy, hu]
        · rw [if_neg hy]; simp [hx, hy, hu]
      · rw [if_neg hx]; simp [hx, hu]
end Go.Proofs.YteplbbjmbhgllaaGreatDoor

namespace Go.Proofs.YteplbbjmbhgllaaGreatDoor
open Go.RowKit
set_option linter.unusedVariables false
set_option linter.unusedSimpArgs false

def szV : Value → Nat
  | .string s => s.size
  | _ => 0
def wholeV : Option Nat → Value
  | some n => .tuple #[.int .u64 (n : Int), .bool true]
  | none => .tuple #[.int .u64 0, .bool false]
theorem extract_take {b : ByteArray} {l : List UInt8} {k : Nat} (h : b.data.toList = l.take k) (j : Nat) (hj : j ≤ k) : (b.extract 0 j).data.toList = l.take j := by
  rw [Lib.extract_data, h, List.drop_zero, Nat.sub_zero, List.take_take, Nat.min_eq_left hj]
theorem size_of_take {b : ByteArray} {l : List UInt8} {k : Nat} (h : b.data.toList = l.take k) (hk : k ≤ l.length) : b.size = k := by
  rw [← szl, h, List.length_take]; omega
theorem byteN_take {l : List UInt8} {k j : Nat} (hj : j < k) : byteN (l.take k) j = byteN l j := by
  unfold byteN; rw [List.getD_eq_getElem?_getD, List.getD_eq_getElem?_getD, List.getElem?_take, if_pos hj]
theorem baseB_or (l : List UInt8) : (baseB l = 8 ∨ baseB l = 10 ∨ baseB l = 16) ∧ fromB l ≤ 2 := by
  unfold baseB fromB; split <;> (try split) <;> omega
/-- A digit more. -/
theorem numB_step {K a k : Nat} {l : List UInt8} (hk : k < l.length) : Lx.numB K a (l.drop k) = if 0 ≤ hexI (byteN l k) ∧ hexI (byteN l k) < K ∧ (a * K : Nat) + hexI (byteN l k) < 18446744073709551616 then Lx.numB K (a * K + (hexI (byteN l k)).toNat) (l.drop (k + 1)) else none := by
  rw [drop_byte hk, Lx.numB]
  have e : (l.getD k 0).toNat = byteN l k := rfl
  rw [e]
  unfold hexI
  cases h : Lx.hexV (byteN l k) with
  | none => simp
  | some d =>
    simp only [Int.toNat_natCast]
    by_cases c : d < K ∧ a * K + d < 18446744073709551616
    · rw [if_pos c, if_pos (by omega)]
    · rw [if_neg c, if_neg (by omega)]
set_option maxRecDepth 100000 in
set_option maxHeartbeats 4000000 in
theorem rwhole_any (s : ByteArray) (hs : s.size ≤ 1048576) (w : World) : Calls Tryz.prog 57 #[.string s] w fun e w' => e = .returned (wholeV (Lx.wholeL s.data.toList)) ∧ w = w' := by
  go_enter Tryz.func57, Tryz.ntmps57
  go_upto_block 0 with (fail)
  go_cut [0, 4, 5] (fun t u c wx => ∃ (b : ByteArray) (m n : Nat), t = .string b ∧ u = .int .i64 m ∧ c = .int .i64 n ∧ m ≤ s.size ∧ n ≤ s.size ∧ b.size ≤ s.size ∧ Hid (Lx.wholeL s.data.toList = wholeB b.data.toList m n) ∧ w = wx)
  case first =>
    go_wp2
    go_loop [0, 4, 5] (fun t u c => ∃ (b : ByteArray) (m n : Nat), t = .string b ∧ u = .int .i64 m ∧ c = .int .i64 n ∧ m ≤ s.size ∧ n ≤ s.size ∧ b.size ≤ s.size ∧ m + n + b.size = s.size ∧ Hid (b.data.toList = s.data.toList.take b.size ∧ TailOK s.data.toList b.size m n)) (fun t _ _ => szV t)
    case atStart => exact ⟨s, 0, 0, rfl, rfl, rfl, by omega, by omega, by omega, by omega, Lib.hid ⟨by rw [List.take_of_length_le (by rw [szl]; exact Nat.le_refl _)], by have := TailOK.start s.data.toList; rwa [szl] at this⟩⟩
    case round =>
      obtain ⟨b, m, n, rfl, rfl, rfl, hm, hn, hb, hmn, HT⟩ := hrel
      by_cases h0 : 0 < b.size
      · obtain ⟨k, hk⟩ : ∃ k, b.size = k + 1 := ⟨b.size - 1, by omega⟩
        have hix := fun W => idx_s (P := Tryz.prog) 9 Tryz.underlying9 b .i64 (k : Int) k rfl (by omega) W
        have HX : Hid (byteN b.data.toList k = byteN s.data.toList k) := Lib.hid (by rw [HT.out.1, byteN_take (by omega)])
        have hx := byteN_lt b.data.toList k
        obtain ⟨x, ex⟩ : ∃ x, byteN b.data.toList k = x := ⟨_, rfl⟩
        rw [ex] at hix HX hx
        clear ex
        have HZ : Hid ((b.extract 0 k).size = k ∧ (b.extract 0 k).data.toList = s.data.toList.take k) := Lib.hid (by
          have e := extract_take HT.out.1 k (by omega)
          exact ⟨size_of_take e (by rw [szl]; omega), e⟩)
        by_cases h1 : x = 117 ∨ x = 85
        · have HS : Hid (TailOK s.data.toList k (m + 1) n) := Lib.hid (TailOK.stepU (by rw [← hk]; exact HT.out.2) (by rw [← HX.out]; exact h1))
          clear HT HX
          rcases h1 with rfl | rfl
          all_goals (
            go_wp2
            go_round
            case rel => exact ⟨_, m + 1, n, by first | rfl | (rw [hk]; rfl), by go_num, rfl, by omega, by omega, by rw [HZ.out.1]; omega, by rw [HZ.out.1]; omega, Lib.hid (by rw [HZ.out.1]; exact ⟨HZ.out.2, HS.out⟩)⟩
            case measure => simp [szV]; omega)
        · by_cases h2 : x = 108 ∨ x = 76
          · have HS : Hid (TailOK s.data.toList k m (n + 1)) := Lib.hid (TailOK.stepL (by rw [← hk]; exact HT.out.2) (by rw [← HX.out]; exact h2))
            clear HT HX h1
            rcases h2 with rfl | rfl
            all_goals (
              go_wp2
              go_round
              case rel => exact ⟨_, m, n + 1, by first | rfl | (rw [hk]; rfl), rfl, by go_num, by omega, by omega, by rw [HZ.out.1]; omega, by rw [HZ.out.1]; omega, Lib.hid (by rw [HZ.out.1]; exact ⟨HZ.out.2, HS.out⟩)⟩
              case measure => simp [szV]; omega)
          · have HF : Hid (Lx.wholeL s.data.toList = wholeB b.data.toList m n) := Lib.hid (by
              rw [HT.out.1]
              refine wholeL_B HT.out.2 (.inr ?_)
              have hx' := HX.out
              unfold byteN at hx'
              rw [hk, Nat.add_sub_cancel]
              exact isTail_no (by omega) (by omega) (by omega) (by omega))
            have d1 : ((x : Int) == 117) = false := by simp; omega
            have d2 : ((x : Int) == 85) = false := by simp; omega
            have d3 : ((x : Int) == 108) = false := by simp; omega
            have d4 : ((x : Int) == 76) = false := by simp; omega
            clear HT HX h1 h2 HZ
            go_wp2
            go_meet
            exact ⟨b, m, n, rfl, rfl, rfl, hm, hn, by omega, HF, rfl⟩
      · have HF : Hid (Lx.wholeL s.data.toList = wholeB b.data.toList m n) := Lib.hid (by
          rw [HT.out.1]
          exact wholeL_B HT.out.2 (.inl (by omega)))
        clear HT
        go_wp2
        go_meet
        exact ⟨b, m, n, rfl, rfl, rfl, hm, hn, by omega, HF, rfl⟩
  case rest =>
    obtain ⟨b, m, n, rfl, rfl, rfl, hm, hn, hb, HF, rfl⟩ := hcut
    go_upto_region 10 with (fail)
    go_cut [48] from 41 to 47 (fun t wx => ∃ q : Bool, t = .bool q ∧ Hid (q = decide (1 < b.size ∧ byteN b.data.toList 0 = 48)) ∧ w = wx)
    case first =>
      clear HF
      by_cases c1 : 1 < b.size
      · have hix := fun W => idx_s (P := Tryz.prog) 9 Tryz.underlying9 b .i64 0 0 rfl (by omega) W
        obtain ⟨x, ex⟩ : ∃ x, byteN b.data.toList 0 = x := ⟨_, rfl⟩
        rw [ex] at hix
        have EX := Lib.hid ex
        clear ex
        by_cases c2 : x = 48
        · subst c2
          go_wp2
          go_meet
          exact ⟨_, rfl, Lib.hid (by simp [c1, EX.out]), rfl⟩
        · have d2 : ((x : Int) == 48) = false := by simp; omega
          go_wp2
          go_meet
          exact ⟨_, rfl, Lib.hid (by simp [c2, EX.out]), rfl⟩
      · go_wp2
        go_meet
        exact ⟨_, rfl, Lib.hid (by simp [c1]), rfl⟩
    case rest =>
    obtain ⟨q, rfl, HQ, rfl⟩ := hcut
    go_upto_if 48 with (fail)
    go_cut [7, 8] from 49 to 56 (fun x y wx => x = .int .i64 (baseB b.data.toList : Nat) ∧ y = .int .i64 (fromB b.data.toList : Nat) ∧ w = wx)
    case first =>
      clear HF
      have HB : Hid (baseB b.data.toList = if 1 < b.size ∧ byteN b.data.toList 0 = 48 then (if byteN b.data.toList 1 = 120 ∨ byteN b.data.toList 1 = 88 then 16 else 8) else 10) := Lib.hid (by unfold baseB; rw [szl])
      have HG : Hid (fromB b.data.toList = if 1 < b.size ∧ byteN b.data.toList 0 = 48 then (if byteN b.data.toList 1 = 120 ∨ byteN b.data.toList 1 = 88 then 2 else 1) else 0) := Lib.hid (by unfold fromB; rw [szl])
      by_cases c1 : 1 < b.size ∧ byteN b.data.toList 0 = 48
      · obtain rfl : q = true := HQ.out.trans (decide_eq_true c1)
        have hb1 := c1.1
        have hiy := fun W => idx_s (P := Tryz.prog) 9 Tryz.underlying9 b .i64 1 1 rfl (by omega) W
        rw [if_pos c1] at HB HG
        clear c1 HQ
        generalize byteN b.data.toList 1 = y at hiy HB HG
        by_cases c3 : y = 120
        · subst c3
          go_wp2
          go_meet
          exact ⟨by rw [HB.out]; simp, by rw [HG.out]; simp, rfl⟩
        · have d3 : ((y : Int) == 120) = false := by simp; omega
          by_cases c4 : y = 88
          · subst c4
            go_wp2
            go_meet
            exact ⟨by rw [HB.out]; simp, by rw [HG.out]; simp, rfl⟩
          · have d4 : ((y : Int) == 88) = false := by simp; omega
            go_wp2
            go_meet
            exact ⟨by rw [HB.out]; simp [c3, c4], by rw [HG.out]; simp [c3, c4], rfl⟩
      · obtain rfl : q = false := HQ.out.trans (decide_eq_false c1)
        rw [if_neg c1] at HB HG
        clear c1 HQ
        go_wp2
        go_meet
        exact ⟨by rw [HB.out]; rfl, by rw [HG.out]; rfl, rfl⟩
    case rest =>
      obtain ⟨rfl, rfl, rfl⟩ := hcut
      obtain ⟨hK, hF2⟩ := baseB_or b.data.toList
      have HW : Hid (wholeB b.data.toList m n = if 1 < m ∨ 1 < n ∨ b.size ≤ fromB b.data.toList then none else Lx.numB (baseB b.data.toList) 0 (b.data.toList.drop (fromB b.data.toList))) := Lib.hid (by unfold wholeB; rw [szl])
      generalize fromB b.data.toList = F at HW hF2
      by_cases c1 : 1 < m
      · go_wp2
        go_returns
        exact ⟨by rw [HF.out, HW.out, if_pos (.inl c1)]; rfl, rfl⟩
      by_cases c2 : 1 < n
      · go_wp2
        go_returns
        exact ⟨by rw [HF.out, HW.out, if_pos (.inr (.inl c2))]; rfl, rfl⟩
      by_cases c3 : b.size ≤ F
      · go_wp2
        go_returns
        exact ⟨by rw [HF.out, HW.out, if_pos (.inr (.inr c3))]; rfl, rfl⟩
      have HR : Hid (Lx.wholeL s.data.toList = Lx.numB (baseB b.data.toList) 0 (b.data.toList.drop F)) := Lib.hid (by rw [HF.out, HW.out, if_neg (by omega)])
      clear HW HF
      generalize baseB b.data.toList = K at HR hK
      rcases hK with rfl | rfl | rfl
      · skip
        go_wp2
        go_loop [9, 10] (fun v i => ∃ (a k : Nat), v = .int .u64 a ∧ i = .int .i64 k ∧ k ≤ b.size ∧ a < 18446744073709551616 ∧ Hid (Lx.wholeL s.data.toList = Lx.numB 8 a (b.data.toList.drop k))) (fun _ i => b.size - (intOf i).toNat)
        case atStart => exact ⟨0, F, rfl, rfl, by omega, by omega, HR⟩
        case round =>
          obtain ⟨a, k, rfl, rfl, hk, ha, HS⟩ := hrel
          by_cases hlt : k < b.size
          · have hix := fun W => idx_s (P := Tryz.prog) 9 Tryz.underlying9 b .i64 (k : Int) k rfl (by omega) W
            have HC := Lib.hid (fun W => rhex_any (byteN b.data.toList k) (byteN_lt _ _) W)
            have hy := hexI_le (byteN b.data.toList k)
            have HT := Lib.hid (HS.out.trans (numB_step (by rw [szl]; exact hlt)))
            generalize hexI (byteN b.data.toList k) = y at HC hy HT
            generalize byteN b.data.toList k = x at HC hix
            clear HS HR
            by_cases g : 0 ≤ y ∧ y < 8 ∧ (a * 8 : Nat) + y < 18446744073709551616
            · have HN : Hid (Lx.wholeL s.data.toList = Lx.numB 8 (a * 8 + y.toNat) (b.data.toList.drop (k + 1))) := Lib.hid (by rw [HT.out, if_pos (by exact g)])
              obtain ⟨g1, g2, g3⟩ := g
              clear HT
              go_wp2_with (go_at_call 79; (with_reducible refine (HC.out _).mono ?_); rintro e w' ⟨rfl, rfl⟩)
              go_round
              case rel => exact ⟨a * 8 + y.toNat, k + 1, by go_num, by go_num, by omega, by omega, HN⟩
              case measure => simp [intOf]; omega
            · have HN : Hid (Lx.wholeL s.data.toList = none) := Lib.hid (by rw [HT.out, if_neg (by exact g)])
              clear HT
              by_cases g1 : 0 ≤ y
              · by_cases g2 : y < 8
                · have g3 : ¬ (a * 8 : Nat) + y < 18446744073709551616 := fun h => g ⟨g1, g2, h⟩
                  clear g
                  go_wp2_with (go_at_call 79; (with_reducible refine (HC.out _).mono ?_); rintro e w' ⟨rfl, rfl⟩)
                  go_returns
                  exact ⟨by rw [HN.out]; rfl, rfl⟩
                · clear g
                  go_wp2_with (go_at_call 79; (with_reducible refine (HC.out _).mono ?_); rintro e w' ⟨rfl, rfl⟩)
                  go_returns
                  exact ⟨by rw [HN.out]; rfl, rfl⟩
              · clear g
                go_wp2_with (go_at_call 79; (with_reducible refine (HC.out _).mono ?_); rintro e w' ⟨rfl, rfl⟩)
                go_returns
                exact ⟨by rw [HN.out]; rfl, rfl⟩
          · obtain rfl : k = b.size := by omega
            have HN : Hid (Lx.wholeL s.data.toList = some a) := Lib.hid (by rw [HS.out, List.drop_of_length_le (by rw [szl]; exact Nat.le_refl _)]; rfl)
            clear HS HR
            go_wp2
            go_returns
            exact ⟨by rw [HN.out]; rfl, rfl⟩
      · skip
        go_wp2
        go_loop [9, 10] (fun v i => ∃ (a k : Nat), v = .int .u64 a ∧ i = .int .i64 k ∧ k ≤ b.size ∧ a < 18446744073709551616 ∧ Hid (Lx.wholeL s.data.toList = Lx.numB 10 a (b.data.toList.drop k))) (fun _ i => b.size - (intOf i).toNat)
        case atStart => exact ⟨0, F, rfl, rfl, by omega, by omega, HR⟩
        case round =>
          obtain ⟨a, k, rfl, rfl, hk, ha, HS⟩ := hrel
          by_cases hlt : k < b.size
          · have hix := fun W => idx_s (P := Tryz.prog) 9 Tryz.underlying9 b .i64 (k : Int) k rfl (by omega) W
            have HC := Lib.hid (fun W => rhex_any (byteN b.data.toList k) (byteN_lt _ _) W)
            have hy := hexI_le (byteN b.data.toList k)
            have HT := Lib.hid (HS.out.trans (numB_step (by rw [szl]; exact hlt)))
            generalize hexI (byteN b.data.toList k) = y at HC hy HT
            generalize byteN b.data.toList k = x at HC hix
            clear HS HR
            by_cases g : 0 ≤ y ∧ y < 10 ∧ (a * 10 : Nat) + y < 18446744073709551616
            · have HN : Hid (Lx.wholeL s.data.toList = Lx.numB 10 (a * 10 + y.toNat) (b.data.toList.drop (k + 1))) := Lib.hid (by rw [HT.out, if_pos (by exact g)])
              obtain ⟨g1, g2, g3⟩ := g
              clear HT
              go_wp2_with (go_at_call 79; (with_reducible refine (HC.out _).mono ?_); rintro e w' ⟨rfl, rfl⟩)
              go_round
              case rel => exact ⟨a * 10 + y.toNat, k + 1, by go_num, by go_num, by omega, by omega, HN⟩
              case measure => simp [intOf]; omega
            · have HN : Hid (Lx.wholeL s.data.toList = none) := Lib.hid (by rw [HT.out, if_neg (by exact g)])
              clear HT
              by_cases g1 : 0 ≤ y
              · by_cases g2 : y < 10
                · have g3 : ¬ (a * 10 : Nat) + y < 18446744073709551616 := fun h => g ⟨g1, g2, h⟩
                  clear g
                  go_wp2_with (go_at_call 79; (with_reducible refine (HC.out _).mono ?_); rintro e w' ⟨rfl, rfl⟩)
                  go_returns
                  exact ⟨by rw [HN.out]; rfl, rfl⟩
                · clear g
                  go_wp2_with (go_at_call 79; (with_reducible refine (HC.out _).mono ?_); rintro e w' ⟨rfl, rfl⟩)
                  go_returns
                  exact ⟨by rw [HN.out]; rfl, rfl⟩
              · clear g
                go_wp2_with (go_at_call 79; (with_reducible refine (HC.out _).mono ?_); rintro e w' ⟨rfl, rfl⟩)
                go_returns
                exact ⟨by rw [HN.out]; rfl, rfl⟩
          · obtain rfl : k = b.size := by omega
            have HN : Hid (Lx.wholeL s.data.toList = some a) := Lib.hid (by rw [HS.out, List.drop_of_length_le (by rw [szl]; exact Nat.le_refl _)]; rfl)
            clear HS HR
            go_wp2
            go_returns
            exact ⟨by rw [HN.out]; rfl, rfl⟩
      · skip
        go_wp2
        go_loop [9, 10] (fun v i => ∃ (a k : Nat), v = .int .u64 a ∧ i = .int .i64 k ∧ k ≤ b.size ∧ a < 18446744073709551616 ∧ Hid (Lx.wholeL s.data.toList = Lx.numB 16 a (b.data.toList.drop k))) (fun _ i => b.size - (intOf i).toNat)
        case atStart => exact ⟨0, F, rfl, rfl, by omega, by omega, HR⟩
        case round =>
          obtain ⟨a, k, rfl, rfl, hk, ha, HS⟩ := hrel
          by_cases hlt : k < b.size
          · have hix := fun W => idx_s (P := Tryz.prog) 9 Tryz.underlying9 b .i64 (k : Int) k rfl (by omega) W
            have HC := Lib.hid (fun W => rhex_any (byteN b.data.toList k) (byteN_lt _ _) W)
            have hy := hexI_le (byteN b.data.toList k)
            have HT := Lib.hid (HS.out.trans (numB_step (by rw [szl]; exact hlt)))
            generalize hexI (byteN b.data.toList k) = y at HC hy HT
            generalize byteN b.data.toList k = x at HC hix
            clear HS HR
            by_cases g : 0 ≤ y ∧ y < 16 ∧ (a * 16 : Nat) + y < 18446744073709551616
            · have HN : Hid (Lx.wholeL s.data.toList = Lx.numB 16 (a * 16 + y.toNat) (b.data.toList.drop (k + 1))) := Lib.hid (by rw [HT.out, if_pos (by exact g)])
              obtain ⟨g1, g2, g3⟩ := g
              clear HT
              go_wp2_with (go_at_call 79; (with_reducible refine (HC.out _).mono ?_); rintro e w' ⟨rfl, rfl⟩)
              go_round
              case rel => exact ⟨a * 16 + y.toNat, k + 1, by go_num, by go_num, by omega, by omega, HN⟩
              case measure => simp [intOf]; omega
            · have HN : Hid (Lx.wholeL s.data.toList = none) := Lib.hid (by rw [HT.out, if_neg (by exact g)])
              clear HT
              by_cases g1 : 0 ≤ y
              · by_cases g2 : y < 16
                · have g3 : ¬ (a * 16 : Nat) + y < 18446744073709551616 := fun h => g ⟨g1, g2, h⟩
                  clear g
                  go_wp2_with (go_at_call 79; (with_reducible refine (HC.out _).mono ?_); rintro e w' ⟨rfl, rfl⟩)
                  go_returns
                  exact ⟨by rw [HN.out]; rfl, rfl⟩
                · clear g
                  go_wp2_with (go_at_call 79; (with_reducible refine (HC.out _).mono ?_); rintro e w' ⟨rfl, rfl⟩)
                  go_returns
                  exact ⟨by rw [HN.out]; rfl, rfl⟩
              · clear g
                go_wp2_with (go_at_call 79; (with_reducible refine (HC.out _).mono ?_); rintro e w' ⟨rfl, rfl⟩)
                go_returns
                exact ⟨by rw [HN.out]; rfl, rfl⟩
          · obtain rfl : k = b.size := by omega
            have HN : Hid (Lx.wholeL s.data.toList = some a) := Lib.hid (by rw [HS.out, List.drop_of_length_le (by rw [szl]; exact Nat.le_refl _)]; rfl)
            clear HS HR
            go_wp2
            go_returns
            exact ⟨by rw [HN.out]; rfl, rfl⟩
end Go.Proofs.YteplbbjmbhgllaaGreatDoor
