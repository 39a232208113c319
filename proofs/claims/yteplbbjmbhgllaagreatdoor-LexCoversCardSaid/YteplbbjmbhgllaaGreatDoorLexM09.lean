/-
  The reference's Float: a number with a point.
  A number's token, as the reference's number finds it. No program in sight.
  The reference's Word: is a text a reserved word.
  The reference's number: a number's token.
-/
import Derived.Test.YteplbbjmbhgllaaGreatDoorLexM06
import Derived.Test.YteplbbjmbhgllaaGreatDoorLexF1
import Derived.Test.YteplbbjmbhgllaaGreatDoorLexM05
namespace Go.Proofs.YteplbbjmbhgllaaGreatDoor
open Go.RowKit
set_option linter.unusedVariables false
set_option linter.unusedSimpArgs false

theorem hexI_dig {x : Nat} (h : Lx.isDig x = true) : 48 ≤ x ∧ x ≤ 57 ∧ hexI x = (x : Int) - 48 := by
  unfold Lx.isDig at h
  simp at h
  refine ⟨h.1, h.2, ?_⟩
  unfold hexI Lx.hexV
  rw [if_pos ⟨h.1, h.2⟩]
  dsimp only; omega
theorem hexI_nodig {x : Nat} (h : Lx.isDig x = false) : ¬ (0 ≤ hexI x ∧ hexI x < 10) := by
  have h' : ¬ (48 ≤ x ∧ x ≤ 57) := fun c => by unfold Lx.isDig at h; simp at h; omega
  unfold hexI Lx.hexV
  rw [if_neg h']
  split
  · rename_i d hd
    split at hd
    · injection hd with hd; omega
    · split at hd
      · injection hd with hd; omega
      · cases hd
  · omega
theorem nearest_dblN (n : Nat) : floatOfInt .f64 (n : Int) = Lx.dblN n := by
  show FloatKind.nearest .f64 (n : Int) = Lx.dblN n
  have h : decide ((n : Int) < 0) = false := decide_eq_false (by omega)
  unfold FloatKind.nearest FloatKind.encode Lx.dblN
  rw [h]
  rfl
theorem pow10_le {k : Nat} (h : k ≤ 15) : 10 ^ k ≤ 1000000000000000 := by
  have h2 : (10 : Nat) ^ k ≤ 10 ^ 15 := Nat.pow_le_pow_right (by omega) h
  have h3 : (10 : Nat) ^ 15 = 1000000000000000 := by decide
  omega
set_option maxRecDepth 100000 in
set_option maxHeartbeats 4000000 in
theorem rfloat_any (s : ByteArray) (hs : s.size ≤ 1048576) (p : Nat) (hp : p ≤ 1048576) (w : World) : Calls Tryz.prog 58 #[.string s, .int .i64 p] w fun e w' => e = .returned (wholeV (Lx.flF s.data.toList p)) ∧ Below w.heap.size w w' := by
  have hA1 := cell_alloc_if
  have hA2 := frozen_alloc_if
  have hA3 := cell_set_if
  have hlen := szl s
  by_cases c : s.size < 1 ∨ 15 < s.size ∨ 15 < p
  · have HV : Hid (Lx.flF s.data.toList p = none) := Lib.hid (by unfold Lx.flF; rw [hlen, if_pos c])
    clear hlen
    by_cases c1 : s.size < 1
    · clear c
      go_enter Tryz.func58, Tryz.ntmps58
      go_wp2
      go_returns
      exact ⟨by rw [HV.out]; rfl, Below.refl _ _⟩
    by_cases c2 : 15 < s.size
    · clear c
      go_enter Tryz.func58, Tryz.ntmps58
      go_wp2
      go_returns
      exact ⟨by rw [HV.out]; rfl, Below.refl _ _⟩
    have c3 : 15 < p := by omega
    clear c
    go_enter Tryz.func58, Tryz.ntmps58
    go_wp2
    go_returns
    exact ⟨by rw [HV.out]; rfl, Below.refl _ _⟩
  · have HF : Hid (Lx.flF s.data.toList p = (Lx.numB 10 0 s.data.toList).map fun n => Lx.quoN n p) := Lib.hid (by unfold Lx.flF; rw [hlen, if_neg c])
    have c1 : ¬ s.size < 1 := by omega
    have c2 : ¬ 15 < s.size := by omega
    have c3 : ¬ 15 < p := by omega
    clear c hlen
    go_enter Tryz.func58, Tryz.ntmps58
    go_wp2
    go_loop [6, 8] (fun n i => ∃ (a k : Nat), n = .int .i64 a ∧ i = .int .i64 k ∧ k ≤ s.size ∧ a < 10000000000000000 ∧ Hid (Lx.numB 10 0 s.data.toList = Lx.numB 10 a (s.data.toList.drop k) ∧ a < 10 ^ k)) (fun _ i => s.size - (intOf i).toNat)
    case atStart => exact ⟨0, 0, rfl, rfl, by omega, by omega, Lib.hid ⟨by rw [List.drop_zero], by decide⟩⟩
    case round =>
      obtain ⟨a, k, rfl, rfl, hk, ha, HS⟩ := hrel
      by_cases hlt : k < s.size
      · have hix := fun W => idx_s (P := Tryz.prog) 9 Tryz.underlying9 s .i64 (k : Int) k rfl (by omega) W
        have HC := Lib.hid (fun W => rdigit_any (byteN s.data.toList k) (byteN_lt _ _) W)
        have HT := Lib.hid (HS.out.1.trans (numB_step (by rw [szl]; exact hlt)))
        have ha9 : a < 1000000000000000 := Nat.lt_of_lt_of_le HS.out.2 (pow10_le (by omega))
        have HP : Hid (a < 10 ^ k) := Lib.hid HS.out.2
        clear HS
        by_cases g : Lx.isDig (byteN s.data.toList k) = true
        · obtain ⟨g1, g2, g3⟩ := hexI_dig g
          have HN : Hid (Lx.numB 10 0 s.data.toList = Lx.numB 10 (a * 10 + (byteN s.data.toList k - 48)) (s.data.toList.drop (k + 1)) ∧ a * 10 + (byteN s.data.toList k - 48) < 10 ^ (k + 1)) := Lib.hid (by
            refine ⟨?_, ?_⟩
            · rw [HT.out, g3, if_pos (by omega)]
              congr 2
              omega
            · have := HP.out
              rw [Nat.pow_succ]; omega)
          rw [g] at HC
          clear HT HP g g3
          generalize byteN s.data.toList k = x at HC hix HN g1 g2
          go_wp2_with (go_at_call 39; (with_reducible refine (HC.out _).mono ?_); rintro e w' ⟨rfl, rfl⟩)
          go_round
          case rel => exact ⟨a * 10 + (x - 48), k + 1, by go_num, by go_num, by omega, by omega, HN⟩
          case measure => simp [intOf]; omega
        · have g' : Lx.isDig (byteN s.data.toList k) = false := by simpa using g
          have HN : Hid (Lx.numB 10 0 s.data.toList = none) := Lib.hid (by
            rw [HT.out, if_neg]
            have := hexI_nodig g'
            intro h
            exact this ⟨h.1, h.2.1⟩)
          rw [g'] at HC
          clear HT HP g g'
          generalize byteN s.data.toList k = x at HC hix
          go_wp2_with (go_at_call 39; (with_reducible refine (HC.out _).mono ?_); rintro e w' ⟨rfl, rfl⟩)
          go_returns
          exact ⟨by rw [HF.out, HN.out]; rfl, Below.refl _ _⟩
      · obtain rfl : k = s.size := by omega
        have HA : Hid (Lx.numB 10 0 s.data.toList = some a) := Lib.hid (by rw [HS.out.1, List.drop_of_length_le (by rw [szl]; exact Nat.le_refl _)]; rfl)
        have ha9 : a < 2 ^ 53 := by
          have h1 := pow10_le (k := s.size) (by omega)
          have h2 := HS.out.2
          have h3 : (2 : Nat) ^ 53 = 9007199254740992 := by decide
          omega
        have HA9 := Lib.hid ha9
        clear HS ha9
        go_wp2
        go_loop [7, 9] (fun t i => ∃ (j T : Nat), t = .int .i64 T ∧ i = .int .i64 j ∧ j ≤ p ∧ T ≤ 1000000000000000 ∧ Hid (T = 10 ^ j)) (fun _ i => p - (intOf i).toNat)
        case atStart => exact ⟨0, 1, rfl, rfl, by omega, by omega, Lib.hid (by decide)⟩
        case round =>
          obtain ⟨j, T, rfl, rfl, hj, hT, HT⟩ := hrel
          by_cases hlt : j < p
          · have HN : Hid (T * 10 = 10 ^ (j + 1)) := Lib.hid (by rw [HT.out, Nat.pow_succ])
            have hT2 : T * 10 ≤ 1000000000000000 := by rw [HN.out]; exact pow10_le (by omega)
            clear HT
            go_wp2
            go_round
            case rel => exact ⟨j + 1, T * 10, by go_num, by go_num, by omega, hT2, HN⟩
            case measure => simp [intOf]; omega
          · obtain rfl : j = p := by omega
            have hcv1 := nearest_dblN a
            have hcv2 : floatOfInt .f64 (T : Int) = Lx.dblN (10 ^ j) := by rw [nearest_dblN, HT.out]
            have HD1 : Hid (∀ W, Calls Tryz.prog 81 #[.float .f64 (Lx.dblN a)] W fun e w' => e = .returned (.agg #[.int .i64 3, .int .u64 (Lx.dblN a : Nat), .int .i64 0]) ∧ Below W.heap.size W w') := Lib.hid fun W => by
              have := ref_dbl_any (Lx.dblN a) W
              rw [show canonF (Lx.dblN a) = dblV (Lx.dblN a) from if_pos (Lx.order_dblN a)] at this
              exact this
            have HD2 : Hid (∀ W, Calls Tryz.prog 81 #[.float .f64 (Lx.dblN (10 ^ j))] W fun e w' => e = .returned (.agg #[.int .i64 3, .int .u64 (Lx.dblN (10 ^ j) : Nat), .int .i64 0]) ∧ Below W.heap.size W w') := Lib.hid fun W => by
              have := ref_dbl_any (Lx.dblN (10 ^ j)) W
              rw [show canonF (Lx.dblN (10 ^ j)) = dblV (Lx.dblN (10 ^ j)) from if_pos (Lx.order_dblN _)] at this
              exact this
            have HQ : Hid (∀ W, Calls Tryz.prog 80 #[.int .i64 65, .agg #[.int .i64 3, .int .u64 (Lx.dblN a : Nat), .int .i64 0], .agg #[.int .i64 3, .int .u64 (Lx.dblN (10 ^ j) : Nat), .int .i64 0]] W fun e w' => e = .returned (.tuple #[.agg #[.int .i64 3, .int .u64 (Lx.quoN a j : Nat), .int .i64 0], .bool true]) ∧ Below W.heap.size W w') := Lib.hid fun W => reval_quo a j HA9.out (by omega) W
            have HR : Hid (Lx.flF s.data.toList j = some (Lx.quoN a j)) := Lib.hid (by rw [HF.out, HA.out]; rfl)
            clear HF HA HA9 HT
            generalize Lx.dblN a = X at hcv1 HD1 HQ
            generalize Lx.dblN (10 ^ j) = Y at hcv2 HD2 HQ
            generalize Lx.quoN a j = Q at HQ HR
            go_wp2_with (first
              | (go_at_call 81; (with_reducible refine (HD1.out _).mono ?_); rintro e w' ⟨rfl, hbl⟩; obtain ⟨hc, hf, hz⟩ := cif hbl; (try simp only [World.size_alloc, World.size_setCell, World.size_drew, World.heap_drewN] at hz))
              | (go_at_call 81; (with_reducible refine (HD2.out _).mono ?_); rintro e w' ⟨rfl, hbl⟩; obtain ⟨hc, hf, hz⟩ := cif hbl; (try simp only [World.size_alloc, World.size_setCell, World.size_drew, World.heap_drewN] at hz))
              | (go_at_call 80; (with_reducible refine (HQ.out _).mono ?_); rintro e w' ⟨rfl, hbl⟩; obtain ⟨hc, hf, hz⟩ := cif hbl; (try simp only [World.size_alloc, World.size_setCell, World.size_drew, World.heap_drewN] at hz)))
            all_goals (((try simp only [Exit.inBlock, Exit.then]); go_light; refine bodyPost_ret (by simp [results, Tryz.results58, go_sem, *, ↓IntWalk.iteOmega]; try rfl) rfl ?_); exact ⟨by rw [HR.out]; rfl, by (repeat' (first | (with_reducible exact Below.refl _ _) | (with_reducible assumption) | (with_reducible refine Below.setCell ?_ ?_ _) | (with_reducible refine Below.alloc ?_ ?_ _) | (with_reducible refine Below.drew ?_) | (with_reducible refine below_drewN ?_ _) | (with_reducible refine below_next ?_ (by with_reducible assumption)) | omega | (dsimp only; omega) | (simp only [World.size_alloc, World.size_setCell, World.size_drew, World.heap_drewN]; omega)))⟩)
end Go.Proofs.YteplbbjmbhgllaaGreatDoor

namespace Go.Proofs.YteplbbjmbhgllaaGreatDoor.Lx
open Go.Lib
set_option linter.unusedVariables false
set_option linter.unusedSimpArgs false

/-- What number answers: a kind and the bits. -/
def numL (fl : Bs → Nat → Option Nat) (t : Bs) : Option (Nat × Nat) := match wholeL t with
  | some n => some (3, n)
  | none =>
    let h := t.takeWhile fun c => decide (c.toNat ≠ 46)
    let d := (t.dropWhile fun c => decide (c.toNat ≠ 46)).drop 1
    if h.length = t.length ∨ h = [] ∨ d = [] then none else (fl (h ++ d) d.length).map fun n => (4, n)
theorem numL_whole {fl : Bs → Nat → Option Nat} {t : Bs} {n : Nat} (h : wholeL t = some n) : numL fl t = some (3, n) := by unfold numL; rw [h]
theorem tw_at {t : Bs} {i : Nat} (hi : i < t.length) (h : ∀ b ∈ t.take i, b.toNat ≠ 46) (h1 : (t.getD i 0).toNat = 46) :
    (t.takeWhile fun c => decide (c.toNat ≠ 46)) = t.take i ∧ (t.dropWhile fun c => decide (c.toNat ≠ 46)).drop 1 = t.drop (i + 1) := by
  have e : t = t.take i ++ t.getD i 0 :: t.drop (i + 1) := by rw [← drop_byte hi, List.take_append_drop]
  have ha : ∀ b ∈ t.take i, (fun c : UInt8 => decide (c.toNat ≠ 46)) b = true := fun b hb => decide_eq_true (h b hb)
  have e1 := List.takeWhile_append_of_pos (l₂ := t.getD i 0 :: t.drop (i + 1)) ha
  have e2 := List.dropWhile_append_of_pos (l₂ := t.getD i 0 :: t.drop (i + 1)) ha
  rw [← e] at e1 e2
  have hn : decide ((t.getD i 0).toNat ≠ 46) = false := by rw [h1]; decide
  rw [e1, e2, List.takeWhile_cons, List.dropWhile_cons]
  simp only [hn, Bool.false_eq_true, if_false, List.append_nil, List.drop_succ_cons, List.drop_zero, and_self]
/-- The point that is found first. -/
theorem numL_at {fl : Bs → Nat → Option Nat} {t : Bs} {i : Nat} (hw : wholeL t = none) (hi : 1 ≤ i) (hi2 : i + 1 < t.length) (h : ∀ b ∈ t.take i, b.toNat ≠ 46) (h1 : (t.getD i 0).toNat = 46) :
    numL fl t = (fl (t.take i ++ t.drop (i + 1)) (t.length - (i + 1))).map fun n => (4, n) := by
  obtain ⟨e1, e2⟩ := tw_at (by omega) h h1
  unfold numL
  rw [hw]
  dsimp only
  rw [e1, e2, if_neg, List.length_drop]
  rintro (h2 | h2 | h2)
  · rw [List.length_take] at h2; omega
  · have := congrArg List.length h2; simp only [List.length_take, List.length_nil] at this; omega
  · have := congrArg List.length h2; simp only [List.length_drop, List.length_nil] at this; omega
/-- No point, or at the end alone. -/
theorem numL_no {fl : Bs → Nat → Option Nat} {t : Bs} {i : Nat} (hw : wholeL t = none) (hi2 : t.length ≤ i + 1) (h : ∀ b ∈ t.take i, b.toNat ≠ 46) : numL fl t = none := by
  unfold numL
  rw [hw]
  dsimp only
  by_cases c : i < t.length ∧ (t.getD i 0).toNat = 46
  · obtain ⟨e1, e2⟩ := tw_at c.1 h c.2
    rw [e1, e2, if_pos]
    right; right
    exact List.drop_of_length_le (by omega)
  · rw [if_pos]
    left
    have e : t.takeWhile (fun c => decide (c.toNat ≠ 46)) = t := by
      suffices hs : ∀ b ∈ t, (fun c : UInt8 => decide (c.toNat ≠ 46)) b = true by
        have := List.takeWhile_append_of_pos (l₂ := []) hs
        simpa using this
      intro b hb
      refine decide_eq_true ?_
      by_cases hl : i < t.length
      · have e : t = t.take i ++ t.getD i 0 :: t.drop (i + 1) := by rw [← drop_byte hl, List.take_append_drop]
        rw [List.drop_of_length_le (by omega)] at e
        rw [e] at hb
        rcases List.mem_append.1 hb with hb | hb
        · exact h b hb
        · rw [List.mem_singleton] at hb
          rw [hb]
          intro h3
          exact c ⟨hl, h3⟩
      · rw [List.take_of_length_le (by omega)] at h
        exact h b hb
    rw [e]
end Go.Proofs.YteplbbjmbhgllaaGreatDoor.Lx

namespace Go.Proofs.YteplbbjmbhgllaaGreatDoor
open Go.RowKit
set_option linter.unusedVariables false
set_option linter.unusedSimpArgs false

theorem wrd_cut (s : ByteArray) (k : Nat) : ((wrdB.extract (k + 1) (k + 1 + s.size)).toList == s.toList) = decide ((wrdL.drop (k + 1)).take s.data.toList.length = s.data.toList) := by
  have e3 : s.data.toList.length = s.size := by rw [Array.length_toList]; rfl
  rw [Lib.toList_data, Lib.toList_data, Lib.extract_data, show k + 1 + s.size - (k + 1) = s.size from by omega, e3]
  rw [Bool.eq_iff_iff]
  simp
  rfl
theorem sz_len (s : ByteArray) : s.data.toList.length = s.size := by rw [Array.length_toList]; rfl
theorem getD_len (s : ByteArray) {k : Nat} (hk : k < s.size) : s[k] = s.data.toList.getD k 0 := Lib.getD_at s k hk
theorem take_succ_all {l : List UInt8} {k : Nat} {p : UInt8 → Prop} (h : ∀ b ∈ l.take k, p b) (hk : k < l.length) (hb : p (l.getD k 0)) : ∀ b ∈ l.take (k + 1), p b := fun b hm => by
  rw [List.take_add_one, List.getElem?_eq_getElem hk] at hm
  rcases List.mem_append.1 hm with h1 | h1
  · exact h b h1
  · simp at h1
    rw [h1]
    rw [List.getD_eq_getElem?_getD, List.getElem?_eq_getElem hk] at hb
    exact hb
theorem hit_no1 {s : ByteArray} {k x : Nat} (h : wrdA k = x) (hx : ¬ x = 32) : false = hitW s.data.toList k := by
  unfold hitW; rw [h, decide_eq_false hx]; rfl
theorem hit_no2 {s : ByteArray} {k : Nat} (h : ¬ k + 1 + s.size < 144) : false = hitW s.data.toList k := by
  unfold hitW; rw [sz_len, decide_eq_false h, Bool.and_false, Bool.false_and, Bool.false_and]
theorem hit_no3 {s : ByteArray} {k : Nat} (h : ((wrdB.extract (k + 1) (k + 1 + s.size)).toList == s.toList) = false) : false = hitW s.data.toList k := by
  unfold hitW; rw [← wrd_cut, h, Bool.and_false, Bool.false_and]
theorem hit_no4 {s : ByteArray} {k y : Nat} (h : wrdA (k + 1 + s.size) = y) (hy : ¬ y = 32) : false = hitW s.data.toList k := by
  unfold hitW; rw [sz_len, h, decide_eq_false hy, Bool.and_false]
theorem hit_yes {s : ByteArray} {k : Nat} (h1 : wrdA k = 32) (h2 : k + 1 + s.size < 144) (h3 : ((wrdB.extract (k + 1) (k + 1 + s.size)).toList == s.toList) = true) (h4 : wrdA (k + 1 + s.size) = 32) : true = hitW s.data.toList k := by
  unfold hitW; rw [← wrd_cut, h3, sz_len, decide_eq_true h1, decide_eq_true h2, decide_eq_true h4]; rfl
set_option maxRecDepth 100000 in
set_option maxHeartbeats 10000000 in
theorem rword_any (s : ByteArray) (hs : s.size ≤ 1048576) (w : World) : Calls Tryz.prog 40 #[.string s] w fun e w' => e = .returned (.bool (decide (s.data.toList ∈ Lx.words))) ∧ w = w' := by
  have hsz := wrdB_size
  go_enter Tryz.func40, Tryz.ntmps40
  go_wp2
  go_loop [3] (fun i => ∃ (k : Nat), k ≤ s.size ∧ i = .int .i64 k ∧ Hid (∀ b ∈ s.data.toList.take k, b.toNat ≠ 32)) (fun i => s.size - (intOf i).toNat)
  case atStart => exact ⟨0, by omega, rfl, Lib.hid (by simp)⟩
  case round =>
    obtain ⟨k, hk, rfl, HS⟩ := hrel
    by_cases hlt : k < s.size
    · have hg := getD_len s hlt
      by_cases hq : s[k].toNat = 32
      · have HN : Hid (s.data.toList ∉ Lx.words) := Lib.hid (fun hm => by
          have h1 := (words_plain _ hm).2 s[k] (by rw [hg, List.getD_eq_getElem?_getD, List.getElem?_eq_getElem (by rw [sz_len]; exact hlt)]; exact List.getElem_mem _)
          exact h1 hq)
        have hb : ((s[k].toNat : Int) == 32) = true := by simp [hq]
        clear hq hg
        go_wp2
        go_ret
        exact ⟨by rw [decide_eq_false HN.out]; rfl, rfl⟩
      · have HN : Hid (∀ b ∈ s.data.toList.take (k + 1), b.toNat ≠ 32) := Lib.hid (take_succ_all HS.out (by rw [sz_len]; exact hlt) (by rw [← hg]; exact hq))
        have hb : ((s[k].toNat : Int) == 32) = false := by simp; omega
        clear hq HS hg
        go_wp2
        go_round
        case rel => exact ⟨k + 1, by omega, by go_num, HN⟩
        case measure => simp [intOf]; omega
    · obtain rfl : k = s.size := by omega
      have HB : Hid (∀ b ∈ s.data.toList, b.toNat ≠ 32) := Lib.hid (by have := HS.out; rwa [List.take_of_length_le (by rw [sz_len]; exact Nat.le_refl _)] at this)
      clear HS
      go_wp2
      go_loop [4] (fun i => ∃ (k : Nat), k ≤ 144 ∧ i = .int .i64 k ∧ Hid (∀ i < k, hitW s.data.toList i = false)) (fun i => 144 - (intOf i).toNat)
      case atStart => exact ⟨0, by omega, rfl, Lib.hid (by simp)⟩
      case round =>
        obtain ⟨k, hk, rfl, HS⟩ := hrel
        by_cases hlt : k < 144
        · have hix := run_index_wrdB (P := Tryz.prog) w 9 .i64 k (by kernel_rfl) hlt
          have hd0 : decide ((k : Int) < 144) = true := decide_eq_true (by omega)
          go_upto_region 9 with (fail)
          go_cut [50] from 19 to 49 (fun t wx => ∃ q : Bool, t = .bool q ∧ Hid (q = hitW s.data.toList k) ∧ w = wx)
          case first =>
            clear HS HB
            by_cases hq : wrdA k = 32
            · rw [hq] at hix
              by_cases hc : k + 1 + s.size < 144
              · have hix2 := run_index_wrdB (P := Tryz.prog) w 9 .i64 (k + 1 + s.size) (by kernel_rfl) hc
                push_cast at hix2
                have HQ := Lib.hid hq
                clear hq
                have hd : decide ((k : Int) + 1 + (s.size : Int) < 144) = true := decide_eq_true (by omega)
                obtain ⟨g, hg⟩ : ∃ g, g = ((wrdB.extract (k + 1) (k + 1 + s.size)).toList == s.toList) := ⟨_, rfl⟩
                replace hg := hg.symm
                cases g
                · have HG := Lib.hid hg
                  go_wp2
                  go_meet
                  exact ⟨_, rfl, Lib.hid (hit_no3 HG.out), rfl⟩
                · have HG := Lib.hid hg
                  obtain ⟨y, ey⟩ : ∃ y, wrdA (k + 1 + s.size) = y := ⟨_, rfl⟩
                  rw [ey] at hix2
                  have EY := Lib.hid ey
                  clear ey
                  by_cases hy : y = 32
                  · subst hy
                    go_wp2
                    go_meet
                    exact ⟨_, rfl, Lib.hid (hit_yes HQ.out hc HG.out EY.out), rfl⟩
                  · have dy : ((y : Int) == 32) = false := by simp; omega
                    go_wp2
                    go_meet
                    exact ⟨_, rfl, Lib.hid (hit_no4 EY.out hy), rfl⟩
              · have HQ := Lib.hid hq
                clear hq
                have hd : decide ((k : Int) + 1 + (s.size : Int) < 144) = false := decide_eq_false (by omega)
                go_wp2
                go_meet
                exact ⟨_, rfl, Lib.hid (hit_no2 hc), rfl⟩
            · obtain ⟨x, ex⟩ : ∃ x, wrdA k = x := ⟨_, rfl⟩
              rw [ex] at hix hq
              have EX := Lib.hid ex
              clear ex
              have hq' : ((x : Int) == 32) = false := by simp; omega
              go_wp2
              go_meet
              exact ⟨_, rfl, Lib.hid (hit_no1 EX.out hq), rfl⟩
          case rest =>
            obtain ⟨q, rfl, HQ, rfl⟩ := hcut
            clear hix
            cases q
            · have HN : Hid (∀ i < k + 1, hitW s.data.toList i = false) := Lib.hid fun i hi => by
                by_cases c : i = k
                · rw [c]; exact HQ.out.symm
                · exact HS.out i (by omega)
              clear HS HQ
              go_wp2
              go_round
              case rel => exact ⟨k + 1, by omega, by go_num, HN⟩
              case measure => simp [intOf]; omega
            · have HM : Hid (s.data.toList ∈ Lx.words) := Lib.hid (hit_words HB.out hlt HQ.out.symm)
              have hne : (s.toList == []) = false := by
                have := (words_plain _ HM.out).1
                rw [Lib.toList_data]; simpa using this
              clear HS HQ HB
              go_wp2
              go_returns
              exact ⟨by rw [decide_eq_true HM.out]; first | rfl | simp [bne, hne], rfl⟩
        · obtain rfl : k = 144 := by omega
          have HN : Hid (s.data.toList ∉ Lx.words) := Lib.hid (word_none HS.out)
          clear HS
          go_wp2
          go_ret
          exact ⟨by rw [decide_eq_false HN.out]; rfl, rfl⟩
end Go.Proofs.YteplbbjmbhgllaaGreatDoor

namespace Go.Proofs.YteplbbjmbhgllaaGreatDoor
open Go.RowKit
set_option linter.unusedVariables false
set_option linter.unusedSimpArgs false

/-- A token in memory. -/
def tokV (kind : Nat) (p : Lx.Pl) (text : ByteArray) (bits : Nat) (data : ByteArray) : Value := .agg #[.int .i64 (kind : Int), .int .i64 p.1, .int .i64 p.2, .string text, .int .u64 (bits : Int), .string data]
/-- Any token. -/
def IsTok (t : Value) : Prop := ∃ (k a b : Int) (x : ByteArray) (n : Int) (d : ByteArray), t = .agg #[.int .i64 k, .int .i64 a, .int .i64 b, .string x, .int .u64 n, .string d]
theorem isTok (k a b : Int) (x : ByteArray) (n : Int) (d : ByteArray) : IsTok (.agg #[.int .i64 k, .int .i64 a, .int .i64 b, .string x, .int .u64 n, .string d]) := ⟨k, a, b, x, n, d, rfl⟩
/-- What number answers. -/
def NumP (s : ByteArray) (e : Ending) : Prop := match Lx.numL Lx.flF s.data.toList with
  | some (k, n) => e = .returned (.tuple #[tokV k (0, 0) s n .empty, .bool true])
  | none => ∃ t, IsTok t ∧ e = .returned (.tuple #[t, .bool false])
theorem numP_some {s : ByteArray} {e : Ending} {k n : Nat} (h : Lx.numL Lx.flF s.data.toList = some (k, n)) (he : e = .returned (.tuple #[tokV k (0, 0) s n .empty, .bool true])) : NumP s e := by
  unfold NumP; rw [h]; exact he
theorem numP_none {s : ByteArray} {e : Ending} {t : Value} (h : Lx.numL Lx.flF s.data.toList = none) (he : e = .returned (.tuple #[t, .bool false])) (ht : IsTok t) : NumP s e := by
  unfold NumP; rw [h]; exact ⟨t, ht, he⟩
theorem app_data (a b : ByteArray) : (a ++ b).data.toList = a.data.toList ++ b.data.toList := by simp
set_option maxRecDepth 100000 in
set_option maxHeartbeats 4000000 in
theorem rnumber_any (s : ByteArray) (hs : s.size ≤ 1048576) (h0 : byteN s.data.toList 0 ≠ 46) (w : World) : Calls Tryz.prog 41 #[.string s] w fun e w' => NumP s e ∧ Below w.heap.size w w' := by
  have hA1 := cell_alloc_if
  have hA2 := frozen_alloc_if
  have hA3 := cell_set_if
  have HW := Lib.hid (fun W => rwhole_any s hs W)
  cases hw : Lx.wholeL s.data.toList with
  | some n =>
    have HN : Hid (Lx.numL Lx.flF s.data.toList = some (3, n)) := Lib.hid (Lx.numL_whole hw)
    rw [hw] at HW
    clear hw
    go_enter Tryz.func41, Tryz.ntmps41
    go_wp2_with (go_at_call 57; (with_reducible refine (HW.out _).mono ?_); rintro e w' ⟨rfl, rfl⟩; simp only [wholeV])
    all_goals (((try simp only [Exit.inBlock, Exit.then]); go_light; refine bodyPost_ret (by simp [results, Tryz.results41, go_sem, *, ↓IntWalk.iteOmega]; try rfl) rfl ?_); exact ⟨numP_some HN.out (by first | rfl | simp [tokV]), by (repeat' (first | (with_reducible exact Below.refl _ _) | (with_reducible assumption) | (with_reducible refine Below.setCell ?_ ?_ _) | (with_reducible refine Below.alloc ?_ ?_ _) | (with_reducible refine Below.drew ?_) | (with_reducible refine below_drewN ?_ _) | (with_reducible refine below_next ?_ (by with_reducible assumption)) | omega | (dsimp only; omega) | (simp only [World.size_alloc, World.size_setCell, World.size_drew, World.heap_drewN]; omega)))⟩)
  | none =>
    have HX := Lib.hid hw
    rw [hw] at HW
    clear hw
    go_enter Tryz.func41, Tryz.ntmps41
    go_wp2_with (go_at_call 57; (with_reducible refine (HW.out _).mono ?_); rintro e w' ⟨rfl, rfl⟩; simp only [wholeV])
    go_loop [6] (fun i => ∃ (k : Nat), i = .int .i64 k ∧ 1 ≤ k ∧ k ≤ s.size + 1 ∧ Hid (∀ b ∈ s.data.toList.take k, b.toNat ≠ 46)) (fun i => s.size + 1 - (intOf i).toNat)
    case atStart =>
      refine ⟨1, rfl, by omega, by omega, Lib.hid ?_⟩
      intro b hb
      match hl : s.data.toList, hb with
      | [], hb => simp at hb
      | x :: r, hb =>
        simp at hb
        subst hb
        intro h
        apply h0
        unfold byteN
        rw [hl]
        exact h
    case round =>
      obtain ⟨k, rfl, hk1, hk2, HS⟩ := hrel
      by_cases hlt : k + 1 < s.size
      · have hix := fun W => idx_s (P := Tryz.prog) 9 Tryz.underlying9 s .i64 (k : Int) k rfl (by omega) W
        obtain ⟨x, ex⟩ : ∃ x, byteN s.data.toList k = x := ⟨_, rfl⟩
        rw [ex] at hix
        by_cases hx : x = 46
        · have HN : Hid (Lx.numL Lx.flF s.data.toList = (Lx.flF (s.data.toList.take k ++ s.data.toList.drop (k + 1)) (s.size - k - 1)).map fun n => (4, n)) := Lib.hid (by
            have := Lx.numL_at (fl := Lx.flF) HX.out hk1 (by rw [szl]; exact hlt) HS.out (by show byteN s.data.toList k = 46; rw [ex]; exact hx)
            rw [this, szl]
            congr 2)
          have eC : (s.extract 0 k ++ s.extract (k + 1) s.size).data.toList = s.data.toList.take k ++ s.data.toList.drop (k + 1) := by
            rw [app_data, Lib.extract_data, Lib.extract_data]
            simp only [List.drop_zero, Nat.sub_zero]
            congr 1
            rw [List.take_of_length_le (by rw [List.length_drop, szl]; exact Nat.le_refl _)]
          have eS : (s.extract 0 k ++ s.extract (k + 1) s.size).size ≤ s.size := by
            rw [← szl, eC, List.length_append, List.length_take, List.length_drop, szl]; omega
          have HC : Hid (∀ W, Calls Tryz.prog 58 #[.string (s.extract 0 k ++ s.extract (k + 1) s.size), .int .i64 ((s.size : Int) - (k : Int) - 1)] W fun e w' => e = .returned (wholeV (Lx.flF (s.data.toList.take k ++ s.data.toList.drop (k + 1)) (s.size - k - 1))) ∧ Below W.heap.size W w') := Lib.hid fun W => by
            have := rfloat_any (s.extract 0 k ++ s.extract (k + 1) s.size) (by omega) (s.size - k - 1) (by omega) W
            rw [eC, show ((s.size - k - 1 : Nat) : Int) = (s.size : Int) - (k : Int) - 1 from by omega] at this
            exact this
          clear ex eC eS HX HS
          subst hx
          generalize Lx.flF (s.data.toList.take k ++ s.data.toList.drop (k + 1)) (s.size - k - 1) = F at HN HC
          cases F with
          | some n =>
            simp only [wholeV] at HC
            go_wp2
            refine wp_region_ext (by kernel_rfl) (by kernel_rfl) ?_
            repeat (first | go_big_quiet_skip | (go_big_quiet_want; go_big_quiet_op; first | go_big_quiet_on | (apply Exists.intro; refine ⟨fun W hW => ?_, ?_⟩; (focus (first
              | (go_at_call 58; (with_reducible refine (HC.out _).mono ?_); rintro e w1 ⟨rfl, hb⟩; exact ⟨rfl, Ext.next hW hb⟩)
              | exact rfl | (obtain ⟨hcW, hfW, hzW⟩ := cif (Ext.of hW); (try simp only [World.size_alloc, World.size_setCell, World.size_drew, World.heap_drewN] at hzW); simp [go_sem, *, ↓IntWalk.iteOmega]; (try exact rfl)))); go_big_quiet_on)))
            refine wpQuiet_nil ?_
            intro w' hw'
            have hbl := Ext.of hw'
            obtain ⟨hc, hf, hz⟩ := cif hbl
            (try simp only [World.size_alloc, World.size_setCell, World.size_drew, World.heap_drewN] at hz)
            clear hw'
            go_wp2
            all_goals (((try simp only [Exit.inBlock, Exit.then]); go_light; refine bodyPost_ret (by simp [results, Tryz.results41, go_sem, *, ↓IntWalk.iteOmega]; try rfl) rfl ?_); exact ⟨numP_some HN.out (by first | rfl | simp [tokV]), by (repeat' (first | (with_reducible exact Below.refl _ _) | (with_reducible assumption) | (with_reducible refine Below.setCell ?_ ?_ _) | (with_reducible refine Below.alloc ?_ ?_ _) | (with_reducible refine Below.drew ?_) | (with_reducible refine below_drewN ?_ _) | (with_reducible refine below_next ?_ (by with_reducible assumption)) | omega | (dsimp only; omega) | (simp only [World.size_alloc, World.size_setCell, World.size_drew, World.heap_drewN]; omega)))⟩)
          | none =>
            simp only [wholeV] at HC
            go_wp2
            refine wp_region_ext (by kernel_rfl) (by kernel_rfl) ?_
            repeat (first | go_big_quiet_skip | (go_big_quiet_want; go_big_quiet_op; first | go_big_quiet_on | (apply Exists.intro; refine ⟨fun W hW => ?_, ?_⟩; (focus (first
              | (go_at_call 58; (with_reducible refine (HC.out _).mono ?_); rintro e w1 ⟨rfl, hb⟩; exact ⟨rfl, Ext.next hW hb⟩)
              | exact rfl | (obtain ⟨hcW, hfW, hzW⟩ := cif (Ext.of hW); (try simp only [World.size_alloc, World.size_setCell, World.size_drew, World.heap_drewN] at hzW); simp [go_sem, *, ↓IntWalk.iteOmega]; (try exact rfl)))); go_big_quiet_on)))
            refine wpQuiet_nil ?_
            intro w' hw'
            have hbl := Ext.of hw'
            obtain ⟨hc, hf, hz⟩ := cif hbl
            (try simp only [World.size_alloc, World.size_setCell, World.size_drew, World.heap_drewN] at hz)
            clear hw'
            go_wp2
            all_goals (((try simp only [Exit.inBlock, Exit.then]); go_light; refine bodyPost_ret (by simp [results, Tryz.results41, go_sem, *, ↓IntWalk.iteOmega]; try rfl) rfl ?_); exact ⟨numP_none HN.out rfl (isTok _ _ _ _ _ _), by (repeat' (first | (with_reducible exact Below.refl _ _) | (with_reducible assumption) | (with_reducible refine Below.setCell ?_ ?_ _) | (with_reducible refine Below.alloc ?_ ?_ _) | (with_reducible refine Below.drew ?_) | (with_reducible refine below_drewN ?_ _) | (with_reducible refine below_next ?_ (by with_reducible assumption)) | omega | (dsimp only; omega) | (simp only [World.size_alloc, World.size_setCell, World.size_drew, World.heap_drewN]; omega)))⟩)
        · have hxb : ((x : Int) == 46) = false := by simp; omega
          have HN : Hid (∀ b ∈ s.data.toList.take (k + 1), b.toNat ≠ 46) := Lib.hid (take_succ_all HS.out (by rw [szl]; omega) (by show byteN s.data.toList k ≠ 46; rw [ex]; exact hx))
          clear ex HS hx
          go_wp2
          go_round
          case rel => exact ⟨k + 1, by go_num, by omega, by omega, HN⟩
          case measure => simp [intOf]; omega
      · have HN : Hid (Lx.numL Lx.flF s.data.toList = none) := Lib.hid (Lx.numL_no HX.out (by rw [szl]; omega) HS.out)
        clear HS HX
        go_wp2
        all_goals (((try simp only [Exit.inBlock, Exit.then]); go_light; refine bodyPost_ret (by simp [results, Tryz.results41, go_sem, *, ↓IntWalk.iteOmega]; try rfl) rfl ?_); exact ⟨numP_none HN.out rfl (isTok _ _ _ _ _ _), by (repeat' (first | (with_reducible exact Below.refl _ _) | (with_reducible assumption) | (with_reducible refine Below.setCell ?_ ?_ _) | (with_reducible refine Below.alloc ?_ ?_ _) | (with_reducible refine Below.drew ?_) | (with_reducible refine below_drewN ?_ _) | (with_reducible refine below_next ?_ (by with_reducible assumption)) | omega | (dsimp only; omega) | (simp only [World.size_alloc, World.size_setCell, World.size_drew, World.heap_drewN]; omega)))⟩)
end Go.Proofs.YteplbbjmbhgllaaGreatDoor
