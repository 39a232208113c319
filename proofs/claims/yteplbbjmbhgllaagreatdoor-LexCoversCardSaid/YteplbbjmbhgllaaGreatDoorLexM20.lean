/-
  The program's Float: math.Pow10, strconv.ParseUint at base 10.
  strconv.ParseUint at base 16 and 8; strings.HasPrefix.
  The program's whole: a whole number's value.
-/
import Derived.Test.YteplbbjmbhgllaaGreatDoorLexM18
import Derived.Test.YteplbbjmbhgllaaGreatDoorLexM09
import Derived.Test.YteplbbjmbhgllaaGreatDoorLexM19
import Derived.Test.YteplbbjmbhgllaaGreatDoorLexM06
import Derived.Shelf.Strings.SlTrimAscii
namespace Go.Proofs.YteplbbjmbhgllaaGreatDoor
open Go.RowKit
set_option linter.unusedVariables false
set_option linter.unusedSimpArgs false

set_option maxRecDepth 100000 in
set_option maxHeartbeats 4000000 in
theorem pow10_any (p : Nat) (hp : p ≤ 15) (w : World) (hT : Tabs w) : Calls Tryz.prog 26 #[.int .i64 p] w fun e w' => e = .returned (.float .f64 (Lx.dblN (10 ^ p))) ∧ Below w.heap.size w w' := by
  have h3 := hT.one
  have h4 := hT.ten p (by omega)
  have hb : floatBits .mul .f64 (Lx.dblN 1) (Lx.dblN (10 ^ p)) = some (Lx.dblN (10 ^ p)) := Lx.ten_mul p hp
  have hr := run_float_some (P := Tryz.prog) .mul _ _ _ hb
  have hlt3 := cell_block h3
  have hlt4 := cell_block h4
  dsimp only at hlt3 hlt4
  have e1 : p / 32 = 0 := by omega
  have e2 : p % 32 = p := by omega
  have e3 : (p : Int) / 32 = 0 := by omega
  have e4 : (p : Int) % 32 = p := by omega
  clear hb hT
  generalize Lx.dblN (10 ^ p) = Y at h4 hr
  generalize Lx.dblN 1 = X at h3 hr
  go_enter Tryz.func26, Tryz.ntmps26
  go_wp2
  refine wp_region_ext (by kernel_rfl) (by kernel_rfl) ?_
  repeat (first | go_big_quiet_skip | (go_big_quiet_want; go_big_quiet_op; first | go_big_quiet_on | (apply Exists.intro; refine ⟨fun W hW => ?_, ?_⟩; (focus (first
    | (fail)
    | exact rfl | (obtain ⟨hcW, hfW, hzW⟩ := cif (Ext.of hW); (try simp only [World.size_alloc, World.size_setCell, World.size_drew, World.heap_drewN] at hzW); simp [go_sem, *, ↓IntWalk.iteOmega]; (try exact rfl)))); go_big_quiet_on)))
  refine wpQuiet_nil ?_
  intro w' hw'
  have hbl := Ext.of hw'
  obtain ⟨hc, hf, hz⟩ := cif hbl
  (try simp only [World.size_alloc, World.size_setCell, World.size_drew, World.heap_drewN] at hz)
  clear hw'
  go_wp2
  go_ret
  exact ⟨rfl, hbl⟩
theorem pm_B : ∀ (l : List UInt8) (acc : Nat), acc ≤ 18446744073709551615 → match Lib.parseUintM 18446744073709551615 acc l with
    | .ok n => Lx.numB 10 acc l = some n
    | .«syntax» => Lx.numB 10 acc l = none
    | .range => Lx.numB 10 acc l = none
  | [], acc, h => rfl
  | c :: r, acc, h => by
    unfold Lib.parseUintM Lx.numB
    by_cases c1 : 48 ≤ c.toNat ∧ c.toNat ≤ 57
    · have hv : Lx.hexV c.toNat = some (c.toNat - 48) := by unfold Lx.hexV; rw [if_pos c1]
      rw [if_pos c1, hv]
      dsimp only
      by_cases c2 : 1844674407370955162 ≤ acc
      · rw [if_pos c2, if_neg (by omega)]
      · rw [if_neg c2]
        by_cases c3 : 18446744073709551615 < acc * 10 + (c.toNat - 48)
        · rw [if_pos c3, if_neg (by omega)]
        · rw [if_neg c3, if_pos (by omega)]
          exact pm_B r _ (by omega)
    · rw [if_neg c1]
      dsimp only
      cases hv : Lx.hexV c.toNat with
      | none => rfl
      | some d =>
        dsimp only
        rw [if_neg]
        intro h
        apply c1
        unfold Lx.hexV at hv
        rw [if_neg c1] at hv
        split at hv
        · injection hv with hv; omega
        · split at hv
          · injection hv with hv; omega
          · cases hv
/-- What strconv.ParseUint answers. -/
def PuQ : Option Nat → Ending → Prop
  | some n, e => e = .returned (.tuple #[.int .u64 (n : Int), .nilIface])
  | none, e => ∃ (x : Int) (N : Nat), e = .returned (.tuple #[.int .u64 x, .iface 96 (.pointer (some ⟨N, 0, none⟩))])
theorem parse10_any (s : ByteArray) (hs : s.size ≤ 1048576) (w : World) (hT : Tabs w) : Calls Tryz.prog 23 #[.string s, .int .i64 10, .int .i64 64] w fun e w' => PuQ (if s.data.toList = [] then none else Lx.numB 10 0 s.data.toList) e ∧ Below w.heap.size w w' := by
  have h := pm_B s.data.toList 0 (by omega)
  have e64 : Lib.parseUintB 64 s.data.toList = if s.data.toList = [] then .«syntax» else Lib.parseUintM 18446744073709551615 0 s.data.toList := rfl
  by_cases c : s.data.toList = []
  · rw [if_pos c] at e64 ⊢
    obtain ⟨ev, h1, h2⟩ := hT.syn
    refine (Tryz.strconv_ParseUint_10_at64_syntax s (by omega) e64 ev w h1 h2).mono ?_
    rintro e w' ⟨N, he, _, _, hb⟩
    exact ⟨⟨_, _, he⟩, hb⟩
  · rw [if_neg c] at e64 ⊢
    cases hp : Lib.parseUintM 18446744073709551615 0 s.data.toList with
    | ok n =>
      rw [hp] at h e64
      dsimp only at h
      rw [h]
      refine (Tryz.strconv_ParseUint_10_at64_ok s (by omega) n e64 w).mono ?_
      rintro e w' ⟨he, hw⟩
      refine ⟨he, ?_⟩
      rcases hw with rfl | rfl
      · exact Below.refl _ _
      · exact Lib.bytesWorld_below w 5 s
    | «syntax» =>
      rw [hp] at h e64
      dsimp only at h
      rw [h]
      obtain ⟨ev, h1, h2⟩ := hT.syn
      refine (Tryz.strconv_ParseUint_10_at64_syntax s (by omega) e64 ev w h1 h2).mono ?_
      rintro e w' ⟨N, he, _, _, hb⟩
      exact ⟨⟨_, _, he⟩, hb⟩
    | range =>
      rw [hp] at h e64
      dsimp only at h
      rw [h]
      obtain ⟨ev, h1, h2⟩ := hT.rng
      refine (Tryz.strconv_ParseUint_10_at64_range s (by omega) e64 ev w h1 h2).mono ?_
      rintro e w' ⟨N, he, _, _, hb⟩
      exact ⟨⟨_, _, he⟩, hb⟩
theorem any_none (cs : List UInt8) : ∀ l : List UInt8, (∀ b ∈ l, cs.contains b = false) → Lib.containsAny l cs = false := by
  intro l h
  have : Lib.indexAny l cs = -1 := by
    induction l with
    | nil => rfl
    | cons b l ih =>
      have hb := h b (by simp)
      have h2 := ih fun x hx => h x (by simp [hx])
      unfold Lib.indexAny
      rw [hb, h2]
      rfl
  unfold Lib.containsAny
  rw [this]
  rfl
theorem numB_digits : ∀ (l : List UInt8) (a n : Nat), Lx.numB 10 a l = some n → ∀ b ∈ l, 48 ≤ b.toNat ∧ b.toNat ≤ 57
  | [], _, _, _ => by simp
  | c :: r, a, n, h => by
    unfold Lx.numB at h
    cases hv : Lx.hexV c.toNat with
    | none => rw [hv] at h; cases h
    | some d =>
      rw [hv] at h
      dsimp only at h
      split at h
      · rename_i hc
        intro b hb
        rcases List.mem_cons.1 hb with rfl | hb
        · unfold Lx.hexV at hv
          by_cases c1 : 48 ≤ b.toNat ∧ b.toNat ≤ 57
          · exact c1
          · rw [if_neg c1] at hv
            split at hv
            · injection hv with hv; omega
            · split at hv
              · injection hv with hv; omega
              · cases hv
        · exact numB_digits r _ n h b hb
      · cases h
set_option maxRecDepth 100000 in
set_option maxHeartbeats 4000000 in
/-- The program's Float. -/
theorem float_any (s : ByteArray) (hs : s.size ≤ 1048576) (p : Nat) (hp : p ≤ 1048576) (w : World) (hT : Tabs w) (hz : 13 ≤ w.heap.size) : Calls Tryz.prog 12 #[.string s, .int .i64 p] w fun e w' => e = .returned (wholeV (Lx.flF s.data.toList p)) ∧ Below w.heap.size w w' := by
  have hlen := szl s
  have hP := parse10_any s hs w hT
  have hd0 : decide ((p : Int) < 0) = false := decide_eq_false (by omega)
  by_cases ce : s.data.toList = []
  · have HV : Hid (Lx.flF s.data.toList p = none) := Lib.hid (by unfold Lx.flF; rw [ce]; simp)
    rw [if_pos ce] at hP
    unfold PuQ at hP
    have HP := Lib.hid hP
    clear hP hlen ce
    go_enter Tryz.func12, Tryz.ntmps12
    go_wp2_with (go_at_call 23; (with_reducible refine (HP.out).mono ?_); rintro e w' ⟨⟨x, N, rfl⟩, hbl⟩)
    go_returns
    exact ⟨by rw [HV.out]; rfl, hbl⟩
  · rw [if_neg ce] at hP
    have hs1 : ¬ s.size < 1 := fun h => ce (List.eq_nil_of_length_eq_zero (by omega))
    cases hn : Lx.numB 10 0 s.data.toList with
    | none =>
      have HV : Hid (Lx.flF s.data.toList p = none) := Lib.hid (by unfold Lx.flF; rw [hn]; split <;> rfl)
      rw [hn] at hP
      unfold PuQ at hP
      have HP := Lib.hid hP
      clear hP hlen ce hn
      go_enter Tryz.func12, Tryz.ntmps12
      go_wp2_with (go_at_call 23; (with_reducible refine (HP.out).mono ?_); rintro e w' ⟨⟨x, N, rfl⟩, hbl⟩)
      go_returns
      exact ⟨by rw [HV.out]; rfl, hbl⟩
    | some n =>
      rw [hn] at hP
      unfold PuQ at hP
      have HP := Lib.hid hP
      have HDG := Lib.hid (numB_digits _ _ _ hn)
      by_cases c15 : 15 < s.size
      · have HV : Hid (Lx.flF s.data.toList p = none) := Lib.hid (by unfold Lx.flF; rw [hlen, if_pos (by omega)])
        clear hP hlen ce hn
        go_enter Tryz.func12, Tryz.ntmps12
        go_wp2_with (go_at_call 23; (with_reducible refine (HP.out).mono ?_); rintro e w' ⟨rfl, hbl⟩)
        go_returns
        exact ⟨by rw [HV.out]; rfl, hbl⟩
      · have HA : Hid (∀ W, Calls Tryz.prog 24 #[.string s, .string ⟨#[43, 95]⟩] W fun e w' => e = .returned (.bool false) ∧ Below W.heap.size W w') := Lib.hid fun W => by
          have h := Tryz.strings_ContainsAny_laid s ⟨#[43, 95]⟩ W (by omega) (by decide) (fun j b hb => by have := HDG.out b (List.mem_of_getElem? hb); omega) (fun j b hb => by have h := List.mem_of_getElem? hb; simp at h; rcases h with rfl | rfl <;> decide)
          rw [any_none _ _ (fun b hb => ?_)] at h
          · exact h
          · have := HDG.out b hb
            simp
            refine ⟨fun e => ?_, fun e => ?_⟩ <;> (rw [e] at this; revert this; decide)
        by_cases cp : 15 < p
        · have HV : Hid (Lx.flF s.data.toList p = none) := Lib.hid (by unfold Lx.flF; rw [if_pos (by omega)])
          clear hP hlen ce hn
          go_enter Tryz.func12, Tryz.ntmps12
          go_wp2_with (first
            | (go_at_call 23; (with_reducible refine (HP.out).mono ?_); rintro e w' ⟨rfl, hbl⟩)
            | (go_at_call 24; (with_reducible refine (HA.out _).mono ?_); rintro e w2 ⟨rfl, hbl2⟩))
          go_returns
          exact ⟨by rw [HV.out]; rfl, below_step hbl hbl2⟩
        · have h53 := Lx.numB_53 hn (by omega)
          have HV : Hid (Lx.flF s.data.toList p = some (Lx.quoN n p)) := Lib.hid (by unfold Lx.flF; rw [hlen, if_neg (by omega), hn]; rfl)
          have hq : floatBits .quo .f64 (Lx.dblN n) (Lx.dblN (10 ^ p)) = some (Lx.quoN n p) := (Lx.quo_some h53.2 (by omega)).1
          have hr := run_float_some (P := Tryz.prog) .quo _ _ _ hq
          have hcv := nearest_dblN n
          have HPW : Hid (∀ W, Tabs W → Calls Tryz.prog 26 #[.int .i64 p] W fun e w' => e = .returned (.float .f64 (Lx.dblN (10 ^ p))) ∧ Below W.heap.size W w') := Lib.hid fun W h => pow10_any p (by omega) W h
          have hn64 : n < 1000000000000000 := by have := h53.1; have h2 : (10 : Nat) ^ 15 = 1000000000000000 := by decide
                                                 omega
          have HT := Lib.hid hT
          have htb := tobits_run (Lx.quoN n p)
          clear hP hlen ce hn hq h53 hT
          generalize Lx.dblN (10 ^ p) = Y at hr HPW
          generalize Lx.dblN n = X at hr hcv
          generalize Lx.quoN n p = Q at hr HV htb
          go_enter Tryz.func12, Tryz.ntmps12
          go_wp2_with (first
            | (go_at_call 23; (with_reducible refine (HP.out).mono ?_); rintro e w' ⟨rfl, hbl⟩)
            | (go_at_call 24; (with_reducible refine (HA.out _).mono ?_); rintro e w2 ⟨rfl, hbl2⟩; have HT2 := Lib.hid (tabs_below HT.out hz (below_step hbl hbl2)))
            | (go_at_call 26; (with_reducible refine (HPW.out _ HT2.out).mono ?_); rintro e w3 ⟨rfl, hbl3⟩))
          go_returns
          exact ⟨by rw [HV.out]; rfl, below_step (below_step hbl hbl2) hbl3⟩
end Go.Proofs.YteplbbjmbhgllaaGreatDoor

namespace Go.Proofs.YteplbbjmbhgllaaGreatDoor
open Go.RowKit
set_option linter.unusedVariables false
set_option linter.unusedSimpArgs false

set_option maxRecDepth 100000 in
set_option maxHeartbeats 4000000 in
/-- strconv.ParseUint over what the inner one answers. -/
theorem parse_over (base bits : Nat) (hb : base ≤ 64) (hb2 : bits ≤ 64) (o : Option Nat) (s : ByteArray) (hs : s.size ≤ 1048576) (w : World) (hT : Tabs w) (hz : 13 ≤ w.heap.size)
    (hI : Calls Tryz.prog 44 #[.string s, .int .i64 base, .int .i64 bits] w fun e w' => PuP o e ∧ Below w.heap.size w w') :
    Calls Tryz.prog 23 #[.string s, .int .i64 base, .int .i64 bits] w fun e w' => PuQ o e ∧ Below w.heap.size w w' := by
  cases o with
  | some n =>
    unfold PuP at hI
    have HI := Lib.hid hI
    clear hI
    go_enter Tryz.func23, Tryz.ntmps23
    go_wp2_with (go_at_call 44; (with_reducible refine (HI.out).mono ?_); rintro e w' ⟨rfl, hbl⟩)
    go_returns
    exact ⟨rfl, hbl⟩
  | none =>
    unfold PuP at hI
    have HI := Lib.hid hI
    have HT := Lib.hid hT
    clear hI hT
    go_enter Tryz.func23, Tryz.ntmps23
    go_wp2_with (go_at_call 44; refine (HI.out).mono ?_)
    intro e w1 x hx hbl
    have hT1 := tabs_below HT.out hz hbl
    rcases hx with rfl | rfl
    · obtain ⟨ev, h1, h2⟩ := hT1.rng
      have HE := Lib.hid (Tryz.strconv_toError_range ⟨#[80, 97, 114, 115, 101, 85, 105, 110, 116]⟩ s base bits ev w1 (by omega) h1 h2)
      clear hT1 h1 h2
      go_wp2_with (go_at_call 45; refine (HE.out).mono ?_)
      rintro e w2 ⟨N, rfl, _, _, hb2⟩
      go_wp2
      go_returns
      exact ⟨⟨_, _, rfl⟩, below_step hbl hb2⟩
    · obtain ⟨ev, h1, h2⟩ := hT1.syn
      have HE := Lib.hid (Tryz.strconv_toError_syntax ⟨#[80, 97, 114, 115, 101, 85, 105, 110, 116]⟩ s base bits ev w1 (by omega) h1 h2)
      clear hT1 h1 h2
      go_wp2_with (go_at_call 45; refine (HE.out).mono ?_)
      rintro e w2 ⟨N, rfl, _, _, hb2⟩
      go_wp2
      go_returns
      exact ⟨⟨_, _, rfl⟩, below_step hbl hb2⟩
set_option maxRecDepth 100000 in
set_option maxHeartbeats 4000000 in
theorem prefix_in (s t : ByteArray) (hs : s.size ≤ 1048576) (ht : t.size ≤ 64) (w : World) : Calls Tryz.prog 100 #[.string s, .string t] w fun e w' => e = .returned (.bool (decide (t.data.toList <+: s.data.toList))) ∧ w = w' := by
  by_cases hl : t.size ≤ s.size
  · obtain ⟨g, hg⟩ : ∃ g, ((s.extract 0 t.size).toList == t.toList) = g := ⟨_, rfl⟩
    have HM : Hid (decide (t.data.toList <+: s.data.toList) = g) := Lib.hid (by
      rw [← hg, Bool.eq_iff_iff, Lib.toList_data, Lib.toList_data, take_data, decide_eq_true_iff, List.prefix_iff_eq_take, szl]
      simp
      exact ⟨fun h => h.symm, fun h => h.symm⟩)
    go_enter Tryz.func100, Tryz.ntmps100
    cases g
    · go_wp2
      go_ret
      exact ⟨by rw [HM.out]; rfl, rfl⟩
    · go_wp2
      go_ret
      exact ⟨by rw [HM.out]; rfl, rfl⟩
  · have HM : Hid (decide (t.data.toList <+: s.data.toList) = false) := Lib.hid (decide_eq_false fun h => by have := h.length_le; rw [szl, szl] at this; omega)
    go_enter Tryz.func100, Tryz.ntmps100
    go_wp2
    go_ret
    exact ⟨by rw [HM.out]; rfl, rfl⟩
theorem hasPrefix_any (s t : ByteArray) (hs : s.size ≤ 1048576) (ht : t.size ≤ 64) (w : World) : Calls Tryz.prog 75 #[.string s, .string t] w fun e w' => e = .returned (.bool (decide (t.data.toList <+: s.data.toList))) ∧ w = w' := by
  have HP := Lib.hid (fun W => prefix_in s t hs ht W)
  generalize decide (t.data.toList <+: s.data.toList) = g at HP
  go_enter Tryz.func75, Tryz.ntmps75
  go_wp2_with (go_at_call 100; (with_reducible refine (HP.out _).mono ?_); rintro e w' ⟨rfl, rfl⟩)
  go_ret
  exact ⟨rfl, rfl⟩
/-- strconv.ParseUint at base 16 and 8. -/
theorem parseN_any (base : Nat) (hb : base = 16 ∨ base = 8) (s : ByteArray) (hs : s.size ≤ 1048576) (w : World) (hT : Tabs w) (hz : 13 ≤ w.heap.size) :
    Calls Tryz.prog 23 #[.string s, .int .i64 base, .int .i64 64] w fun e w' => PuQ (if s.data.toList = [] then none else Lx.numB base 0 s.data.toList) e ∧ Below w.heap.size w w' := by
  refine parse_over base 64 (by omega) (by omega) _ s hs w hT hz ?_
  by_cases c : s.data.toList = []
  · rw [if_pos c]
    have e : s = ⟨#[]⟩ := ba_eq c
    subst e
    refine (Tryz.internal_strconv_ParseUint_empty (base : Int) (64 : Nat) w).mono ?_
    rintro e w' ⟨rfl, rfl⟩
    exact ⟨⟨0, 2, .inr rfl, rfl⟩, Below.refl _ _⟩
  · rw [if_neg c, ← numM_B]
    have h0 : 0 < s.size := by
      rcases Nat.eq_zero_or_pos s.size with h | h
      · exact absurd (List.eq_nil_of_length_eq_zero (by rw [szl]; exact h)) c
      · exact h
    rcases hb with rfl | rfl
    · exact parse16_any s hs h0 w
    · exact parse8_any s hs h0 w
end Go.Proofs.YteplbbjmbhgllaaGreatDoor

namespace Go.Proofs.YteplbbjmbhgllaaGreatDoor
open Go.RowKit
set_option linter.unusedVariables false
set_option linter.unusedSimpArgs false

def cutL : List UInt8 := [117, 85, 108, 76]
theorem isTail_cut (b : UInt8) : Lx.isTail b = cutL.contains b := by
  revert b
  have h : ∀ n, n < 256 → Lx.isTail (UInt8.ofNat n) = cutL.contains (UInt8.ofNat n) := by decide +kernel
  intro b
  have := h b.toNat b.toNat_lt
  simpa using this
theorem lowerB_u (b : UInt8) (h : Lx.isTail b = true) : (Lib.lowerB b == 117) = Lx.isU b ∧ (Lib.lowerB b == 108) = !Lx.isU b ∧ b.toNat < 128 := by
  revert b
  have h : ∀ n, n < 256 → Lx.isTail (UInt8.ofNat n) = true → (Lib.lowerB (UInt8.ofNat n) == 117) = Lx.isU (UInt8.ofNat n) ∧ (Lib.lowerB (UInt8.ofNat n) == 108) = !Lx.isU (UInt8.ofNat n) ∧ (UInt8.ofNat n).toNat < 128 := by decide +kernel
  intro b hb
  have := h b.toNat b.toNat_lt
  rw [show UInt8.ofNat b.toNat = b from by simp] at this
  exact this hb
/-- The tail that the program cuts off. -/
theorem trim_tail (L : List UInt8) : ∃ k, k ≤ L.length ∧ Lib.trimRightS L cutL = L.take k ∧ (∀ b ∈ L.drop k, Lx.isTail b = true) ∧ (k = 0 ∨ Lx.isTail (L.getD (k - 1) 0) = false) := by
  have hex : ∀ n (l : List UInt8), l.length = n → ∃ k, k ≤ l.length ∧ (∀ b ∈ l.drop k, Lx.isTail b = true) ∧ (k = 0 ∨ Lx.isTail (l.getD (k - 1) 0) = false) := by
    intro n
    induction n with
    | zero => intro l h; exact ⟨0, by omega, by rw [List.eq_nil_of_length_eq_zero h]; simp, .inl rfl⟩
    | succ n ih =>
      intro l h
      obtain ⟨s, x, rfl, _⟩ := Lx.last_split (l := l) (by intro e; rw [e] at h; cases h)
      have hs : s.length = n := by simp at h; exact h
      cases hx : Lx.isTail x with
      | false =>
        refine ⟨n + 1, by omega, by rw [List.drop_of_length_le (by omega)]; simp, .inr ?_⟩
        rw [Nat.add_sub_cancel, List.getD_eq_getElem?_getD, List.getElem?_append_right (by omega), hs]
        simp [hx]
      | true =>
        obtain ⟨k, h1, h2, h3⟩ := ih s hs
        refine ⟨k, by rw [List.length_append]; omega, ?_, ?_⟩
        · rw [List.drop_append_of_le_length h1]
          intro b hb
          rcases List.mem_append.1 hb with hb | hb
          · exact h2 b hb
          · simp at hb; rw [hb]; exact hx
        · rcases h3 with h3 | h3
          · exact .inl h3
          · by_cases hk0 : k = 0
            · exact .inl hk0
            · refine .inr ?_
              rw [List.getD_eq_getElem?_getD, List.getElem?_append_left (by omega), ← List.getD_eq_getElem?_getD]
              exact h3
  obtain ⟨k, h1, h2, h3⟩ := hex _ L rfl
  refine ⟨k, h1, Lib.trimRightS_take L cutL k h1 (fun j b hj hb => ?_) (fun b hk hb => ?_), h2, h3⟩
  · rw [← isTail_cut]
    exact h2 b (by rw [List.mem_iff_getElem?]; exact ⟨j - k, by rw [List.getElem?_drop, show k + (j - k) = j from by omega]; exact hb⟩)
  · rw [← isTail_cut]
    rcases h3 with h3 | h3
    · omega
    · rw [List.getD_eq_getElem?_getD, hb] at h3; exact h3
theorem count_u {t : List UInt8} (h : ∀ b ∈ t, Lx.isTail b = true) : Lib.countByte (Lib.toLowerA t) 117 = (t.filter Lx.isU).length ∧ Lib.countByte (Lib.toLowerA t) 108 = (t.filter fun b => !Lx.isU b).length := by
  unfold Lib.countByte Lib.toLowerA
  induction t with
  | nil => exact ⟨rfl, rfl⟩
  | cons b t ih =>
    obtain ⟨h1, h2⟩ := ih fun x hx => h x (by simp [hx])
    obtain ⟨l1, l2, _⟩ := lowerB_u b (h b (by simp))
    rw [List.map_cons, List.count_cons, List.count_cons, h1, h2, l1, l2]
    cases hu : Lx.isU b <;> simp [hu]
theorem numB_mem {base : Nat} : ∀ (l : List UInt8) (a n : Nat), Lx.numB base a l = some n → ∀ b ∈ l, Lx.hexV b.toNat ≠ none
  | [], _, _, _ => by simp
  | c :: r, a, n, h => by
    unfold Lx.numB at h
    cases hv : Lx.hexV c.toNat with
    | none => rw [hv] at h; cases h
    | some d =>
      rw [hv] at h
      dsimp only at h
      split at h
      · intro b hb
        rcases List.mem_cons.1 hb with rfl | hb
        · rw [hv]; simp
        · exact numB_mem r _ n h b hb
      · cases h
/-- Where '_' stands there is no number. -/
theorem wholeB_low {b : List UInt8} {u c : Nat} (h : (95 : UInt8) ∈ b) : wholeB b u c = none := by
  unfold wholeB
  split
  · rfl
  · rename_i hc
    cases hn : Lx.numB (baseB b) 0 (b.drop (fromB b)) with
    | none => rfl
    | some n =>
      exfalso
      have h2 := numB_mem _ _ _ hn
      by_cases hm : (95 : UInt8) ∈ b.drop (fromB b)
      · exact h2 95 hm (by decide)
      · have h3 : (95 : UInt8) ∈ b.take (fromB b) := by
          rw [← List.take_append_drop (fromB b) b] at h
          exact (List.mem_append.1 h).resolve_right hm
        unfold fromB at h3
        by_cases c1 : 1 < b.length ∧ byteN b 0 = 48
        · rw [if_pos c1] at h3
          match b, c1 with
          | x :: y :: r, c1 =>
            have hx : x.toNat = 48 := c1.2
            have hx95 : ¬ (95 : UInt8) = x := fun e => by rw [← e] at hx; revert hx; decide
            by_cases c2 : byteN (x :: y :: r) 1 = 120 ∨ byteN (x :: y :: r) 1 = 88
            · rw [if_pos c2] at h3
              have hy : y.toNat = 120 ∨ y.toNat = 88 := c2
              simp at h3
              rcases h3 with h3 | h3
              · exact hx95 h3
              · rw [← h3] at hy; revert hy; decide
            · rw [if_neg c2] at h3
              simp at h3
              exact hx95 h3
          | [x], c1 => simp at c1
        · rw [if_neg c1] at h3; simp at h3
theorem indexB_mem (l : List UInt8) (c : UInt8) : decide (0 ≤ Lib.indexByte l c) = decide (c ∈ l) := by
  induction l with
  | nil => rfl
  | cons b l ih =>
    have hg := Lib.indexByte_ge l c
    rw [decide_eq_decide] at ih ⊢
    unfold Lib.indexByte
    by_cases hb : b = c
    · subst hb; simp
    · have e : (b == c) = false := by simp [hb]
      rw [e]
      have hbc : ¬ c = b := fun h => hb h.symm
      by_cases h1 : Lib.indexByte l c = -1
      · rw [h1] at ih; simp [h1, hbc]; exact fun h => by have := ih.2 h; omega
      · have e2 : (Lib.indexByte l c == -1) = false := by simp [h1]
        rw [e2]
        simp [hbc]
        rw [← ih]
        omega
end Go.Proofs.YteplbbjmbhgllaaGreatDoor
