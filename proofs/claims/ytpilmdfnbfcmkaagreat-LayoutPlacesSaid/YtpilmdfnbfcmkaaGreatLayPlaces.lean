/-
  The law LayoutPlaces, walked: places are aligned, follow one another without meeting, and are the nearest that do.
-/
import Derived.Test.YtpilmdfnbfcmkaaGreatLayW
import Derived.Test.YtpilmdfnbfcmkaaGreatLayFixed
namespace Go.Proofs.YtpilmdfnbfcmkaaGreat
open Go.RowKit
set_option linter.unusedVariables false
set_option linter.unusedSimpArgs false

theorem i64_and3 (n : Int) : bits .and .i64 n 3 = n % 4 := by
  have h3 : (BitVec.ofInt 64 3).toNat = 2 ^ 2 - 1 := by decide
  have key : (BitVec.ofInt 64 n &&& BitVec.ofInt 64 3).toNat = (n % ((2 ^ 64 : Nat) : Int)).toNat % 2 ^ 2 := by
    rw [BitVec.toNat_and, BitVec.toNat_ofInt, h3, Nat.and_two_pow_sub_one_eq_mod]
  show IntKind.i64.wrap ((BitVec.ofInt 64 n &&& BitVec.ofInt 64 3).toNat : Nat) = n % 4
  rw [key, IntKind.wrap_i64]
  omega
theorem size_ok (x : Int) : 0 ≤ wrap64 ((IntKind.u64.wrap x).tmod 10000) ∧ wrap64 ((IntKind.u64.wrap x).tmod 10000) ≤ 10000 := by
  have h : 0 ≤ IntKind.u64.wrap x := by
    have e : IntKind.u64.wrap x = x % 18446744073709551616 := by simp [IntKind.wrap, IntKind.bits, IntKind.signed]
    rw [e]; omega
  rw [Int.tmod_eq_emod_of_nonneg h]
  have h1 : 0 ≤ IntKind.u64.wrap x % 10000 := Int.emod_nonneg _ (by omega)
  have h2 : IntKind.u64.wrap x % 10000 < 10000 := Int.emod_lt_of_pos _ (by omega)
  rw [IntWalk.wrap64_in _ ⟨by omega, by omega⟩]
  omega
theorem own_sl (W : World) (s a : Int) (T : TypeId) : RdL slC 3 (W.alloc (.cells #[.int .i64 s, .int .i64 a, .int .i64 77] T)) (.slice (some ⟨W.heap.size, 0, none⟩) 1 1) [(s, a)] := by
  refine ⟨_, 1, rfl, by simp, by decide, fun _ => ⟨_, 0, rfl, by simp, fun k p ha j v hv => ?_⟩⟩
  match k, ha with
  | 0, ha =>
    simp at ha; subst ha
    match j, hv with
    | 0, hv => simp [slC] at hv; subst hv; simp [cell_alloc_if]
    | 1, hv => simp [slC] at hv; subst hv; simp [cell_alloc_if]
    | 2, hv => simp [slC] at hv; subst hv; simp [cell_alloc_if]
theorem end_law {n e : Int} (h : upI e 8 = n) (he : 0 ≤ e) : n.tmod 8 = 0 ∧ e ≤ n ∧ n < e + 8 := by
  obtain ⟨h1, h2, h3⟩ := upI_law (a := 8) (n := e) (by unfold OkA; omega) he
  rw [h] at h1 h2 h3
  refine ⟨?_, h1, h2⟩
  rw [Int.tmod_eq_emod_of_nonneg (by omega)]
  exact h3
set_option maxRecDepth 100000 in
set_option maxHeartbeats 8000000 in
theorem places_core (A0 A1 : Option Addr) (n0 c0 n1 c1 : Nat) (l0 l1 : List Int) (w : World) (h0 : RdL intC 1 w (.slice A0 n0 c0) l0) (h1 : RdL intC 1 w (.slice A1 n1 c1) l1) :
    Calls Tryz.prog 3 #[.slice A0 n0 c0, .slice A1 n1 c1] w fun e w' => e = .returned (.bool true) ∧ Below w.heap.size w w' := by
  obtain ⟨i0, hi0, hz0, hz1, hz2⟩ := info_parts sl_info
  obtain rfl : l0.length = n0 := by obtain ⟨_, _, e, _⟩ := h0; injection e with _ e _; exact e.symm
  obtain rfl : l1.length = n1 := by obtain ⟨_, _, e, _⟩ := h1; injection e with _ e _; exact e.symm
  have hcap : l0.length ≤ c0 ∧ c0 ≤ maxLen := by obtain ⟨_, _, e, a, b, _⟩ := h0; injection e with _ _ e; subst e; exact ⟨a, b⟩
  have hcap1 : l1.length ≤ c1 ∧ c1 ≤ maxLen := by obtain ⟨_, _, e, a, b, _⟩ := h1; injection e with _ _ e; subst e; exact ⟨a, b⟩
  unfold maxLen at hcap hcap1
  obtain ⟨hc1, hc2⟩ := hcap
  have H0 := Lib.hid h0
  have H1 := Lib.hid h1
  clear h0 h1
  have hA1 := cell_alloc_if
  have hA2 := frozen_alloc_if
  have hA3 := cell_set_if
  go_enter Tryz.func3, Tryz.ntmps3
  go_upto_if 21 with (go_at_call 4; (with_reducible refine (Lay.fixed_any _).mono ?_); rintro e wF ⟨rfl, hbF⟩; have hzF := hbF.size)
  go_cut [0] (fun s0 wx => ∃ n : Nat, s0 = .slice A0 n c0 ∧ n ≤ 1000 ∧ n ≤ l0.length ∧ wx = wF)
  case first =>
    by_cases hlt : l0.length ≤ 1000
    · have d : decide (1000 < (l0.length : Int)) = false := by simp; omega
      go_wp2
      go_meet
      exact ⟨l0.length, rfl, hlt, Nat.le_refl _, rfl⟩
    · have d : decide (1000 < (l0.length : Int)) = true := by simp; omega
      have d2 : decide ((1000 : Int) ≤ (c0 : Int)) = true := by simp; omega
      go_wp2
      go_meet
      exact ⟨1000, rfl, by omega, by omega, rfl⟩
  case rest =>
    obtain ⟨n, rfl, hn, hnl, rfl⟩ := hcut
    have hc1' : l1.length ≤ 9223372036854775807 := by omega
    go_wp2
    go_loopw [5, 26] (fun v i wr => ∃ (k : Nat) (A5 : Option Addr) (c5 : Nat) (sl : List (Int × Int)), k ≤ n ∧ i = .int .i64 k ∧ v = .slice A5 k c5 ∧ sl.length = k ∧ Ext w wr ∧ Hid (OkS sl ∧ OwnL 27 slC 3 w.heap.size wr (.slice A5 k c5) sl)) (fun _ i _ => n - (intOf i).toNat)
    case atStart => exact ⟨0, none, 0, [], by omega, rfl, rfl, rfl, hbF, Lib.hid ⟨(by intro s hs; cases hs), OwnL.nil _ _ _ _ _⟩⟩
    case round =>
      obtain ⟨k, A5, c5, sl, hk, rfl, rfl, rfl, hX, HOW⟩ := hrel
      have hXb := Ext.of hX
      have hXz := hXb.size
      by_cases hlt : sl.length < n
      · obtain ⟨x, ex⟩ : ∃ x, l0[sl.length]? = some x := ⟨_, List.getElem?_eq_getElem (by omega)⟩
        obtain ⟨g, o, c2, ev, _, _, hgl, hgc⟩ := (H0.out.next hXb).some_ (by omega)
        injection ev with ev0 ev1 ev2
        subst ev0
        have p0 := hgc _ _ ex 0 _ rfl
        simp only [Nat.add_zero, Nat.mul_one] at p0
        clear hgc ex ev1 ev2
        go_upto_if 34 with (fail)
        go_cut [8] (fun s8 wx => ∃ a : Int, s8 = .int .i64 a ∧ OkA a ∧ wx = wr)
        case first =>
          by_cases hlt1 : sl.length < l1.length
          · obtain ⟨y, ey⟩ : ∃ y, l1[sl.length]? = some y := ⟨_, List.getElem?_eq_getElem (by omega)⟩
            obtain ⟨g1, o1, c3, ev', _, _, hgl1, hgc1⟩ := (H1.out.next hXb).some_ (by omega)
            injection ev' with ev0' ev1' ev2'
            subst ev0'
            have p1 := hgc1 _ _ ey 0 _ rfl
            simp only [Nat.add_zero, Nat.mul_one] at p1
            clear hgc1 ey ev1' ev2'
            have hb := i64_and3 y
            have hr : y % 4 = 0 ∨ y % 4 = 1 ∨ y % 4 = 2 ∨ y % 4 = 3 := by omega
            have s0 : ∀ w : World, (Op.shift BinOp.shl IntKind.i64 1 IntKind.i64 0).run Tryz.prog w = .ok (.int .i64 1) w := fun _ => by kernel_rfl
            have s1 : ∀ w : World, (Op.shift BinOp.shl IntKind.i64 1 IntKind.i64 1).run Tryz.prog w = .ok (.int .i64 2) w := fun _ => by kernel_rfl
            have s2 : ∀ w : World, (Op.shift BinOp.shl IntKind.i64 1 IntKind.i64 2).run Tryz.prog w = .ok (.int .i64 4) w := fun _ => by kernel_rfl
            have s3 : ∀ w : World, (Op.shift BinOp.shl IntKind.i64 1 IntKind.i64 3).run Tryz.prog w = .ok (.int .i64 8) w := fun _ => by kernel_rfl
            rcases hr with hr | hr | hr | hr
            all_goals (
              rw [hr] at hb
              clear hr
              go_wp2
              go_meet
              exact ⟨_, rfl, by unfold OkA; omega, rfl⟩)
          · go_wp2
            go_meet
            exact ⟨1, rfl, .inl rfl, rfl⟩
        case rest =>
          obtain ⟨a, rfl, ha, rfl⟩ := hcut
          go_wp2_with (at_builtin; refine wpList_app (e := 27) (f := slC) rfl (.tmp 41) (.tmp 48) 24 rfl w.heap.size i0 _ 24 Tryz.underlying24 hi0 hz0 hz1 hz2 rfl (by decide) slC_len (.slice A5 sl.length c5) sl rfl ?c0 _ 1 _ [(wrap64 ((IntKind.u64.wrap x).tmod 10000), a)] rfl ?c1 (slC_one _) (by decide) ?c2 ?c3 ?_)
          case c0 => exact HOW.out.2.next (by (repeat' (first | (with_reducible exact Below.refl _ _) | (with_reducible assumption) | (with_reducible refine Below.setCell ?_ ?_ _) | (with_reducible refine Below.alloc ?_ ?_ _) | (with_reducible refine Below.drew ?_) | (with_reducible refine below_drewN ?_ _) | (with_reducible refine below_next ?_ (by with_reducible assumption)) | omega | (dsimp only; omega) | (simp only [World.size_alloc, World.size_setCell, World.size_drew, World.heap_drewN]; omega))))
          case c1 => exact own_sl _ _ _ _
          case c2 => first | omega | (simp; omega)
          case c3 => first | omega | (simp; omega)
          intro A9 c9 w6 hown hg hB hor
          have HOW2 : Hid (OkS (sl ++ [(wrap64 ((IntKind.u64.wrap x).tmod 10000), a)]) ∧ OwnL 27 slC 3 w.heap.size w6 (.slice A9 (sl.length + 1) c9) (sl ++ [(wrap64 ((IntKind.u64.wrap x).tmod 10000), a)])) := Lib.hid ⟨fun s hs => by
            rcases List.mem_append.1 hs with hs | hs
            · exact HOW.out.1 s hs
            · simp at hs; subst hs; exact ⟨(size_ok x).1, (size_ok x).2, ha⟩, hown⟩
          have hX6 : Below w.heap.size w w6 := Below.trans (by (repeat' (first | (with_reducible exact Below.refl _ _) | (with_reducible assumption) | (with_reducible refine Below.setCell ?_ ?_ _) | (with_reducible refine Below.alloc ?_ ?_ _) | (with_reducible refine Below.drew ?_) | (with_reducible refine below_drewN ?_ _) | (with_reducible refine below_next ?_ (by with_reducible assumption)) | omega | (dsimp only; omega) | (simp only [World.size_alloc, World.size_setCell, World.size_drew, World.heap_drewN]; omega)))) hB
          clear hown hg hB hor
          go_wp2
          go_roundw
          case rel => exact ⟨sl.length + 1, A9, c9, _, by omega, by go_num, rfl, by simp, hX6, HOW2⟩
          case measure => simp [intOf]; omega
      · obtain rfl : sl.length = n := by omega
        have HSL := Lib.hid (HOW.out.2.rdl slC_len)
        have HOK := Lib.hid HOW.out.1
        have HPL : Hid (∀ W, Below wr.heap.size wr W → Calls Tryz.prog 5 #[.slice A5 sl.length c5] W (PlacesP sl W)) := Lib.hid fun W hW => places_any _ sl W (HSL.out.next hW) HOK.out hn
        clear HOW
        go_wp2_with (go_at_call 5; (with_reducible refine (HPL.out _ (by (repeat' (first | (with_reducible exact Below.refl _ _) | (with_reducible assumption) | (with_reducible refine Below.setCell ?_ ?_ _) | (with_reducible refine Below.alloc ?_ ?_ _) | (with_reducible refine Below.drew ?_) | (with_reducible refine below_drewN ?_ _) | (with_reducible refine below_next ?_ (by with_reducible assumption)) | omega | (dsimp only; omega) | (simp only [World.size_alloc, World.size_setCell, World.size_drew, World.heap_drewN]; omega))))).mono ?_); rintro e wP ⟨AP, cP, rfl, hrd, hbP⟩; have HRD := Lib.hid hrd; have hzP := hbP.size; clear hrd)
        have hXP : Below w.heap.size w wP := hXb.trans (hbP.mono hXz)
        have HSLP := Lib.hid (HSL.out.next hbP)
        clear HSL HPL
        obtain ⟨wo, rfl⟩ : ∃ wo, wo = wr := ⟨_, rfl⟩
        go_loopw [11, 63] (fun v i wq => ∃ (k : Nat), k ≤ sl.length ∧ i = .int .i64 k ∧ v = .int .i64 (plcK sl k).2 ∧ Ext wP wq) (fun _ i _ => sl.length - (intOf i).toNat)
        case atStart => exact ⟨0, by omega, rfl, rfl, Below.refl _ _⟩
        case round =>
          obtain ⟨k, hk, rfl, rfl, hXq⟩ := hrel
          have hXqb := Ext.of hXq
          have hXqz := hXqb.size
          obtain ⟨q1, q2, q3⟩ := plcK_law HOK.out k hk
          obtain ⟨e, he⟩ : ∃ e, e = (plcK sl k).2 := ⟨_, rfl⟩
          rw [← he] at q2 q3
          have HE := Lib.hid he
          rw [← he]
          clear he q1
          by_cases hlt : k < sl.length
          · obtain ⟨p, ef⟩ : ∃ p, sl[k]? = some p := ⟨_, List.getElem?_eq_getElem hlt⟩
            obtain ⟨gs, os, c2, ev, _, _, hgl, hgc⟩ := (HSLP.out.next hXqb).some_ (by omega)
            injection ev with ev0 ev1 ev2
            subst ev0
            obtain ⟨s1, a1⟩ := p
            have p0 := hgc k _ ef 0 _ rfl
            have p1 := hgc k _ ef 1 _ rfl
            have p2 := hgc k _ ef 2 _ rfl
            simp only [Nat.add_zero] at p0
            obtain ⟨r1, r2, r3⟩ := HOK.out _ (List.mem_of_getElem? ef)
            dsimp only at r1 r2 r3
            have hal := algI_ok (s := s1) r3
            have hu := upI_law hal q2
            have hat := plcK_at HOK.out sl.length (Nat.le_refl _) k hlt _ ef
            dsimp only at hat
            rw [← HE.out] at hat
            have HNX := Lib.hid (plcK_succ ef)
            obtain ⟨u, hu'⟩ : ∃ u, u = upI e (algI s1 a1) := ⟨_, rfl⟩
            rw [← hu'] at hu hat
            obtain ⟨gp, op, c3, ev3, _, _, hgl3, hgc3⟩ := (HRD.out.next hXqb).some_ (by have := (plcK_law HOK.out sl.length (Nat.le_refl _)).1; omega)
            injection ev3 with ev30 ev31 ev32
            subst ev30
            have p3 := hgc3 k _ hat 0 _ rfl
            simp only [Nat.add_zero, Nat.mul_one] at p3
            have HNX2 : Hid ((plcK sl (k + 1)).2 = u + s1) := Lib.hid (by
              rw [HNX.out]
              dsimp only
              rw [← HE.out, ← hu']
              omega)
            have HAL := Lib.hid hal
            have HU := Lib.hid hu
            clear hgc hgc3 ef ev1 ev2 ev31 ev32 hat HNX hu' hal hu r3
            go_wp2
            obtain ⟨wi, rfl⟩ : ∃ wi, wi = wr := ⟨_, rfl⟩
            go_loop [14, 72] (fun t i => ∃ j : Nat, j ≤ 3 ∧ i = .int .i64 j ∧ t = .int .i64 (algK s1 a1 j)) (fun _ i => 3 - (intOf i).toNat)
            case atStart => exact ⟨0, by omega, rfl, rfl⟩
            case round =>
              obtain ⟨j, hj, rfl, rfl⟩ := hrel
              obtain ⟨y, hy⟩ : ∃ y, y = algK s1 a1 j := ⟨_, rfl⟩
              rw [← hy]
              have HY := Lib.hid hy
              clear hy
              by_cases hltj : j < 3
              · have h3 : j = 0 ∨ j = 1 ∨ j = 2 := by omega
                clear hltj hj
                rcases h3 with rfl | rfl | rfl
                · have hk0 : ((0 : Nat) : Int) = 0 := rfl
                  rw [hk0]
                  by_cases hc : 2 ≤ s1
                  · go_wp2
                    all_goals (
                      go_round
                      case rel => exact ⟨0 + 1, by omega, rfl, by rw [algK_succ, ← HY.out, show pw 0 = 2 from rfl, if_pos hc]; first | rfl | (congr 1; omega)⟩
                      case measure => simp [intOf])
                  · go_wp2
                    all_goals (
                      go_round
                      case rel => exact ⟨0 + 1, by omega, rfl, by rw [algK_succ, ← HY.out, show pw 0 = 2 from rfl, if_neg (by omega)]⟩
                      case measure => simp [intOf])
                · have hk0 : ((1 : Nat) : Int) = 1 := rfl
                  rw [hk0]
                  by_cases hc : 4 ≤ s1
                  · go_wp2
                    all_goals (
                      go_round
                      case rel => exact ⟨1 + 1, by omega, rfl, by rw [algK_succ, ← HY.out, show pw 1 = 4 from rfl, if_pos hc]; first | rfl | (congr 1; omega)⟩
                      case measure => simp [intOf])
                  · go_wp2
                    all_goals (
                      go_round
                      case rel => exact ⟨1 + 1, by omega, rfl, by rw [algK_succ, ← HY.out, show pw 1 = 4 from rfl, if_neg (by omega)]⟩
                      case measure => simp [intOf])
                · have hk0 : ((2 : Nat) : Int) = 2 := rfl
                  rw [hk0]
                  by_cases hc : 8 ≤ s1
                  · go_wp2
                    all_goals (
                      go_round
                      case rel => exact ⟨2 + 1, by omega, rfl, by rw [algK_succ, ← HY.out, show pw 2 = 8 from rfl, if_pos hc]; first | rfl | (congr 1; omega)⟩
                      case measure => simp [intOf])
                  · go_wp2
                    all_goals (
                      go_round
                      case rel => exact ⟨2 + 1, by omega, rfl, by rw [algK_succ, ← HY.out, show pw 2 = 8 from rfl, if_neg (by omega)]⟩
                      case measure => simp [intOf])
              · obtain rfl : j = 3 := by omega
                have hy3 : algI s1 a1 = y := HY.out.symm
                have hal := HAL.out
                have hu := HU.out
                rw [hy3] at hal hu
                obtain ⟨u1, u2, u3⟩ := hu
                have hy8 : 1 ≤ y ∧ y ≤ 8 := by unfold OkA at hal; omega
                have t1 : u.tmod y = 0 := by rw [Int.tmod_eq_emod_of_nonneg (by omega)]; exact u3
                have t2 : ¬ u < e := by omega
                have t3 : ¬ y ≤ u - e := by omega
                clear hal hy3 hltj hj HY HAL HU
                go_wp2
                go_quiet (fail)
                go_wp2
                go_roundw
                case rel => exact ⟨k + 1, by omega, by go_num, by rw [HNX2.out], by unfold Ext at *; (repeat' (first | (with_reducible exact Below.refl _ _) | (with_reducible assumption) | (with_reducible refine Below.setCell ?_ ?_ _) | (with_reducible refine Below.alloc ?_ ?_ _) | (with_reducible refine Below.drew ?_) | (with_reducible refine below_drewN ?_ _) | (with_reducible refine below_next ?_ (by with_reducible assumption)) | omega | (dsimp only; omega) | (simp only [World.size_alloc, World.size_setCell, World.size_drew, World.heap_drewN]; omega)))⟩
                case measure => simp [intOf]; omega
          · obtain rfl : k = sl.length := by omega
            have he8 := end_law (n := upI e 8) rfl q2
            obtain ⟨z, hz⟩ : ∃ z, z = upI e 8 := ⟨_, rfl⟩
            have HZ : Hid (z = upI (plcK sl sl.length).2 8) := Lib.hid (by rw [← HE.out]; exact hz)
            rw [← HZ.out]
            rw [← hz] at he8
            obtain ⟨z1, z2, z3⟩ := he8
            have z4 : z % 8 = 0 := by rw [Int.tmod_eq_emod_of_nonneg (by omega)] at z1; exact z1
            clear hz
            go_wp2
            go_ret
            exact ⟨rfl, by unfold Ext at *; (repeat' (first | (with_reducible exact Below.refl _ _) | (with_reducible assumption) | (with_reducible refine Below.setCell ?_ ?_ _) | (with_reducible refine Below.alloc ?_ ?_ _) | (with_reducible refine Below.drew ?_) | (with_reducible refine below_drewN ?_ _) | (with_reducible refine below_next ?_ (by with_reducible assumption)) | omega | (dsimp only; omega) | (simp only [World.size_alloc, World.size_setCell, World.size_drew, World.heap_drewN]; omega)))⟩
end Go.Proofs.YtpilmdfnbfcmkaaGreat
