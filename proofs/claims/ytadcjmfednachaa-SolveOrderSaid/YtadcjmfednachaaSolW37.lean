/-
  SolveOrder.
-/
import Derived.Test.YtadcjmfednachaaSolW36
import Derived.Test.YtadcjmfednachaaSolLaw8
namespace Go.Proofs.Ytadcjmfednachaa
open Go.RowKit Go.Maps Go.WideShapes Go.ChangeShapes Go.Deep
set_option linter.unusedVariables false
set_option linter.unusedSimpArgs false

/-- A row of numbers of the call's own that keeps its length. -/
def IntR (w : World) (b0 : Nat) (l : List Int) : Prop := w.heap[b0]? = some (.cells (l.map (Value.int .i64)).toArray 3 (0, 0))
section
variable {w w' : World} {b0 : Nat} {l : List Int}
theorem IntR.lt (h : IntR w b0 l) : b0 < w.heap.size := (Array.getElem?_eq_some_iff.1 h).1
theorem IntR.next (h : IntR w b0 l) (hb : Below w.heap.size w w') : IntR w' b0 l := (hb.block _ h.lt).trans h
theorem IntR.at_ (h : IntR w b0 l) {i : Nat} (hi : i < l.length) : w.cell? ⟨b0, i, none⟩ = some (.int .i64 (l.getD i 0)) ∧ w.frozen? ⟨b0, i, none⟩ = false := by
  refine ⟨?_, Lib.frozen_of_heap h _⟩
  rw [Lib.cell_of_heap h]
  simp [List.getElem?_eq_getElem hi]
theorem IntR.set (h : IntR w b0 l) (i : Nat) (x : Int) : IntR (w.setCell ⟨b0, i, none⟩ (.int .i64 x)) b0 (l.set i x) := by
  unfold IntR at *
  simp only [World.setCell, Array.getElem?_modify, if_true, h]
  simp [List.map_set]
end
set_option maxRecDepth 100000 in
set_option maxHeartbeats 4000000 in
theorem orderL_any (A : Option Addr) (n c : Nat) (m : List (List Int)) (en : Int) (w : World) (hs : RdM w (.slice A n c) m) :
    Calls Try.prog 6 #[.slice A n c, .int .i64 en] w fun e w' => e = .returned (.bool true) ∧ Below w.heap.size w w' := by
  obtain ⟨i0, hi0, iz0, iz1, iz2⟩ := info_parts int_info
  have HS := Lib.hid hs
  have HX := Lib.hid (fixed_any w)
  obtain ⟨g, hg⟩ : ∃ g, g = fewL m := ⟨_, rfl⟩
  have hgr : ∀ l ∈ g, l.length ≤ 20 := by rw [hg]; exact fewL_rows m
  have hgl : g.length ≤ 40 := by rw [hg]; exact fewL_le m
  have HFW := Lib.hid fun (W : World) (h : RdM W (.slice A n c) m) => few_any A n c m W h
  rw [← hg] at HFW
  have HGR : Hid (∀ l ∈ g, l.length ≤ 1048576) := Lib.hid fun l hl => by have := hgr l hl; omega
  have HGR0 := Lib.hid hgr
  obtain ⟨rb, hrb⟩ : ∃ rb, rb = Sol.reachB (Sol.cleanG g) en := ⟨_, rfl⟩
  have hrl : rb.length = g.length := by rw [hrb, Sol.reachB_length, Sol.cleanG_length]
  have HRB := Lib.hid hrb
  have HOF : Hid (Sol.OrdF (Sol.cleanG g) en (ordL g en)) := Lib.hid (by
    have h := Sol.ord_law (Sol.cln_clean g) en
    rw [Sol.cleanG_length] at h
    exact h)
  obtain ⟨l, hl⟩ : ∃ l, l = ordL g en := ⟨_, rfl⟩
  rw [← hl] at HOF
  have HL := Lib.hid hl
  have HRC : Hid (∀ k : Nat, k < g.length → (rb.getD k false = true ↔ (k : Int) ∈ l)) := Lib.hid fun k hk => by
    rw [hrb, Sol.reachB_at (by rw [Sol.cleanG_length]; exact hk)]
    exact (HOF.out.mem k).symm
  have HLR : Hid (∀ x ∈ l, Sol.InR g.length x) := Lib.hid fun x hx => by
    obtain ⟨h1, h2⟩ := (HOF.out.mem x).1 hx
    have := h2.inR (Sol.cln_clean g) h1
    rwa [Sol.cleanG_length] at this
  obtain ⟨N, hN⟩ : ∃ N, N = g.length := ⟨_, rfl⟩
  have HN := Lib.hid hN
  have HPN : Hid (Sol.placeL N [] = List.replicate N 0) := Lib.hid (Sol.placeL_nil N)
  rw [← hN] at hgl hrl HRC HLR
  clear hs hg hgr hrb hl hN
  have hA1 := cell_alloc_if
  have hA2 := frozen_alloc_if
  have hA3 := cell_set_if
  go_enter Try.func6, Try.ntmps6
  go_upto_region 5 with (first
    | (go_at_call 8; (with_reducible refine HX.out.mono ?_); rintro e w1 ⟨rfl, hb1⟩; have hz1 := hb1.size)
    | (go_at_call 9; (with_reducible refine (HFW.out w1 (HS.out.next hb1)).mono ?_); rintro e w2 ⟨A2, c2, rfl, hm2, hb2⟩; have HM2 := Lib.hid hm2; have hz2 := hb2.size; clear hm2)
    | (go_at_call 13; (with_reducible refine (order_any _ _ _ g en w2 HM2.out (by have := HN.out; omega) HGR.out).mono ?_); rw [← HL.out]; rintro e w3 ⟨A3, c3, rfl, ho3, hb3⟩; have HO3 := Lib.hid ho3; have HM3 := Lib.hid (HM2.out.next hb3); have hz3 := hb3.size; clear ho3 HM2)
    | (go_at_call 10; (with_reducible refine (reach_any _ _ _ g en w3 HM3.out (by have := HN.out; omega) HGR.out).mono ?_); rw [← HRB.out]; rintro e w4 ⟨b4, rfl, hr4, hb4⟩; have HR4 := Lib.hid hr4; have HM4 := Lib.hid (HM3.out.next hb4); have HO4 := Lib.hid ((HO3.out.next hb4).rdl intC_len); have hz4 := hb4.size; clear hr4 HM3 HO3)
    | fail)
  have hB4 : Below w.heap.size w w4 := hb1.trans ((hb2.mono hz1).trans ((hb3.mono (by omega)).trans (hb4.mono (by omega))))
  rw [← HN.out]
  clear hb1 hb2 hb3 hb4 HFW HX hz1 hz2 hz3 hz4
  have hlN : l.length ≤ 40 := Nat.le_trans (Sol.nodup_le N l HOF.out.nd HLR.out) hgl
  go_wp2_with (refine wpList_make_full _ rfl (.tmp 25) (.tmp 25) 28 rfl w4.heap.size 3 i0 _ 1 Try.underlying28 hi0 iz0 iz1 .i64 .i64 N N N rfl rfl rfl rfl ?m1 ?m2 ?m3 ?_)
  case m1 => rw [iz2]; omega
  case m2 => unfold maxLen; omega
  try (case m3 => exact Nat.le_refl _)
  intro w5 hrow hg5
  rw [toList_madeCells_one] at hrow
  have hblk := block_full hrow
  have hb5 : Below w4.heap.size w4 w5 := (Below.refl _ _).grown hg5 (Nat.le_refl _) (fun k hk => by cases hk)
  have HP5 : Hid (IntR w5 w4.heap.size (Sol.placeL N [])) := Lib.hid (by rw [HPN.out]; unfold IntR; rw [hblk]; simp)
  clear hrow hg5 hblk
  go_wp2
  go_loopw [29] (fun v wr => ∃ j : Nat, j ≤ l.length ∧ v = .int .i64 j ∧ Below w4.heap.size w4 wr ∧ Hid (IntR wr w4.heap.size (Sol.placeL N (l.take j)))) (fun v _ => l.length - (intOf v).toNat)
  case atStart => exact ⟨0, by omega, rfl, hb5, by simpa using HP5⟩
  case round =>
    clear hb5 HP5
    obtain ⟨j, hj, rfl, hXb, HP⟩ := hrel
    have hXz := hXb.size
    by_cases hlt : j < l.length
    · obtain ⟨x, hx⟩ : ∃ x, l[j]? = some x := ⟨_, List.getElem?_eq_getElem hlt⟩
      have hxr := HLR.out x (List.mem_of_getElem? hx)
      unfold Sol.InR at hxr
      obtain ⟨xN, rfl⟩ : ∃ k : Nat, x = (k : Int) := ⟨x.toNat, by omega⟩
      have hxN : xN < N := by omega
      have hnt : (xN : Int) ∉ l.take j := fun h => by
        obtain ⟨k, hk⟩ := List.getElem?_of_mem h
        have hkj : k < j := by have := (List.getElem?_eq_some_iff.1 hk).1; simp at this; omega
        rw [List.getElem?_take_of_lt hkj] at hk
        have hkl : k < l.length := by omega
        rw [List.getElem?_eq_getElem hkl] at hk
        rw [List.getElem?_eq_getElem hlt] at hx
        exact (List.pairwise_iff_getElem.1 HOF.out.nd) k j hkl hlt hkj ((Option.some.inj hk).trans (Option.some.inj hx).symm)
      obtain ⟨p0, f0⟩ := HP.out.at_ (i := xN) (by rw [Sol.placeL_length]; exact hxN)
      rw [Sol.placeL_at hxN, Sol.posI_out hnt] at p0
      obtain ⟨b3, off3, e3, _, hb3, p30⟩ := HO4.out.intAt hx
      have p3 := (hXb.cell (p := ⟨b3, off3 + j, none⟩) hb3).trans p30
      have HP2 : Hid (IntR (wr.setCell ⟨w4.heap.size, xN, none⟩ (.int .i64 ((j : Int) + 1))) w4.heap.size (Sol.placeL N (l.take (j + 1)))) := Lib.hid (by
        have h := HP.out.set xN ((j : Int) + 1)
        rw [take_step hx, Sol.placeL_snoc hxN hnt, List.length_take, Nat.min_eq_left hj]
        exact h)
      have hXb2 : Below w4.heap.size w4 (wr.setCell ⟨w4.heap.size, xN, none⟩ (.int .i64 ((j : Int) + 1))) := hXb.setCell (Nat.le_refl _) _
      have hHD := Lib.hid fun h : j = 0 => HOF.out.head (xN : Int) (by rw [← h]; exact hx)
      subst e3
      clear hx hnt p30
      by_cases h0 : j = 0
      · have hne : ((xN : Int) != en) = false := by rw [hHD.out h0]; simp
        subst h0
        rw [Nat.add_zero] at p3
        go_wp2
        go_roundw
        case rel => exact ⟨0 + 1, by omega, by go_num, by simpa using hXb2, by simpa using HP2⟩
        case measure => simp [intOf]; omega
      · go_wp2
        go_roundw
        case rel => exact ⟨j + 1, by omega, by go_num, hXb2, HP2⟩
        case measure => simp [intOf]; omega
    · obtain rfl : j = l.length := by omega
      rw [List.take_length] at HP
      have hB6 : Below w.heap.size w wr := hB4.trans (hXb.mono hB4.size)
      have HR6 := Lib.hid (HR4.out.next hXb)
      have HM6 := Lib.hid (HM4.out.next hXb)
      go_wp2
      obtain ⟨w6, rfl⟩ : ∃ w6, w6 = wr := ⟨_, rfl⟩
      clear hXb HR4 HM4 HO4 hB4
      go_loopw [66] (fun v wr => ∃ i : Nat, i ≤ N ∧ v = .int .i64 i ∧ Below w6.heap.size w6 wr) (fun v _ => N - (intOf v).toNat)
      case atStart => exact ⟨0, by omega, rfl, Below.refl _ _⟩
      case round =>
        obtain ⟨i, hi, rfl, hYb⟩ := hrel
        have hYz := hYb.size
        by_cases hlt : i < N
        · obtain ⟨rj, hrj⟩ : ∃ x, x = rb.getD i false := ⟨_, rfl⟩
          obtain ⟨pj, hpj⟩ : ∃ x, x = Sol.posI l i := ⟨_, rfl⟩
          have t1 := ((HR6.out.next hYb).at_ (i := i) (by omega)).1
          have t2 := ((HP.out.next hYb).at_ (i := i) (by rw [Sol.placeL_length]; exact hlt)).1
          rw [Sol.placeL_at hlt] at t2
          rw [← hrj] at t1
          rw [← hpj] at t2
          have hpr : (0 < pj) ↔ rj = true := by rw [hpj, Sol.posI_pos, hrj]; exact (HRC.out i hlt).symm
          have d1 : decide ((0 : Int) < pj) = rj := by
            cases rj with
            | true => exact decide_eq_true (hpr.2 rfl)
            | false => exact decide_eq_false (fun h => by have := hpr.1 h; cases this)
          obtain ⟨lr, hlr⟩ : ∃ r, g[i]? = some r := ⟨_, List.getElem?_eq_getElem (by have := HN.out; omega)⟩
          have hlr20 := HGR0.out lr (List.mem_of_getElem? hlr)
          have HRW := Lib.hid (rowI_nat hlr)
          obtain ⟨bm, offm, c1, A7, c7, e, hbm, p20, hr⟩ := HM6.out.row hlr
          injection e with e1 e2 e3
          subst e1
          have HROW := Lib.hid hr
          have p2 := (hYb.cell (p := ⟨bm, offm + i, none⟩) hbm).trans p20
          have HPR := Lib.hid hpr
          have HPJ := Lib.hid hpj
          have HRJ := Lib.hid hrj
          have P20 := Lib.hid p20
          clear hrj hpj hpr hlr hr e2 e3 p20
          go_wp2
          go_quiet (fail)
          go_wp2
          obtain ⟨nq, hnq⟩ : ∃ w7, w7 = wr.drewN nq := ⟨_, rfl⟩
          have hZb : Below w6.heap.size w6 nq := by rw [hnq]; exact below_drewN hYb _
          rw [← hnq]
          clear t1 t2 p2 hYb hYz hnq
          have hll := HROW.out.lenEq
          go_loopw [84] (fun v wr => ∃ t : Nat, t ≤ lr.length ∧ v = .int .i64 t ∧ Below w6.heap.size w6 wr) (fun v _ => lr.length - (intOf v).toNat)
          case atStart => exact ⟨0, by omega, rfl, hZb⟩
          case round =>
            clear hZb
            obtain ⟨t, ht, rfl, hYb⟩ := hrel
            have hYz := hYb.size
            by_cases htl : t < lr.length
            · obtain ⟨y, hy⟩ : ∃ y, lr[t]? = some y := ⟨_, List.getElem?_eq_getElem htl⟩
              obtain ⟨b3, off3, e3, _, hb3, p30⟩ := HROW.out.intAt hy
              have p3 := (hYb.cell (p := ⟨b3, off3 + t, none⟩) hb3).trans p30
              subst e3
              clear p30
              by_cases h0 : y < 0
              · have d2 : decide (y < (0 : Int)) = true := decide_eq_true h0
                go_wp2
                go_quiet (fail)
                go_wp2
                go_roundw
                case rel => exact ⟨t + 1, by omega, by go_num, below_drewN hYb _⟩
                case measure => simp [intOf]; omega
              · have d2 : decide (y < (0 : Int)) = false := decide_eq_false h0
                obtain ⟨yN, rfl⟩ : ∃ k : Nat, y = (k : Int) := ⟨y.toNat, by omega⟩
                by_cases h1 : yN < N
                · have t1 := ((HR6.out.next hYb).at_ (i := i) (by omega)).1
                  have t2 := ((HP.out.next hYb).at_ (i := i) (by rw [Sol.placeL_length]; exact hlt)).1
                  have t3 := ((HP.out.next hYb).at_ (i := yN) (by rw [Sol.placeL_length]; exact h1)).1
                  rw [← HRJ.out] at t1
                  rw [Sol.placeL_at hlt, ← HPJ.out] at t2
                  rw [Sol.placeL_at h1] at t3
                  have d3 : decide ((N : Int) ≤ (yN : Int)) = false := by simp; omega
                  have d4 : decide (N ≤ yN) = false := by simp; omega
                  obtain ⟨pk, hpk⟩ : ∃ x, x = Sol.posI l yN := ⟨_, rfl⟩
                  rw [← hpk] at t3
                  have HPK := Lib.hid hpk
                  have HYM := Lib.hid (List.mem_of_getElem? hy)
                  clear hpk hy d1
                  cases rj with
                  | false =>
                    go_wp2
                    go_quiet (fail)
                    go_wp2
                    go_roundw
                    case rel => exact ⟨t + 1, by omega, by go_num, below_drewN hYb _⟩
                    case measure => simp [intOf]; omega
                  | true =>
                    by_cases hgt : pj < pk
                    · have d5 : decide (pj < pk) = true := decide_eq_true hgt
                      go_wp2
                      go_quiet (fail)
                      go_wp2
                      go_roundw
                      case rel => exact ⟨t + 1, by omega, by go_num, below_drewN hYb _⟩
                      case measure => simp [intOf]; omega
                    · have d5 : decide (pj < pk) = false := decide_eq_false hgt
                      have hil : (i : Int) ∈ l := Sol.posI_pos.1 (by rw [← HPJ.out]; exact HPR.out.2 rfl)
                      have hkr : (yN : Int) ∈ Sol.rowI (Sol.cleanG g) i := by
                        rw [Sol.rowI_clean, HRW.out, List.mem_filter]
                        exact ⟨HYM.out, by simp; unfold Sol.InR; have := HN.out; omega⟩
                      have hrch := HOF.out.ord i yN hil hkr (by rw [← HPJ.out, ← HPK.out]; omega)
                      have hback : (Sol.reachB (Sol.cleanG g) yN).getD i false = true := (Sol.reachB_at (by rw [Sol.cleanG_length, ← HN.out]; exact hlt)).2 ⟨by rw [Sol.cleanG_length, ← HN.out]; unfold Sol.InR; omega, hrch⟩
                      have HBK := Lib.hid hback
                      have HRL : Hid ((Sol.reachB (Sol.cleanG g) yN).length = N) := Lib.hid (by rw [Sol.reachB_length, Sol.cleanG_length, HN.out])
                      have HRE := Lib.hid fun (W : World) (hW : Below w6.heap.size w6 W) => reach_any _ g.length c2 g yN W (HM6.out.next hW) (by have := HN.out; omega) HGR.out
                      rw [← HN.out] at HRE
                      clear hil hkr hrch hback hgt
                      go_wp2
                      go_quiet (fail)
                      have hYn : Below w6.heap.size w6 (wr.drewN nq) := below_drewN hYb _
                      go_wp2_with (go_at_call 10; (with_reducible refine (HRE.out _ hYn).mono ?_); rintro e w8 ⟨b8, rfl, hr8, hb8⟩; rw [HRL.out]; have t8 := (hr8.at_ (i := i) (by rw [HRL.out]; exact hlt)).1; rw [HBK.out] at t8)
                      have hY8 : Below w6.heap.size w6 w8 := hYn.trans (hb8.mono (by exact hYz))
                      go_roundw
                      case rel => exact ⟨t + 1, by omega, by go_num, hY8⟩
                      case measure => simp [intOf]; omega
                · have d3 : decide ((N : Int) ≤ (yN : Int)) = true := by simp; omega
                  have d4 : decide (N ≤ yN) = true := by simp; omega
                  have h2 : N ≤ yN := by omega
                  go_wp2
                  go_quiet (fail)
                  go_wp2
                  go_roundw
                  case rel => exact ⟨t + 1, by omega, by go_num, below_drewN hYb _⟩
                  case measure => simp [intOf]; omega
            · obtain rfl : t = lr.length := by omega
              go_wp2
              go_roundw
              case rel => exact ⟨i + 1, by omega, by go_num, hYb⟩
              case measure => simp [intOf]; omega
        · obtain rfl : i = N := by omega
          go_wp2
          go_ret
          exact ⟨rfl, hB6.trans (hYb.mono (by have := hB6.size; omega))⟩
end Go.Proofs.Ytadcjmfednachaa
