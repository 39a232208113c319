/-
  Forward.
-/
import Derived.Test.YtadcjmfednachaaSolW32
import Derived.Test.YtadcjmfednachaaSolW19
import Derived.Test.YtadcjmfednachaaSolW7
namespace Go.Proofs.Ytadcjmfednachaa
open Go.RowKit Go.Maps Go.WideShapes Go.ChangeShapes Go.Deep
set_option linter.unusedVariables false
set_option linter.unusedSimpArgs false

theorem setsOf_nil (N : Nat) : setsOf N [] = List.replicate N [] := by
  unfold setsOf
  refine List.ext_getElem? fun i => ?_
  rw [List.getElem?_map, List.getElem?_replicate]
  by_cases h : i < N
  · rw [List.getElem?_range h, if_pos h]
    simp [Sol.rowI, Sol.passL]
  · rw [if_neg h, List.getElem?_eq_none (by simpa using h)]; rfl
theorem lists_of {base bi N n : Nat} {w : World} {os : List (Option Nat)} {a : List (List Int)} {R : Int → Int → Prop} {U : List Int} (h : SetV base w bi os a) (hl : a.length = N) (hN : N ≤ 1048576) (hi : Sol.Inv n R U a) (hU : U.length ≤ 1048576) :
    Calls Try.prog 39 #[.slice (some ⟨bi, 0, none⟩) N N] w (MatP w a) := by
  subst hl
  exact lists_any base bi os a w h hN fun l hl => by
    obtain ⟨k, hk⟩ := List.getElem?_of_mem hl
    exact Nat.le_trans ((Small.of_inv hi).len hk) hU
theorem FwdF.at_ {base basem baseb N : Nat} {wg w w5 : World} {pg pt pi pm pb bt bi bm bb : Nat} {os osm osb : List (Option Nat)} {Ag : Option Addr} {cg : Nat} {G E1 E a : List (List Int)} {M : List Bool}
    (h : FwdF base basem baseb N wg w pg pt pi pm pb bt bi bm bb os osm osb Ag cg G E1 E M) (hi : InS base w w5 bi os a) : FwdF base basem baseb N wg w5 pg pt pi pm pb bt bi bm bb os osm osb Ag cg G E1 E M := by
  have key : ∀ (p : Nat) (x : Value) (T : TypeId), w.heap[p]? = some (.cells #[x] T (0, 0)) → (∀ (i q : Nat), os[i]? = some (some q) → q ≠ p) → w5.heap[p]? = some (.cells #[x] T (0, 0)) := fun p x T hp hn =>
    (hi.same p (Array.getElem?_eq_some_iff.1 hp).1 fun i e => hn i p e rfl).trans hp
  exact { g := h.g
          t := h.t
          below := h.below.trans (hi.bel.mono h.gb)
          gb := h.gb
          m := hi.other h.m fun i q hq => (h.hos i q hq).1
          e := hi.other h.e fun i q hq => (h.hos i q hq).2.1
          hos := h.hos
          boxg := key _ _ _ h.boxg fun i q hq => (h.hos i q hq).2.2.1
          boxt := key _ _ _ h.boxt fun i q hq => (h.hos i q hq).2.2.2.1
          boxi := key _ _ _ h.boxi fun i q hq => (h.hos i q hq).2.2.2.2.1
          boxm := key _ _ _ h.boxm fun i q hq => (h.hos i q hq).2.2.2.2.2.1
          boxb := key _ _ _ h.boxb fun i q hq => (h.hos i q hq).2.2.2.2.2.2
          full := h.full
          fullm := h.fullm
          fulle := h.fulle
          lenG := h.lenG
          lenM := h.lenM
          lenE := h.lenE
          lenT := h.lenT
          low := by have := hi.bel.size; have := h.low; omega }
theorem len47 {xs : List Value} (h : xs.length = 47) : ∃ x0 x1 x2 x3 x4 x5 x6 x7 x8 x9 x10 x11 x12 x13 x14 x15 x16 x17 x18 x19 x20 x21 x22 x23 x24 x25 x26 x27 x28 x29 x30 x31 x32 x33 x34 x35 x36 x37 x38 x39 x40 x41 x42 x43 x44 x45 x46 : Value, xs = [x0, x1, x2, x3, x4, x5, x6, x7, x8, x9, x10, x11, x12, x13, x14, x15, x16, x17, x18, x19, x20, x21, x22, x23, x24, x25, x26, x27, x28, x29, x30, x31, x32, x33, x34, x35, x36, x37, x38, x39, x40, x41, x42, x43, x44, x45, x46] := by
  have g0 := h
  obtain ⟨x0, ys0, e0, g1⟩ := len_succ g0
  obtain ⟨x1, ys1, e1, g2⟩ := len_succ g1
  obtain ⟨x2, ys2, e2, g3⟩ := len_succ g2
  obtain ⟨x3, ys3, e3, g4⟩ := len_succ g3
  obtain ⟨x4, ys4, e4, g5⟩ := len_succ g4
  obtain ⟨x5, ys5, e5, g6⟩ := len_succ g5
  obtain ⟨x6, ys6, e6, g7⟩ := len_succ g6
  obtain ⟨x7, ys7, e7, g8⟩ := len_succ g7
  obtain ⟨x8, ys8, e8, g9⟩ := len_succ g8
  obtain ⟨x9, ys9, e9, g10⟩ := len_succ g9
  obtain ⟨x10, ys10, e10, g11⟩ := len_succ g10
  obtain ⟨x11, ys11, e11, g12⟩ := len_succ g11
  obtain ⟨x12, ys12, e12, g13⟩ := len_succ g12
  obtain ⟨x13, ys13, e13, g14⟩ := len_succ g13
  obtain ⟨x14, ys14, e14, g15⟩ := len_succ g14
  obtain ⟨x15, ys15, e15, g16⟩ := len_succ g15
  obtain ⟨x16, ys16, e16, g17⟩ := len_succ g16
  obtain ⟨x17, ys17, e17, g18⟩ := len_succ g17
  obtain ⟨x18, ys18, e18, g19⟩ := len_succ g18
  obtain ⟨x19, ys19, e19, g20⟩ := len_succ g19
  obtain ⟨x20, ys20, e20, g21⟩ := len_succ g20
  obtain ⟨x21, ys21, e21, g22⟩ := len_succ g21
  obtain ⟨x22, ys22, e22, g23⟩ := len_succ g22
  obtain ⟨x23, ys23, e23, g24⟩ := len_succ g23
  obtain ⟨x24, ys24, e24, g25⟩ := len_succ g24
  obtain ⟨x25, ys25, e25, g26⟩ := len_succ g25
  obtain ⟨x26, ys26, e26, g27⟩ := len_succ g26
  obtain ⟨x27, ys27, e27, g28⟩ := len_succ g27
  obtain ⟨x28, ys28, e28, g29⟩ := len_succ g28
  obtain ⟨x29, ys29, e29, g30⟩ := len_succ g29
  obtain ⟨x30, ys30, e30, g31⟩ := len_succ g30
  obtain ⟨x31, ys31, e31, g32⟩ := len_succ g31
  obtain ⟨x32, ys32, e32, g33⟩ := len_succ g32
  obtain ⟨x33, ys33, e33, g34⟩ := len_succ g33
  obtain ⟨x34, ys34, e34, g35⟩ := len_succ g34
  obtain ⟨x35, ys35, e35, g36⟩ := len_succ g35
  obtain ⟨x36, ys36, e36, g37⟩ := len_succ g36
  obtain ⟨x37, ys37, e37, g38⟩ := len_succ g37
  obtain ⟨x38, ys38, e38, g39⟩ := len_succ g38
  obtain ⟨x39, ys39, e39, g40⟩ := len_succ g39
  obtain ⟨x40, ys40, e40, g41⟩ := len_succ g40
  obtain ⟨x41, ys41, e41, g42⟩ := len_succ g41
  obtain ⟨x42, ys42, e42, g43⟩ := len_succ g42
  obtain ⟨x43, ys43, e43, g44⟩ := len_succ g43
  obtain ⟨x44, ys44, e44, g45⟩ := len_succ g44
  obtain ⟨x45, ys45, e45, g46⟩ := len_succ g45
  obtain ⟨x46, ys46, e46, g47⟩ := len_succ g46
  have e47 := List.eq_nil_of_length_eq_zero g47
  exact ⟨x0, x1, x2, x3, x4, x5, x6, x7, x8, x9, x10, x11, x12, x13, x14, x15, x16, x17, x18, x19, x20, x21, x22, x23, x24, x25, x26, x27, x28, x29, x30, x31, x32, x33, x34, x35, x36, x37, x38, x39, x40, x41, x42, x43, x44, x45, x46, by rw [e0, e1, e2, e3, e4, e5, e6, e7, e8, e9, e10, e11, e12, e13, e14, e15, e16, e17, e18, e19, e20, e21, e22, e23, e24, e25, e26, e27, e28, e29, e30, e31, e32, e33, e34, e35, e36, e37, e38, e39, e40, e41, e42, e43, e44, e45, e46, e47]⟩
def phiFwd (N b1 : Nat) (v3 v4 : Value) (makes ends : List (List Int)) (i : Nat) (v : Value) (lo hi : Nat) (w : World) : Prop :=
  match i with
  | 0 | 3 | 7 => v = .slice (some ⟨b1, 0, none⟩) N N
  | 1 | 4 | 8 => v = .int .i64 N
  | 5 => v = v3
  | 9 => v = v4
  | 2 => SetB N [] v lo hi w
  | 6 => SetB N makes v lo hi w
  | 10 => SetB N ends v lo hi w
  | 11 | 12 | 13 => BoxB 48 (.slice none 0 0) v lo hi w
  | _ => True
theorem phiFwd_stable (N b1 : Nat) (v3 v4 : Value) (makes ends : List (List Int)) : ∀ (i : Nat) (v : Value) (lo hi : Nat) (w w' : World), hi ≤ w.heap.size → phiFwd N b1 v3 v4 makes ends i v lo hi w → Below w.heap.size w w' → phiFwd N b1 v3 v4 makes ends i v lo hi w' := by
  intro i v lo hi w w' hhi h hb
  unfold phiFwd at h ⊢
  split at h <;> first | exact h | exact h.stable hb | exact h.stable hhi hb | trivial
set_option maxRecDepth 100000 in
set_option maxHeartbeats 4000000 in
theorem forward_any (A As A1 A2 : Option Addr) (n ns n1 n2 c cs c1 c2 : Nat) (m : List (List Int)) (en : Int) (start : List Int) (makes ends : List (List Int)) (w : World) (hs : RdM w (.slice A n c) m) (hst : RdL intC 1 w (.slice As ns cs) start) (hs1 : RdM w (.slice A1 n1 c1) makes) (hs2 : RdM w (.slice A2 n2 c2) ends)
    (hn : m.length ≤ 1048575) (hr20 : ∀ l ∈ m, l.length ≤ 524288) (hm20 : ∀ l ∈ makes, l.length ≤ 524288) (he20 : ∀ l ∈ ends, l.length ≤ 524288) (hU : (start ++ makes.flatten).length ≤ 524288) (hws : ∀ x ∈ start, I64w x) (hw1 : ∀ l ∈ makes, ∀ x ∈ l, I64w x) (hw2 : ∀ l ∈ ends, ∀ x ∈ l, I64w x) :
    Calls Try.prog 20 #[.slice A n c, .int .i64 en, .slice As ns cs, .slice A1 n1 c1, .slice A2 n2 c2] w (SolP w (Sol.cleanG m).length (Sol.InF (Sol.cleanG m) en start makes ends)) := by
  obtain ⟨N, hN⟩ : ∃ N, N = (Sol.cleanG m).length := ⟨_, rfl⟩
  have hNm : N = m.length := by rw [hN, Sol.cleanG_length]
  have HG := Lib.hid (Sol.cln_clean m)
  have HGR := Lib.hid (clean_rows (m := m) fun l hl => Nat.le_trans (hr20 l hl) (by decide : 524288 ≤ 1048576))
  have HC := Lib.hid (clean_any A n c m w hs (by omega) fun l hl => Nat.le_trans (hr20 l hl) (by decide : 524288 ≤ 1048576))
  have HRE := Lib.hid fun (W : World) (hW : Below w.heap.size w W) => reach_any A n c m en W (hs.next hW) (by omega) fun l hl => Nat.le_trans (hr20 l hl) (by decide : 524288 ≤ 1048576)
  have HS0 := Lib.hid fun (W : World) => sets_any N none 0 0 [] W (RdM.nil W) (by omega) (fun l hl => by cases hl) (fun l hl => by cases hl)
  have HS1 := Lib.hid fun (W : World) (hW : Below w.heap.size w W) => sets_any N A1 n1 c1 makes W (hs1.next hW) (by omega) (fun l hl => Nat.le_trans (hm20 l hl) (by decide : 524288 ≤ 1048576)) hw1
  have HS2 := Lib.hid fun (W : World) (hW : Below w.heap.size w W) => sets_any N A2 n2 c2 ends W (hs2.next hW) (by omega) (fun l hl => Nat.le_trans (he20 l hl) (by decide : 524288 ≤ 1048576)) hw2
  have HRL : Hid ((Sol.reachB (Sol.cleanG m) en).length = N) := Lib.hid (by rw [hN]; exact Sol.reachB_length _ _)
  have hN20 : N ≤ 1048575 := by omega
  have HU := Lib.hid hU
  have HM20 : Hid (∀ k : Nat, (Sol.rowI makes k).length ≤ 524288) := Lib.hid fun k => by
    by_cases h : k < makes.length
    · rw [rowI_nat (List.getElem?_eq_getElem h)]; exact hm20 _ (List.getElem_mem h)
    · rw [rowI_out (by omega)]; simp
  have HST := Lib.hid hst
  have HWS := Lib.hid hws
  obtain ⟨G, hGG⟩ : ∃ G, G = Sol.cleanG m := ⟨_, rfl⟩
  rw [← hGG] at hN HG HC HRE HRL HGR ⊢
  have HN := Lib.hid hN
  have hmf : ∀ (fn : Fn) (first cap : Array Value) (w : World), (Instr.makeFunc fn first cap).run Try.prog w = .ok (.func fn first cap) w := fun _ _ _ _ => rfl
  clear hs hs1 hs2 hr20 hm20 he20 hU hw1 hw2 hN hNm hGG hn hst hws
  have hA1 := cell_alloc_if
  have hA2 := frozen_alloc_if
  have hA3 := cell_set_if
  go_enter Try.func20, Try.ntmps20
  go_upto_region 2 with (first
    | (go_at_call 26; (with_reducible refine HC.out.mono ?_); rintro e w1 ⟨rfl, hm1, hb1⟩; have HM1 := Lib.hid hm1; rw [← HN.out]; clear hm1)
    | (go_at_call 10; (with_reducible refine (HRE.out w1 hb1).mono ?_); rintro e w2 ⟨bt, rfl, hm2, hb2⟩; have HM2 := Lib.hid hm2; rw [HRL.out]; clear hm2))
  have hz1 := hb1.size
  have hz2 := hb2.size
  obtain ⟨wg, hwg⟩ : ∃ wg, wg = (w2.alloc (.cells #[.slice (some ⟨w.heap.size, 0, none⟩) N N] 39)).alloc (.cells #[.slice (some ⟨bt, 0, none⟩) N N] 25) := ⟨_, rfl⟩
  rw [← hwg]
  have hp7 : w2.heap.size < wg.heap.size := by rw [hwg]; simp; omega
  have hp8 : w2.heap.size + 1 < wg.heap.size := by rw [hwg]; simp
  have HB7 : Hid (wg.heap[w2.heap.size]? = some (.cells #[.slice (some ⟨w.heap.size, 0, none⟩) N N] 39 (0, 0))) := Lib.hid (by
    rw [hwg]
    exact (heap_alloc_old' _ _ (by simp)).trans (heap_alloc_new w2 _))
  have HB8 : Hid (wg.heap[w2.heap.size + 1]? = some (.cells #[.slice (some ⟨bt, 0, none⟩) N N] 25 (0, 0))) := Lib.hid (by
    rw [hwg]
    have := heap_alloc_new (w2.alloc (.cells #[.slice (some ⟨w.heap.size, 0, none⟩) N N] 39)) (.cells #[.slice (some ⟨bt, 0, none⟩) N N] 25)
    simpa using this)
  have hbg2 : Below w2.heap.size w2 wg := by
    rw [hwg]
    exact ((Below.refl _ _).alloc (Nat.le_refl _) _).alloc (by simp) _
  have hbg : Below w.heap.size w wg := hb1.trans ((hb2.mono hz1).trans (hbg2.mono (by omega)))
  have HM1g := Lib.hid (HM1.out.next (hb2.trans (hbg2.mono hz2)))
  have HM2g := Lib.hid (HM2.out.next hbg2)
  have hc7 : wg.cell? ⟨w2.heap.size, 0, none⟩ = some (.slice (some ⟨w.heap.size, 0, none⟩) N N) := (cells_of_block HB7.out).1 0
  clear hwg HM1 HM2
  refine wp_region_phi 14 (phiFwd N w.heap.size (.slice A1 n1 c1) (.slice A2 n2 c2) makes ends) (by kernel_rfl) (by kernel_rfl) (phiFwd_stable _ _ _ _ _ _) ?_ ?_
  · refine ⟨?_, ?_, ?_, ?_, ?_, ?_, ?_, ?_, ?_, ?_, ?_, ?_, ?_, ?_, trivial⟩
    · refine ⟨rfl, fun a W K hz hd hsm hb hdep hK => ?_⟩
      obtain ⟨⟨xs⟩, df⟩ := a
      obtain ⟨x0, x1, x2, x3, x4, x5, x6, x7, x8, x9, x10, x11, x12, x13, x14, x15, x16, x17, x18, x19, x20, x21, x22, x23, x24, x25, x26, x27, x28, x29, x30, x31, x32, x33, x34, x35, x36, x37, x38, x39, x40, x41, x42, x43, x44, x45, x46, rfl⟩ := len47 (xs := xs) hz
      obtain rfl : df = [] := hd
      clear hz
      obtain rfl : x11 = .pointer (some ⟨w2.heap.size, 0, none⟩) := by simpa using hsm 11 (by kernel_rfl)
      have c7 := (hb.cell (p := ⟨w2.heap.size, 0, none⟩) hp7).trans hc7
      clear hsm hdep
      go_simp
      exact hK.out _ _ (Below.refl _ _) rfl
    · refine ⟨rfl, fun a W K hz hd hsm hb hdep hK => ?_⟩
      obtain ⟨⟨xs⟩, df⟩ := a
      obtain ⟨x0, x1, x2, x3, x4, x5, x6, x7, x8, x9, x10, x11, x12, x13, x14, x15, x16, x17, x18, x19, x20, x21, x22, x23, x24, x25, x26, x27, x28, x29, x30, x31, x32, x33, x34, x35, x36, x37, x38, x39, x40, x41, x42, x43, x44, x45, x46, rfl⟩ := len47 (xs := xs) hz
      obtain rfl : df = [] := hd
      clear hz
      obtain ⟨_, _, h15⟩ := hdep 0 21 (by kernel_rfl)
      have e15 : x21 = .slice (some ⟨w.heap.size, 0, none⟩) N N := h15
      subst e15
      clear hsm hdep h15
      go_simp
      exact hK.out _ _ (Below.refl _ _) rfl
    · refine ⟨rfl, fun a W K hz hd hsm hb hdep hK => ?_⟩
      obtain ⟨⟨xs⟩, df⟩ := a
      obtain ⟨x0, x1, x2, x3, x4, x5, x6, x7, x8, x9, x10, x11, x12, x13, x14, x15, x16, x17, x18, x19, x20, x21, x22, x23, x24, x25, x26, x27, x28, x29, x30, x31, x32, x33, x34, x35, x36, x37, x38, x39, x40, x41, x42, x43, x44, x45, x46, rfl⟩ := len47 (xs := xs) hz
      obtain rfl : df = [] := hd
      clear hz
      obtain ⟨_, _, h1⟩ := hdep 1 22 (by kernel_rfl)
      have e1 : x22 = .int .i64 N := h1
      subst e1
      clear hsm hdep h1
      have HCA := Lib.hid (HS0.out W)
      go_simp
      (go_at_call 35; (with_reducible refine HCA.out.mono ?_); intro e w7 hse)
      obtain ⟨v7, rfl, hv7, hb7⟩ := SetB.of_sets hse
      exact hK.out _ _ hb7 hv7
    · refine ⟨rfl, fun a W K hz hd hsm hb hdep hK => ?_⟩
      obtain ⟨⟨xs⟩, df⟩ := a
      obtain ⟨x0, x1, x2, x3, x4, x5, x6, x7, x8, x9, x10, x11, x12, x13, x14, x15, x16, x17, x18, x19, x20, x21, x22, x23, x24, x25, x26, x27, x28, x29, x30, x31, x32, x33, x34, x35, x36, x37, x38, x39, x40, x41, x42, x43, x44, x45, x46, rfl⟩ := len47 (xs := xs) hz
      obtain rfl : df = [] := hd
      clear hz
      obtain rfl : x11 = .pointer (some ⟨w2.heap.size, 0, none⟩) := by simpa using hsm 11 (by kernel_rfl)
      have c7 := (hb.cell (p := ⟨w2.heap.size, 0, none⟩) hp7).trans hc7
      clear hsm hdep
      go_simp
      exact hK.out _ _ (Below.refl _ _) rfl
    · refine ⟨rfl, fun a W K hz hd hsm hb hdep hK => ?_⟩
      obtain ⟨⟨xs⟩, df⟩ := a
      obtain ⟨x0, x1, x2, x3, x4, x5, x6, x7, x8, x9, x10, x11, x12, x13, x14, x15, x16, x17, x18, x19, x20, x21, x22, x23, x24, x25, x26, x27, x28, x29, x30, x31, x32, x33, x34, x35, x36, x37, x38, x39, x40, x41, x42, x43, x44, x45, x46, rfl⟩ := len47 (xs := xs) hz
      obtain rfl : df = [] := hd
      clear hz
      obtain ⟨_, _, h15⟩ := hdep 3 24 (by kernel_rfl)
      have e15 : x24 = .slice (some ⟨w.heap.size, 0, none⟩) N N := h15
      subst e15
      clear hsm hdep h15
      go_simp
      exact hK.out _ _ (Below.refl _ _) rfl
    · refine ⟨rfl, fun a W K hz hd hsm hb hdep hK => ?_⟩
      obtain ⟨⟨xs⟩, df⟩ := a
      obtain ⟨x0, x1, x2, x3, x4, x5, x6, x7, x8, x9, x10, x11, x12, x13, x14, x15, x16, x17, x18, x19, x20, x21, x22, x23, x24, x25, x26, x27, x28, x29, x30, x31, x32, x33, x34, x35, x36, x37, x38, x39, x40, x41, x42, x43, x44, x45, x46, rfl⟩ := len47 (xs := xs) hz
      obtain rfl : df = [] := hd
      clear hz
      obtain rfl : x3 = .slice A1 n1 c1 := by simpa using hsm 3 (by kernel_rfl)
      clear hsm hdep
      go_simp
      exact hK.out _ _ (Below.refl _ _) rfl
    · refine ⟨rfl, fun a W K hz hd hsm hb hdep hK => ?_⟩
      obtain ⟨⟨xs⟩, df⟩ := a
      obtain ⟨x0, x1, x2, x3, x4, x5, x6, x7, x8, x9, x10, x11, x12, x13, x14, x15, x16, x17, x18, x19, x20, x21, x22, x23, x24, x25, x26, x27, x28, x29, x30, x31, x32, x33, x34, x35, x36, x37, x38, x39, x40, x41, x42, x43, x44, x45, x46, rfl⟩ := len47 (xs := xs) hz
      obtain rfl : df = [] := hd
      clear hz
      obtain ⟨_, _, h1⟩ := hdep 4 25 (by kernel_rfl)
      obtain ⟨_, _, h2⟩ := hdep 5 26 (by kernel_rfl)
      have e1 : x25 = .int .i64 N := h1
      have e2 : x26 = .slice A1 n1 c1 := h2
      subst e1 e2
      clear hsm hdep h1 h2
      have HCA := Lib.hid (HS1.out W (hbg.trans (hb.mono (by omega))))
      go_simp
      (go_at_call 35; (with_reducible refine HCA.out.mono ?_); intro e w7 hse)
      obtain ⟨v7, rfl, hv7, hb7⟩ := SetB.of_sets hse
      exact hK.out _ _ hb7 hv7
    · refine ⟨rfl, fun a W K hz hd hsm hb hdep hK => ?_⟩
      obtain ⟨⟨xs⟩, df⟩ := a
      obtain ⟨x0, x1, x2, x3, x4, x5, x6, x7, x8, x9, x10, x11, x12, x13, x14, x15, x16, x17, x18, x19, x20, x21, x22, x23, x24, x25, x26, x27, x28, x29, x30, x31, x32, x33, x34, x35, x36, x37, x38, x39, x40, x41, x42, x43, x44, x45, x46, rfl⟩ := len47 (xs := xs) hz
      obtain rfl : df = [] := hd
      clear hz
      obtain rfl : x11 = .pointer (some ⟨w2.heap.size, 0, none⟩) := by simpa using hsm 11 (by kernel_rfl)
      have c7 := (hb.cell (p := ⟨w2.heap.size, 0, none⟩) hp7).trans hc7
      clear hsm hdep
      go_simp
      exact hK.out _ _ (Below.refl _ _) rfl
    · refine ⟨rfl, fun a W K hz hd hsm hb hdep hK => ?_⟩
      obtain ⟨⟨xs⟩, df⟩ := a
      obtain ⟨x0, x1, x2, x3, x4, x5, x6, x7, x8, x9, x10, x11, x12, x13, x14, x15, x16, x17, x18, x19, x20, x21, x22, x23, x24, x25, x26, x27, x28, x29, x30, x31, x32, x33, x34, x35, x36, x37, x38, x39, x40, x41, x42, x43, x44, x45, x46, rfl⟩ := len47 (xs := xs) hz
      obtain rfl : df = [] := hd
      clear hz
      obtain ⟨_, _, h15⟩ := hdep 7 28 (by kernel_rfl)
      have e15 : x28 = .slice (some ⟨w.heap.size, 0, none⟩) N N := h15
      subst e15
      clear hsm hdep h15
      go_simp
      exact hK.out _ _ (Below.refl _ _) rfl
    · refine ⟨rfl, fun a W K hz hd hsm hb hdep hK => ?_⟩
      obtain ⟨⟨xs⟩, df⟩ := a
      obtain ⟨x0, x1, x2, x3, x4, x5, x6, x7, x8, x9, x10, x11, x12, x13, x14, x15, x16, x17, x18, x19, x20, x21, x22, x23, x24, x25, x26, x27, x28, x29, x30, x31, x32, x33, x34, x35, x36, x37, x38, x39, x40, x41, x42, x43, x44, x45, x46, rfl⟩ := len47 (xs := xs) hz
      obtain rfl : df = [] := hd
      clear hz
      obtain rfl : x4 = .slice A2 n2 c2 := by simpa using hsm 4 (by kernel_rfl)
      clear hsm hdep
      go_simp
      exact hK.out _ _ (Below.refl _ _) rfl
    · refine ⟨rfl, fun a W K hz hd hsm hb hdep hK => ?_⟩
      obtain ⟨⟨xs⟩, df⟩ := a
      obtain ⟨x0, x1, x2, x3, x4, x5, x6, x7, x8, x9, x10, x11, x12, x13, x14, x15, x16, x17, x18, x19, x20, x21, x22, x23, x24, x25, x26, x27, x28, x29, x30, x31, x32, x33, x34, x35, x36, x37, x38, x39, x40, x41, x42, x43, x44, x45, x46, rfl⟩ := len47 (xs := xs) hz
      obtain rfl : df = [] := hd
      clear hz
      obtain ⟨_, _, h1⟩ := hdep 8 29 (by kernel_rfl)
      obtain ⟨_, _, h2⟩ := hdep 9 30 (by kernel_rfl)
      have e1 : x29 = .int .i64 N := h1
      have e2 : x30 = .slice A2 n2 c2 := h2
      subst e1 e2
      clear hsm hdep h1 h2
      have HCA := Lib.hid (HS2.out W (hbg.trans (hb.mono (by omega))))
      go_simp
      (go_at_call 35; (with_reducible refine HCA.out.mono ?_); intro e w7 hse)
      obtain ⟨v7, rfl, hv7, hb7⟩ := SetB.of_sets hse
      exact hK.out _ _ hb7 hv7
    · refine ⟨rfl, fun a W K hz hd hsm hb hdep hK => ?_⟩
      obtain ⟨⟨xs⟩, df⟩ := a
      obtain ⟨x0, x1, x2, x3, x4, x5, x6, x7, x8, x9, x10, x11, x12, x13, x14, x15, x16, x17, x18, x19, x20, x21, x22, x23, x24, x25, x26, x27, x28, x29, x30, x31, x32, x33, x34, x35, x36, x37, x38, x39, x40, x41, x42, x43, x44, x45, x46, rfl⟩ := len47 (xs := xs) hz
      obtain rfl : df = [] := hd
      clear hz
      clear hsm hdep
      go_simp
      exact hK.out _ _ ((Below.refl _ _).alloc (Nat.le_refl _) _) ⟨rfl, by simp, heap_alloc_new W _⟩
    · refine ⟨rfl, fun a W K hz hd hsm hb hdep hK => ?_⟩
      obtain ⟨⟨xs⟩, df⟩ := a
      obtain ⟨x0, x1, x2, x3, x4, x5, x6, x7, x8, x9, x10, x11, x12, x13, x14, x15, x16, x17, x18, x19, x20, x21, x22, x23, x24, x25, x26, x27, x28, x29, x30, x31, x32, x33, x34, x35, x36, x37, x38, x39, x40, x41, x42, x43, x44, x45, x46, rfl⟩ := len47 (xs := xs) hz
      obtain rfl : df = [] := hd
      clear hz
      clear hsm hdep
      go_simp
      exact hK.out _ _ ((Below.refl _ _).alloc (Nat.le_refl _) _) ⟨rfl, by simp, heap_alloc_new W _⟩
    · refine ⟨rfl, fun a W K hz hd hsm hb hdep hK => ?_⟩
      obtain ⟨⟨xs⟩, df⟩ := a
      obtain ⟨x0, x1, x2, x3, x4, x5, x6, x7, x8, x9, x10, x11, x12, x13, x14, x15, x16, x17, x18, x19, x20, x21, x22, x23, x24, x25, x26, x27, x28, x29, x30, x31, x32, x33, x34, x35, x36, x37, x38, x39, x40, x41, x42, x43, x44, x45, x46, rfl⟩ := len47 (xs := xs) hz
      obtain rfl : df = [] := hd
      clear hz
      clear hsm hdep
      go_simp
      exact hK.out _ _ ((Below.refl _ _).alloc (Nat.le_refl _) _) ⟨rfl, by simp, heap_alloc_new W _⟩
  · intro I a w3 hz hd hsm hb hphi hivl hap hord
    obtain ⟨⟨xs⟩, df⟩ := a
    obtain ⟨x0, x1, x2, x3, x4, x5, x6, x7, x8, x9, x10, x11, x12, x13, x14, x15, x16, x17, x18, x19, x20, x21, x22, x23, x24, x25, x26, x27, x28, x29, x30, x31, x32, x33, x34, x35, x36, x37, x38, x39, x40, x41, x42, x43, x44, x45, x46, rfl⟩ := len47 (xs := xs) hz
    obtain rfl : df = [] := hd
    clear hz
    have h3 : SetB N [] x23 (I 2).1 (I 2).2 w3 := hphi 2 _ 23 (by omega) rfl rfl
    have h6 : SetB N makes x27 (I 6).1 (I 6).2 w3 := hphi 6 _ 27 (by omega) rfl rfl
    have h7 : SetB N ends x31 (I 10).1 (I 10).2 w3 := hphi 10 _ 31 (by omega) rfl rfl
    have h8 : BoxB 48 (.slice none 0 0) x13 (I 11).1 (I 11).2 w3 := hphi 11 _ 13 (by omega) rfl rfl
    have h9 : BoxB 48 (.slice none 0 0) x14 (I 12).1 (I 12).2 w3 := hphi 12 _ 14 (by omega) rfl rfl
    have h10 : BoxB 48 (.slice none 0 0) x15 (I 13).1 (I 13).2 w3 := hphi 13 _ 15 (by omega) rfl rfl
    obtain rfl : x11 = .pointer (some ⟨w2.heap.size, 0, none⟩) := by simpa using hsm 11 (by kernel_rfl)
    obtain rfl : x12 = .pointer (some ⟨w2.heap.size + 1, 0, none⟩) := by simpa using hsm 12 (by kernel_rfl)
    obtain rfl : x1 = .int .i64 en := by simpa using hsm 1 (by kernel_rfl)
    obtain rfl : x2 = .slice As ns cs := by simpa using hsm 2 (by kernel_rfl)
    have v2 := hivl 2 (by omega)
    have v6 := hivl 6 (by omega)
    have v10 := hivl 10 (by omega)
    have v11 := hivl 11 (by omega)
    have v12 := hivl 12 (by omega)
    have v13 := hivl 13 (by omega)
    have d2_11 := hap 2 11 (by omega) (by omega) (by omega)
    have d2_12 := hap 2 12 (by omega) (by omega) (by omega)
    have d2_13 := hap 2 13 (by omega) (by omega) (by omega)
    have d6_11 := hap 6 11 (by omega) (by omega) (by omega)
    have d6_12 := hap 6 12 (by omega) (by omega) (by omega)
    have d6_13 := hap 6 13 (by omega) (by omega) (by omega)
    have d10_11 := hap 10 11 (by omega) (by omega) (by omega)
    have d10_12 := hap 10 12 (by omega) (by omega) (by omega)
    have d10_13 := hap 10 13 (by omega) (by omega) (by omega)
    have d11_12 := hap 11 12 (by omega) (by omega) (by omega)
    have d11_13 := hap 11 13 (by omega) (by omega) (by omega)
    have d12_13 := hap 12 13 (by omega) (by omega) (by omega)
    have o26 := hord 2 6 (by omega) (by omega) (by kernel_rfl)
    have o610 := hord 6 10 (by omega) (by omega) (by kernel_rfl)
    clear hphi hsm hivl hap hord
    generalize I 2 = i3 at *
    generalize I 6 = i6 at *
    generalize I 10 = i7 at *
    generalize I 11 = i8 at *
    generalize I 12 = i9 at *
    generalize I 13 = i10 at *
    obtain ⟨bi, ti⟩ := i3
    obtain ⟨bm, tm⟩ := i6
    obtain ⟨bb, tb⟩ := i7
    obtain ⟨pi, ei⟩ := i8
    obtain ⟨pm, em⟩ := i9
    obtain ⟨pb, eb⟩ := i10
    dsimp only at *
    obtain ⟨rfl, hbi, os, hS, hfull, hlim⟩ := h3
    obtain ⟨rfl, hbm, osm, hSm, hfullm, hlimm⟩ := h6
    obtain ⟨rfl, hbb, osb, hSb, hfullb, hlimb⟩ := h7
    obtain ⟨rfl, hl8, hx8⟩ := h8
    obtain ⟨rfl, hl9, hx9⟩ := h9
    obtain ⟨rfl, hl10, hx10⟩ := h10
    rw [setsOf_nil] at hS
    have hne1 : pi ≠ pm := by omega
    have hne2 : pi ≠ pb := by omega
    have hne3 : pm ≠ pb := by omega
    have hzb := hb.size
    obtain ⟨w4, hw4⟩ : ∃ w4, w4 = ((w3.setCell ⟨pi, 0, none⟩ (.slice (some ⟨bi, 0, none⟩) N N)).setCell ⟨pm, 0, none⟩ (.slice (some ⟨bm, 0, none⟩) N N)).setCell ⟨pb, 0, none⟩ (.slice (some ⟨bb, 0, none⟩) N N) := ⟨_, rfl⟩
    have hkeep : ∀ b, b ≠ pi → b ≠ pm → b ≠ pb → w4.heap[b]? = w3.heap[b]? := fun b h1 h2 h3 => by rw [hw4]; exact (setC_other _ pb 0 _ h3).trans ((setC_other _ pm 0 _ h2).trans (setC_other _ pi 0 _ h1))
    have hboxi : w4.heap[pi]? = some (.cells #[.slice (some ⟨bi, 0, none⟩) N N] 48 (0, 0)) := by rw [hw4]; exact (setC_other _ pb 0 _ hne2).trans ((setC_other _ pm 0 _ hne1).trans (setC_same hx8 _))
    have hboxm : w4.heap[pm]? = some (.cells #[.slice (some ⟨bm, 0, none⟩) N N] 48 (0, 0)) := by rw [hw4]; exact (setC_other _ pb 0 _ hne3).trans (setC_same ((setC_other w3 pi 0 _ (Ne.symm hne1)).trans hx9) _)
    have hboxb : w4.heap[pb]? = some (.cells #[.slice (some ⟨bb, 0, none⟩) N N] 48 (0, 0)) := by rw [hw4]; exact setC_same ((setC_other _ pm 0 _ (Ne.symm hne3)).trans ((setC_other w3 pi 0 _ (Ne.symm hne2)).trans hx10)) _
    have hS4 : SetV bi w4 bi os (List.replicate N []) := hS.keepF (hkeep bi (by omega) (by omega) (by omega)) fun i q hq => by
      have h1 := hlim i q hq
      have h2 := (hS.rowLt hq).2.1
      exact hkeep q (by omega) (by omega) (by omega)
    have hSm4 : SetV bm w4 bm osm (setsOf N makes) := hSm.keepF (hkeep bm (by omega) (by omega) (by omega)) fun i q hq => by
      have h1 := hlimm i q hq
      have h2 := (hSm.rowLt hq).2.1
      exact hkeep q (by omega) (by omega) (by omega)
    have hSb4 : SetV bb w4 bb osb (setsOf N ends) := hSb.keepF (hkeep bb (by omega) (by omega) (by omega)) fun i q hq => by
      have h1 := hlimb i q hq
      have h2 := (hSb.rowLt hq).2.1
      exact hkeep q (by omega) (by omega) (by omega)
    have hb4 : Below wg.heap.size wg w4 := by
      rw [hw4]
      exact ((hb.setCell (by dsimp only; omega) _).setCell (by dsimp only; omega) _).setCell (by dsimp only; omega) _
    have hzg : w.heap.size ≤ wg.heap.size := hbg.size
    have hz4 : wg.heap.size ≤ w4.heap.size := hb4.size
    have hz34 : w4.heap.size = w3.heap.size := by rw [hw4]; simp [World.setCell]
    have hF : FwdF bi bm bb N wg w4 w2.heap.size (w2.heap.size + 1) pi pm pb bt bi bm bb os osm osb (some ⟨w.heap.size, 0, none⟩) N G (setsOf N makes) (setsOf N ends) (Sol.reachB G en) :=
      { g := by have h := HM1g.out.rdm (by rw [← HN.out]; unfold maxLen; omega); rw [← HN.out] at h; exact h
        t := HM2g.out
        below := hb4
        gb := by omega
        m := hSm4
        e := hSb4
        hos := fun i q hq => by
          have h1 := hlim i q hq
          have h2 := (hS.rowLt hq).2.1
          refine ⟨by omega, by omega, by omega, by omega, by omega, by omega, by omega⟩
        boxg := (hb4.block _ (by omega)).trans HB7.out
        boxt := (hb4.block _ (by omega)).trans HB8.out
        boxi := hboxi
        boxm := hboxm
        boxb := hboxb
        full := hfull
        fullm := hfullm
        fulle := hfullb
        lenG := HN.out.symm
        lenM := setsOf_length _ _
        lenE := setsOf_length _ _
        lenT := HRL.out
        low := by omega }
    have HF := Lib.hid hF
    have hIn4 := InS.start hS4
    have HIN4 := Lib.hid hIn4
    have HWK : Hid (∀ w5, InS bi w4 w5 bi os (Sol.firstF N en start) → Calls Try.prog 36 #[.int .i64 N, .func (.func 42) #[] #[.pointer (some ⟨w2.heap.size, 0, none⟩), .pointer (some ⟨w2.heap.size + 1, 0, none⟩), .pointer (some ⟨pi, 0, none⟩), .pointer (some ⟨pm, 0, none⟩), .pointer (some ⟨pb, 0, none⟩)]] w5 (WorkP bi N (fun a W => InS bi w5 W bi os a) (Sol.invF G makes ends en start) (Sol.closedF G makes ends en) w5)) := Lib.hid fun w5 h5 =>
      work_any (σ := List (List Int)) bi N 42 _ (fun a W => InS bi w5 W bi os a) (Sol.invF G makes ends en start) (Sol.closedF G makes ends en) (Sol.roomOf (start ++ makes.flatten).length) (Sol.lookF G makes ends (Sol.reachB G en)) (Sol.firstF N en start) w5
        (by rw [HN.out]; exact Sol.lookF_ok HG.out makes ends en start) (by omega) (HF.out.at_ h5).low (fun s W W' hb h => h.next (HF.out.at_ h5).low hb) (InS.start h5.v) (by rw [HN.out]; exact Sol.firstF_inv) (enters_of Try.func42 (by kernel_rfl) rfl)
        (fun s i W hI hi hR hz => fwd1_any bi bm bb N wg w5 _ _ pi pm pb bt bi bm bb os osm osb _ _ G _ _ makes ends en start (HF.out.at_ h5) HG.out rfl rfl HU.out HM20.out HGR.out s i hi W hR hI)
    obtain ⟨c8, f8⟩ := cells_of_block hx8
    obtain ⟨c9, f9⟩ := cells_of_block hx9
    obtain ⟨c10, f10⟩ := cells_of_block hx10
    have c80 := c8 0
    have c90 := c9 0
    have c100 := c10 0
    simp at c80 c90 c100
    have c73 : w3.cell? ⟨w2.heap.size, 0, none⟩ = some (.slice (some ⟨w.heap.size, 0, none⟩) N N) := (hb.cell (p := ⟨w2.heap.size, 0, none⟩) hp7).trans hc7
    have n7i : w2.heap.size ≠ pi := by omega
    have n7m : w2.heap.size ≠ pm := by omega
    have n7b : w2.heap.size ≠ pb := by omega
    have HW4 := Lib.hid hw4
    clear c8 c9 c10 hx8 hx9 hx10 hS hSb hS4 hSb4 hSm hSm4 hfull hlim hfullm hlimm hfullb hlimb hkeep hboxi hboxm hboxb hF hc7 hw4 hIn4
    clear d2_11 d2_12 d2_13 d6_11 d6_12 d6_13 d10_11 d10_12 d10_13
    have hz12 : start.length ≤ 524288 := by have := HU.out; rw [List.length_append] at this; omega
    have hbw4 : Below w.heap.size w w4 := hbg.trans (hb4.mono hzg)
    clear hl8 hl9 hl10
    by_cases hen : Sol.InR N en
    · have HHB := Lib.hid (inB_yes hen)
      have hen0 := hen
      unfold Sol.InR at hen0
      obtain ⟨eN, rfl⟩ : ∃ k : Nat, en = (k : Int) := ⟨en.toNat, by omega⟩
      have heN : eN < N := by omega
      obtain ⟨qe, hqe, hme, hqb, _, ce⟩ := HIN4.out.at_ HF.out.full (by simp) heN
      have hadd := add_any qe [] As ns cs start w4 (by rw [getD_replicate] at hme; exact hme) (HST.out.next hbw4) (fun hp => by
        obtain ⟨y, hy⟩ : ∃ y, start[0]? = some y := ⟨_, List.getElem?_eq_getElem hp⟩
        obtain ⟨b3, off3, e3, _, hb3, _⟩ := HST.out.intAt hy
        rw [e3]
        intro e
        have : b3 = qe := Option.some.inj e
        omega) HWS.out (by simp) (by omega)
      have HADD := Lib.hid hadd
      have HQE := Lib.hid hqe
      have HFI : Hid (Sol.firstF N (eN : Int) start = (List.replicate N []).set eN (Sol.passL [] [] start)) := Lib.hid (by
        unfold Sol.firstF
        rw [if_pos hen, Int.toNat_natCast])
      have c74 := HIN4.out.cell HF.out.boxg fun i q hq => (HF.out.hos i q hq).2.2.1
      have c75 := HIN4.out.cell HF.out.boxi fun i q hq => (HF.out.hos i q hq).2.2.2.2.1
      clear hadd hqe hme hen hen0
      go_wp2_with (first
        | (go_at_call 27; (with_reducible refine (ghas_any _ _ _ _ _ (by omega)).mono ?_); rintro e w5 ⟨rfl, rfl⟩; rw [HHB.out, ← HW4.out])
        | (go_at_call 41; (with_reducible refine HADD.out.mono ?_); rintro e w5 ⟨rfl, hm5, hg5⟩; have HIN5 : Hid (InS bi w4 w5 bi os (Sol.firstF N (eN : Int) start)) := Lib.hid (HFI.out ▸ HIN4.out.turn HF.out.low HQE.out hg5 hm5); have c76 := HIN5.out.cell HF.out.boxg (fun i q hq => (HF.out.hos i q hq).2.2.1); clear hm5 hg5)
        | (go_at_call 36; (with_reducible refine (HWK.out w5 HIN5.out).mono ?_); rintro e w6 ⟨rfl, a5, hin5, hinv5, hcl5, hb5⟩; have c5 := hin5.cell (HF.out.at_ HIN5.out).boxi (fun i q hq => (HF.out.hos i q hq).2.2.2.2.1); have HIN6 := Lib.hid hin5; have HINV5 := Lib.hid hinv5; have HCL5 := Lib.hid hcl5; clear hin5 hinv5 hcl5; have HLI := Lib.hid (lists_of HIN6.out.v (HINV5.out.1.len.trans HN.out.symm) (by omega) HINV5.out.1 (by have := HU.out; omega)))
        | (go_at_call 39; (with_reducible refine HLI.out.mono ?_); rintro e w7 ⟨rfl, hm7, hb7⟩; have HM7 := Lib.hid hm7; clear hm7))
      go_ret
      have hl5 : a5.length = N := by rw [HINV5.out.1.len, HN.out]
      have hz5 := hb5.size
      have hz7 := hb7.size
      have hb45 := HIN5.out.bel
      have hz45 := hb45.size
      refine ⟨a5, w6.heap.size, Sol.solF HG.out HINV5.out.1 HINV5.out.2 (fun he i hi hr k hk => HCL5.out i (by rw [HN.out]; exact hi) he hr k hk), rfl, HM7.out.rdm (by rw [hl5]; unfold maxLen; omega), ?_⟩
      exact hbw4.trans ((hb45.mono (by omega)).trans ((hb5.mono (by omega)).trans (hb7.mono (by omega))))
    · have HHB := Lib.hid (inB_no hen)
      have HFI : Hid (Sol.firstF N en start = List.replicate N []) := Lib.hid (by
        unfold Sol.firstF
        rw [if_neg hen])
      obtain ⟨w5, hw5⟩ : ∃ w5, w5 = w4 := ⟨_, rfl⟩
      have HIN5 : Hid (InS bi w4 w5 bi os (Sol.firstF N en start)) := Lib.hid (by rw [HFI.out, hw5]; exact HIN4.out)
      have c76 := HIN5.out.cell HF.out.boxg fun i q hq => (HF.out.hos i q hq).2.2.1
      have HW5 : Hid (w5 = _) := Lib.hid (hw5.trans HW4.out)
      clear hen hw5
      go_wp2_with (first
        | (go_at_call 27; (with_reducible refine (ghas_any _ _ _ _ _ (by omega)).mono ?_); rintro e w5' ⟨rfl, rfl⟩; rw [HHB.out, ← HW5.out])
        | (go_at_call 36; (with_reducible refine (HWK.out w5 HIN5.out).mono ?_); rintro e w6 ⟨rfl, a5, hin5, hinv5, hcl5, hb5⟩; have c5 := hin5.cell (HF.out.at_ HIN5.out).boxi (fun i q hq => (HF.out.hos i q hq).2.2.2.2.1); have HIN6 := Lib.hid hin5; have HINV5 := Lib.hid hinv5; have HCL5 := Lib.hid hcl5; clear hin5 hinv5 hcl5; have HLI := Lib.hid (lists_of HIN6.out.v (HINV5.out.1.len.trans HN.out.symm) (by omega) HINV5.out.1 (by have := HU.out; omega)))
        | (go_at_call 39; (with_reducible refine HLI.out.mono ?_); rintro e w7 ⟨rfl, hm7, hb7⟩; have HM7 := Lib.hid hm7; clear hm7))
      go_ret
      have hl5 : a5.length = N := by rw [HINV5.out.1.len, HN.out]
      have hz5 := hb5.size
      have hz7 := hb7.size
      have hb45 := HIN5.out.bel
      have hz45 := hb45.size
      refine ⟨a5, w6.heap.size, Sol.solF HG.out HINV5.out.1 HINV5.out.2 (fun he i hi hr k hk => HCL5.out i (by rw [HN.out]; exact hi) he hr k hk), rfl, HM7.out.rdm (by rw [hl5]; unfold maxLen; omega), ?_⟩
      exact hbw4.trans ((hb45.mono (by omega)).trans ((hb5.mono (by omega)).trans (hb7.mono (by omega))))
end Go.Proofs.Ytadcjmfednachaa
