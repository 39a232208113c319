/-
  Backward.
-/
import Derived.Test.YtadcjmfednachaaSolW30
import Derived.Test.YtadcjmfednachaaSolW24
import Derived.Test.YtadcjmfednachaaSolW18
import Derived.Test.YtadcjmfednachaaSolW16
import Derived.Test.YtadcjmfednachaaPhi
namespace Go.Proofs.Ytadcjmfednachaa
open Go.RowKit Go.Maps Go.WideShapes Go.ChangeShapes Go.Deep
set_option linter.unusedVariables false
set_option linter.unusedSimpArgs false

/-- A row of sets in its own blocks [lo, hi). -/
def SetB (N : Nat) (m : List (List Int)) (v : Value) (lo hi : Nat) (w : World) : Prop :=
  v = .slice (some ⟨lo, 0, none⟩) N N ∧ lo < hi ∧ ∃ os, SetV lo w lo os (setsOf N m) ∧ Full os N ∧ ∀ (i q : Nat), os[i]? = some (some q) → q < hi
def BoxB (T : TypeId) (x : Value) (v : Value) (lo hi : Nat) (w : World) : Prop := v = .pointer (some ⟨lo, 0, none⟩) ∧ lo < hi ∧ w.heap[lo]? = some (.cells #[x] T (0, 0))
theorem SetB.stable {N : Nat} {m : List (List Int)} {v : Value} {lo hi : Nat} {w w' : World} (h : SetB N m v lo hi w) (hb : Below w.heap.size w w') : SetB N m v lo hi w' := by
  obtain ⟨h1, h2, os, h3, h4⟩ := h
  exact ⟨h1, h2, os, h3.next hb, h4⟩
theorem BoxB.stable {T : TypeId} {x v : Value} {lo hi : Nat} {w w' : World} (h : BoxB T x v lo hi w) (hhi : hi ≤ w.heap.size) (hb : Below w.heap.size w w') : BoxB T x v lo hi w' := by
  obtain ⟨h1, h2, h3⟩ := h
  exact ⟨h1, h2, (hb.block lo (by omega)).trans h3⟩
theorem SetB.of_sets {N : Nat} {m : List (List Int)} {w w' : World} {e : Ending} (h : SetsP w (setsOf N m) e w') : ∃ v, e = .returned v ∧ SetB N m v w.heap.size w'.heap.size w' ∧ Below w.heap.size w w' := by
  obtain ⟨rfl, ⟨os, h1, h2⟩, h3⟩ := h
  rw [setsOf_length] at h2
  exact ⟨_, rfl, ⟨by rw [setsOf_length], h1.lt, os, h1, h2, fun i q hq => (h1.rowLt hq).1⟩, h3⟩
/-- The box is filled. -/
theorem setC_same {w : World} {b : Nat} {x : Value} {T : TypeId} (h : w.heap[b]? = some (.cells #[x] T (0, 0))) (v : Value) : (w.setCell ⟨b, 0, none⟩ v).heap[b]? = some (.cells #[v] T (0, 0)) := by
  simp only [World.setCell, Array.getElem?_modify, if_true, h]
  simp
/-- What the program's Backward and Forward answer. -/
def SolP (w : World) (n : Nat) (R : Int → Int → Prop) (e : Ending) (w' : World) : Prop :=
  ∃ a b, Sol.IsSol n R a ∧ e = .returned (.slice (some ⟨b, 0, none⟩) a.length a.length) ∧ RdM w' (.slice (some ⟨b, 0, none⟩) a.length a.length) a ∧ Below w.heap.size w w'
theorem len29 {xs : List Value} (h : xs.length = 29) : ∃ x0 x1 x2 x3 x4 x5 x6 x7 x8 x9 x10 x11 x12 x13 x14 x15 x16 x17 x18 x19 x20 x21 x22 x23 x24 x25 x26 x27 x28 : Value, xs = [x0, x1, x2, x3, x4, x5, x6, x7, x8, x9, x10, x11, x12, x13, x14, x15, x16, x17, x18, x19, x20, x21, x22, x23, x24, x25, x26, x27, x28] := by
  have g0 := h
  obtain ⟨x0, ys0, e0, g1⟩ := len_succ g0
  obtain ⟨x1, ys1, e1, g2⟩ := len_succ g1
  obtain ⟨x2, ys2, e2, g3⟩ := len_succ g2
  obtain ⟨x3, ys3, e3, g4⟩ := len_succ g3
  obtain ⟨x4, ys4, e4, g5⟩ := len_succ g4
  obtain ⟨x5, ys5, e5, g6⟩ := len_succ g5
  obtain ⟨x6, ys6, e6, g7⟩ := len_succ g6
  obtain ⟨x7, ys7, e7, g8⟩ := len_succ g7
  obtain ⟨x8, ys8, e8, g9⟩ := len_succ g8
  obtain ⟨x9, ys9, e9, g10⟩ := len_succ g9
  obtain ⟨x10, ys10, e10, g11⟩ := len_succ g10
  obtain ⟨x11, ys11, e11, g12⟩ := len_succ g11
  obtain ⟨x12, ys12, e12, g13⟩ := len_succ g12
  obtain ⟨x13, ys13, e13, g14⟩ := len_succ g13
  obtain ⟨x14, ys14, e14, g15⟩ := len_succ g14
  obtain ⟨x15, ys15, e15, g16⟩ := len_succ g15
  obtain ⟨x16, ys16, e16, g17⟩ := len_succ g16
  obtain ⟨x17, ys17, e17, g18⟩ := len_succ g17
  obtain ⟨x18, ys18, e18, g19⟩ := len_succ g18
  obtain ⟨x19, ys19, e19, g20⟩ := len_succ g19
  obtain ⟨x20, ys20, e20, g21⟩ := len_succ g20
  obtain ⟨x21, ys21, e21, g22⟩ := len_succ g21
  obtain ⟨x22, ys22, e22, g23⟩ := len_succ g22
  obtain ⟨x23, ys23, e23, g24⟩ := len_succ g23
  obtain ⟨x24, ys24, e24, g25⟩ := len_succ g24
  obtain ⟨x25, ys25, e25, g26⟩ := len_succ g25
  obtain ⟨x26, ys26, e26, g27⟩ := len_succ g26
  obtain ⟨x27, ys27, e27, g28⟩ := len_succ g27
  obtain ⟨x28, ys28, e28, g29⟩ := len_succ g28
  have e29 := List.eq_nil_of_length_eq_zero g29
  exact ⟨x0, x1, x2, x3, x4, x5, x6, x7, x8, x9, x10, x11, x12, x13, x14, x15, x16, x17, x18, x19, x20, x21, x22, x23, x24, x25, x26, x27, x28, by rw [e0, e1, e2, e3, e4, e5, e6, e7, e8, e9, e10, e11, e12, e13, e14, e15, e16, e17, e18, e19, e20, e21, e22, e23, e24, e25, e26, e27, e28, e29]⟩
def phiBack (N b1 p7 : Nat) (v1 v2 : Value) (uses ends : List (List Int)) (i : Nat) (v : Value) (lo hi : Nat) (w : World) : Prop :=
  match i with
  | 0 | 4 => v = .slice (some ⟨b1, 0, none⟩) N N
  | 1 | 5 => v = .int .i64 N
  | 2 => v = v1
  | 6 => v = v2
  | 3 => SetB N uses v lo hi w
  | 7 => SetB N ends v lo hi w
  | 8 | 9 => BoxB 48 (.slice none 0 0) v lo hi w
  | _ => True
theorem phiBack_stable (N b1 p7 : Nat) (v1 v2 : Value) (uses ends : List (List Int)) : ∀ (i : Nat) (v : Value) (lo hi : Nat) (w w' : World), hi ≤ w.heap.size → phiBack N b1 p7 v1 v2 uses ends i v lo hi w → Below w.heap.size w w' → phiBack N b1 p7 v1 v2 uses ends i v lo hi w' := by
  intro i v lo hi w w' hhi h hb
  unfold phiBack at h ⊢
  split at h <;> first | exact h | exact h.stable hb | exact h.stable hhi hb | trivial
set_option maxRecDepth 100000 in
set_option maxHeartbeats 4000000 in
theorem backward_any (A A1 A2 : Option Addr) (n n1 n2 c c1 c2 : Nat) (m uses ends : List (List Int)) (w : World) (hs : RdM w (.slice A n c) m) (hs1 : RdM w (.slice A1 n1 c1) uses) (hs2 : RdM w (.slice A2 n2 c2) ends)
    (hn : m.length ≤ 1048575) (hr20 : ∀ l ∈ m, l.length ≤ 1048576) (hu20 : ∀ l ∈ uses, l.length ≤ 1048576) (he20 : ∀ l ∈ ends, l.length ≤ 1048576) (hU : uses.flatten.length ≤ 1048576) (hw1 : ∀ l ∈ uses, ∀ x ∈ l, I64w x) (hw2 : ∀ l ∈ ends, ∀ x ∈ l, I64w x) :
    Calls Try.prog 18 #[.slice A n c, .slice A1 n1 c1, .slice A2 n2 c2] w (SolP w (Sol.cleanG m).length (Sol.InB (Sol.cleanG m) uses ends)) := by
  obtain ⟨N, hN⟩ : ∃ N, N = (Sol.cleanG m).length := ⟨_, rfl⟩
  have hNm : N = m.length := by rw [hN, Sol.cleanG_length]
  have HG := Lib.hid (Sol.cln_clean m)
  have HC := Lib.hid (clean_any A n c m w hs (by omega) hr20)
  have HBF := Lib.hid fun (W : World) (hW : Below w.heap.size w W) => before_any A n c m W (hs.next hW) hn hr20
  have HS1 := Lib.hid fun (W : World) (hW : Below w.heap.size w W) => sets_any N A1 n1 c1 uses W (hs1.next hW) (by omega) hu20 hw1
  have HS2 := Lib.hid fun (W : World) (hW : Below w.heap.size w W) => sets_any N A2 n2 c2 ends W (hs2.next hW) (by omega) he20 hw2
  have HFL : Hid ((Sol.befG (Sol.cleanG m)).length = N) := Lib.hid (by rw [hN]; exact Sol.befP_length _ _ _)
  have hN20 : N ≤ 1048575 := by omega
  have HU := Lib.hid hU
  obtain ⟨G, hGG⟩ : ∃ G, G = Sol.cleanG m := ⟨_, rfl⟩
  rw [← hGG] at hN HG HC HBF HFL ⊢
  have HN := Lib.hid hN
  have hmf : ∀ (fn : Fn) (first cap : Array Value) (w : World), (Instr.makeFunc fn first cap).run Try.prog w = .ok (.func fn first cap) w := fun _ _ _ _ => rfl
  clear hs hs1 hs2 hr20 hu20 he20 hU hw1 hw2 hN hNm hGG hn
  have hA1 := cell_alloc_if
  have hA2 := frozen_alloc_if
  have hA3 := cell_set_if
  go_enter Try.func18, Try.ntmps18
  go_upto_region 2 with (first
    | (go_at_call 26; (with_reducible refine HC.out.mono ?_); rintro e w1 ⟨rfl, hm1, hb1⟩; have HM1 := Lib.hid hm1; rw [← HN.out]; clear hm1)
    | (go_at_call 16; (with_reducible refine (HBF.out w1 hb1).mono ?_); rintro e w2 ⟨rfl, hm2, hb2⟩; have HM2 := Lib.hid hm2; rw [HFL.out]; clear hm2))
  have hz1 := hb1.size
  have hz2 := hb2.size
  obtain ⟨wg, hwg⟩ : ∃ wg, wg = (w2.alloc (.cells #[.slice (some ⟨w.heap.size, 0, none⟩) N N] 39)).alloc (.cells #[.slice (some ⟨w1.heap.size, 0, none⟩) N N] 22) := ⟨_, rfl⟩
  rw [← hwg]
  have hp7 : w2.heap.size < wg.heap.size := by rw [hwg]; simp; omega
  have hp8 : w2.heap.size + 1 < wg.heap.size := by rw [hwg]; simp
  have HB7 : Hid (wg.heap[w2.heap.size]? = some (.cells #[.slice (some ⟨w.heap.size, 0, none⟩) N N] 39 (0, 0))) := Lib.hid (by
    rw [hwg]
    exact (heap_alloc_old' _ _ (by simp)).trans (heap_alloc_new w2 _))
  have HB8 : Hid (wg.heap[w2.heap.size + 1]? = some (.cells #[.slice (some ⟨w1.heap.size, 0, none⟩) N N] 22 (0, 0))) := Lib.hid (by
    rw [hwg]
    have := heap_alloc_new (w2.alloc (.cells #[.slice (some ⟨w.heap.size, 0, none⟩) N N] 39)) (.cells #[.slice (some ⟨w1.heap.size, 0, none⟩) N N] 22)
    simpa using this)
  have hbg2 : Below w2.heap.size w2 wg := by
    rw [hwg]
    exact ((Below.refl _ _).alloc (Nat.le_refl _) _).alloc (by simp) _
  have hbg : Below w.heap.size w wg := hb1.trans ((hb2.mono hz1).trans (hbg2.mono (by omega)))
  have HM1g := Lib.hid (HM1.out.next (hb2.trans (hbg2.mono hz2)))
  have HM2g := Lib.hid (HM2.out.next hbg2)
  have hc7 : wg.cell? ⟨w2.heap.size, 0, none⟩ = some (.slice (some ⟨w.heap.size, 0, none⟩) N N) := (cells_of_block HB7.out).1 0
  clear hwg HM1 HM2
  refine wp_region_phi 10 (phiBack N w.heap.size w2.heap.size (.slice A1 n1 c1) (.slice A2 n2 c2) uses ends) (by kernel_rfl) (by kernel_rfl) (phiBack_stable _ _ _ _ _ _ _) ?_ ?_
  · refine ⟨?_, ?_, ?_, ?_, ?_, ?_, ?_, ?_, ?_, ?_, trivial⟩
    · refine ⟨rfl, fun a W K hz hd hsm hb hdep hK => ?_⟩
      obtain ⟨⟨xs⟩, df⟩ := a
      obtain ⟨x0, x1, x2, x3, x4, x5, x6, x7, x8, x9, x10, x11, x12, x13, x14, x15, x16, x17, x18, x19, x20, x21, x22, x23, x24, x25, x26, x27, x28, rfl⟩ := len29 (xs := xs) hz
      obtain rfl : df = [] := hd
      clear hz
      obtain rfl : x7 = .pointer (some ⟨w2.heap.size, 0, none⟩) := by simpa using hsm 7 (by kernel_rfl)
      have c7 := (hb.cell (p := ⟨w2.heap.size, 0, none⟩) hp7).trans hc7
      clear hsm hdep
      go_simp
      exact hK.out _ _ (Below.refl _ _) rfl
    · refine ⟨rfl, fun a W K hz hd hsm hb hdep hK => ?_⟩
      obtain ⟨⟨xs⟩, df⟩ := a
      obtain ⟨x0, x1, x2, x3, x4, x5, x6, x7, x8, x9, x10, x11, x12, x13, x14, x15, x16, x17, x18, x19, x20, x21, x22, x23, x24, x25, x26, x27, x28, rfl⟩ := len29 (xs := xs) hz
      obtain rfl : df = [] := hd
      clear hz
      obtain ⟨_, _, h15⟩ := hdep 0 15 (by kernel_rfl)
      have e15 : x15 = .slice (some ⟨w.heap.size, 0, none⟩) N N := h15
      subst e15
      clear hsm hdep h15
      go_simp
      exact hK.out _ _ (Below.refl _ _) rfl
    · refine ⟨rfl, fun a W K hz hd hsm hb hdep hK => ?_⟩
      obtain ⟨⟨xs⟩, df⟩ := a
      obtain ⟨x0, x1, x2, x3, x4, x5, x6, x7, x8, x9, x10, x11, x12, x13, x14, x15, x16, x17, x18, x19, x20, x21, x22, x23, x24, x25, x26, x27, x28, rfl⟩ := len29 (xs := xs) hz
      obtain rfl : df = [] := hd
      clear hz
      obtain rfl : x1 = .slice A1 n1 c1 := by simpa using hsm 1 (by kernel_rfl)
      clear hsm hdep
      go_simp
      exact hK.out _ _ (Below.refl _ _) rfl
    · refine ⟨rfl, fun a W K hz hd hsm hb hdep hK => ?_⟩
      obtain ⟨⟨xs⟩, df⟩ := a
      obtain ⟨x0, x1, x2, x3, x4, x5, x6, x7, x8, x9, x10, x11, x12, x13, x14, x15, x16, x17, x18, x19, x20, x21, x22, x23, x24, x25, x26, x27, x28, rfl⟩ := len29 (xs := xs) hz
      obtain rfl : df = [] := hd
      clear hz
      obtain ⟨_, _, h1⟩ := hdep 1 16 (by kernel_rfl)
      obtain ⟨_, _, h2⟩ := hdep 2 17 (by kernel_rfl)
      have e1 : x16 = .int .i64 N := h1
      have e2 : x17 = .slice A1 n1 c1 := h2
      subst e1 e2
      clear hsm hdep h1 h2
      have HCA := Lib.hid (HS1.out W (hbg.trans (hb.mono (by omega))))
      go_simp
      (go_at_call 35; (with_reducible refine HCA.out.mono ?_); intro e w7 hse)
      obtain ⟨v7, rfl, hv7, hb7⟩ := SetB.of_sets hse
      exact hK.out _ _ hb7 hv7
    · refine ⟨rfl, fun a W K hz hd hsm hb hdep hK => ?_⟩
      obtain ⟨⟨xs⟩, df⟩ := a
      obtain ⟨x0, x1, x2, x3, x4, x5, x6, x7, x8, x9, x10, x11, x12, x13, x14, x15, x16, x17, x18, x19, x20, x21, x22, x23, x24, x25, x26, x27, x28, rfl⟩ := len29 (xs := xs) hz
      obtain rfl : df = [] := hd
      clear hz
      obtain rfl : x7 = .pointer (some ⟨w2.heap.size, 0, none⟩) := by simpa using hsm 7 (by kernel_rfl)
      have c7 := (hb.cell (p := ⟨w2.heap.size, 0, none⟩) hp7).trans hc7
      clear hsm hdep
      go_simp
      exact hK.out _ _ (Below.refl _ _) rfl
    · refine ⟨rfl, fun a W K hz hd hsm hb hdep hK => ?_⟩
      obtain ⟨⟨xs⟩, df⟩ := a
      obtain ⟨x0, x1, x2, x3, x4, x5, x6, x7, x8, x9, x10, x11, x12, x13, x14, x15, x16, x17, x18, x19, x20, x21, x22, x23, x24, x25, x26, x27, x28, rfl⟩ := len29 (xs := xs) hz
      obtain rfl : df = [] := hd
      clear hz
      obtain ⟨_, _, h15⟩ := hdep 4 19 (by kernel_rfl)
      have e15 : x19 = .slice (some ⟨w.heap.size, 0, none⟩) N N := h15
      subst e15
      clear hsm hdep h15
      go_simp
      exact hK.out _ _ (Below.refl _ _) rfl
    · refine ⟨rfl, fun a W K hz hd hsm hb hdep hK => ?_⟩
      obtain ⟨⟨xs⟩, df⟩ := a
      obtain ⟨x0, x1, x2, x3, x4, x5, x6, x7, x8, x9, x10, x11, x12, x13, x14, x15, x16, x17, x18, x19, x20, x21, x22, x23, x24, x25, x26, x27, x28, rfl⟩ := len29 (xs := xs) hz
      obtain rfl : df = [] := hd
      clear hz
      obtain rfl : x2 = .slice A2 n2 c2 := by simpa using hsm 2 (by kernel_rfl)
      clear hsm hdep
      go_simp
      exact hK.out _ _ (Below.refl _ _) rfl
    · refine ⟨rfl, fun a W K hz hd hsm hb hdep hK => ?_⟩
      obtain ⟨⟨xs⟩, df⟩ := a
      obtain ⟨x0, x1, x2, x3, x4, x5, x6, x7, x8, x9, x10, x11, x12, x13, x14, x15, x16, x17, x18, x19, x20, x21, x22, x23, x24, x25, x26, x27, x28, rfl⟩ := len29 (xs := xs) hz
      obtain rfl : df = [] := hd
      clear hz
      obtain ⟨_, _, h1⟩ := hdep 5 20 (by kernel_rfl)
      obtain ⟨_, _, h2⟩ := hdep 6 21 (by kernel_rfl)
      have e1 : x20 = .int .i64 N := h1
      have e2 : x21 = .slice A2 n2 c2 := h2
      subst e1 e2
      clear hsm hdep h1 h2
      have HCA := Lib.hid (HS2.out W (hbg.trans (hb.mono (by omega))))
      go_simp
      (go_at_call 35; (with_reducible refine HCA.out.mono ?_); intro e w7 hse)
      obtain ⟨v7, rfl, hv7, hb7⟩ := SetB.of_sets hse
      exact hK.out _ _ hb7 hv7
    · refine ⟨rfl, fun a W K hz hd hsm hb hdep hK => ?_⟩
      obtain ⟨⟨xs⟩, df⟩ := a
      obtain ⟨x0, x1, x2, x3, x4, x5, x6, x7, x8, x9, x10, x11, x12, x13, x14, x15, x16, x17, x18, x19, x20, x21, x22, x23, x24, x25, x26, x27, x28, rfl⟩ := len29 (xs := xs) hz
      obtain rfl : df = [] := hd
      clear hz
      clear hsm hdep
      go_simp
      exact hK.out _ _ ((Below.refl _ _).alloc (Nat.le_refl _) _) ⟨rfl, by simp, heap_alloc_new W _⟩
    · refine ⟨rfl, fun a W K hz hd hsm hb hdep hK => ?_⟩
      obtain ⟨⟨xs⟩, df⟩ := a
      obtain ⟨x0, x1, x2, x3, x4, x5, x6, x7, x8, x9, x10, x11, x12, x13, x14, x15, x16, x17, x18, x19, x20, x21, x22, x23, x24, x25, x26, x27, x28, rfl⟩ := len29 (xs := xs) hz
      obtain rfl : df = [] := hd
      clear hz
      clear hsm hdep
      go_simp
      exact hK.out _ _ ((Below.refl _ _).alloc (Nat.le_refl _) _) ⟨rfl, by simp, heap_alloc_new W _⟩
  · intro I a w3 hz hd hsm hb hphi hivl hap hord
    obtain ⟨⟨xs⟩, df⟩ := a
    obtain ⟨x0, x1, x2, x3, x4, x5, x6, x7, x8, x9, x10, x11, x12, x13, x14, x15, x16, x17, x18, x19, x20, x21, x22, x23, x24, x25, x26, x27, x28, rfl⟩ := len29 (xs := xs) hz
    obtain rfl : df = [] := hd
    clear hz
    have h3 : SetB N uses x18 (I 3).1 (I 3).2 w3 := hphi 3 _ 18 (by omega) rfl rfl
    have h7 : SetB N ends x22 (I 7).1 (I 7).2 w3 := hphi 7 _ 22 (by omega) rfl rfl
    have h8 : BoxB 48 (.slice none 0 0) x9 (I 8).1 (I 8).2 w3 := hphi 8 _ 9 (by omega) rfl rfl
    have h9 : BoxB 48 (.slice none 0 0) x10 (I 9).1 (I 9).2 w3 := hphi 9 _ 10 (by omega) rfl rfl
    obtain rfl : x7 = .pointer (some ⟨w2.heap.size, 0, none⟩) := by simpa using hsm 7 (by kernel_rfl)
    obtain rfl : x8 = .pointer (some ⟨w2.heap.size + 1, 0, none⟩) := by simpa using hsm 8 (by kernel_rfl)
    have v3 := hivl 3 (by omega)
    have v7 := hivl 7 (by omega)
    have v8 := hivl 8 (by omega)
    have v9 := hivl 9 (by omega)
    have d38 := hap 3 8 (by omega) (by omega) (by omega)
    have d39 := hap 3 9 (by omega) (by omega) (by omega)
    have d78 := hap 7 8 (by omega) (by omega) (by omega)
    have d79 := hap 7 9 (by omega) (by omega) (by omega)
    have d89 := hap 8 9 (by omega) (by omega) (by omega)
    have o37 := hord 3 7 (by omega) (by omega) (by kernel_rfl)
    clear hphi hsm hivl hap hord
    generalize I 3 = i3 at *
    generalize I 7 = i7 at *
    generalize I 8 = i8 at *
    generalize I 9 = i9 at *
    obtain ⟨bi, ti⟩ := i3
    obtain ⟨bb, tb⟩ := i7
    obtain ⟨pi, ei⟩ := i8
    obtain ⟨pb, eb⟩ := i9
    dsimp only at *
    obtain ⟨rfl, hbi, os, hS, hfull, hlim⟩ := h3
    obtain ⟨rfl, hbb, osb, hSb, hfullb, hlimb⟩ := h7
    obtain ⟨rfl, hl8, hx8⟩ := h8
    obtain ⟨rfl, hl9, hx9⟩ := h9
    have hne : pi ≠ pb := by omega
    have hzb := hb.size
    obtain ⟨w4, hw4⟩ : ∃ w4, w4 = (w3.setCell ⟨pi, 0, none⟩ (.slice (some ⟨bi, 0, none⟩) N N)).setCell ⟨pb, 0, none⟩ (.slice (some ⟨bb, 0, none⟩) N N) := ⟨_, rfl⟩
    have hkeep : ∀ b, b ≠ pi → b ≠ pb → w4.heap[b]? = w3.heap[b]? := fun b h1 h2 => by rw [hw4]; exact (setC_other _ pb 0 _ h2).trans (setC_other _ pi 0 _ h1)
    have hboxi : w4.heap[pi]? = some (.cells #[.slice (some ⟨bi, 0, none⟩) N N] 48 (0, 0)) := by rw [hw4]; exact (setC_other _ pb 0 _ hne).trans (setC_same hx8 _)
    have hboxb : w4.heap[pb]? = some (.cells #[.slice (some ⟨bb, 0, none⟩) N N] 48 (0, 0)) := by rw [hw4]; exact setC_same ((setC_other w3 pi 0 _ (Ne.symm hne)).trans hx9) _
    have hS4 : SetV bi w4 bi os (setsOf N uses) := hS.keepF (hkeep bi (by omega) (by omega)) fun i q hq => by
      have h1 := hlim i q hq
      have h2 := (hS.rowLt hq).2.1
      exact hkeep q (by omega) (by omega)
    have hSb4 : SetV bb w4 bb osb (setsOf N ends) := hSb.keepF (hkeep bb (by omega) (by omega)) fun i q hq => by
      have h1 := hlimb i q hq
      have h2 := (hSb.rowLt hq).2.1
      exact hkeep q (by omega) (by omega)
    have hb4 : Below wg.heap.size wg w4 := by
      rw [hw4]
      exact (hb.setCell (by dsimp only; omega) _).setCell (by dsimp only; omega) _
    have hzg : w.heap.size ≤ wg.heap.size := hbg.size
    have hz4 : wg.heap.size ≤ w4.heap.size := hb4.size
    have hz34 : w4.heap.size = w3.heap.size := by rw [hw4]; simp [World.setCell]
    have hF : BwdF bi bb N wg w4 w2.heap.size pi pb (w2.heap.size + 1) bi bb os osb (some ⟨w.heap.size, 0, none⟩) (some ⟨w1.heap.size, 0, none⟩) N N G (Sol.befG G) (setsOf N ends) :=
      { g := by have h := HM1g.out.rdm (by rw [← HN.out]; unfold maxLen; omega); rw [← HN.out] at h; exact h
        f := by have h := HM2g.out.rdm (by rw [HFL.out]; unfold maxLen; omega); rw [HFL.out] at h; exact h
        below := hb4
        gb := by omega
        e := hSb4
        hos := fun i q hq => by
          have h1 := hlim i q hq
          have h2 := (hS.rowLt hq).2.1
          refine ⟨by omega, by omega, by omega, by omega, by omega⟩
        boxg := (hb4.block _ (by omega)).trans HB7.out
        boxi := hboxi
        boxb := hboxb
        boxf := (hb4.block _ (by omega)).trans HB8.out
        full := hfull
        fulle := hfullb
        lenG := HN.out.symm
        lenF := HFL.out
        lenE := setsOf_length _ _
        low := by omega }
    have hrF : ∀ l ∈ Sol.befG G, l.length ≤ 1048576 := fun l hl => by
      obtain ⟨k, hk⟩ := List.getElem?_of_mem hl
      have := befP_row_le hk
      rw [← HN.out] at this
      omega
    have HF := Lib.hid hF
    have HWK := Lib.hid (work_any (σ := List (List Int)) bi N 37 #[.pointer (some ⟨w2.heap.size, 0, none⟩), .pointer (some ⟨pi, 0, none⟩), .pointer (some ⟨pb, 0, none⟩), .pointer (some ⟨w2.heap.size + 1, 0, none⟩)] (fun a W => InS bi w4 W bi os a) (Sol.invB G uses ends) (Sol.closedB G ends) (Sol.roomOf uses.flatten.length) (Sol.lookB G ends) (setsOf N uses) w4
      (by rw [HN.out]; exact Sol.lookB_ok uses ends HG.out) (by omega) (by omega) (fun s W W' hb h => h.next (by omega) hb) (InS.start hS4) (by rw [HN.out]; exact Sol.firstB_inv G uses ends) (enters_of Try.func37 (by kernel_rfl) rfl)
      (fun s i W hI hi hR hz => bwd1_any bi bb N wg w4 _ pi pb _ bi bb os osb _ _ _ _ G _ _ uses ends hF HG.out rfl rfl HU.out hrF s i hi W hR hI))
    obtain ⟨c8, f8⟩ := cells_of_block hx8
    obtain ⟨c9, f9⟩ := cells_of_block hx9
    have c80 := c8 0
    have c90 := c9 0
    simp at c80 c90
    have c73 : w3.cell? ⟨w2.heap.size, 0, none⟩ = some (.slice (some ⟨w.heap.size, 0, none⟩) N N) := (hb.cell (p := ⟨w2.heap.size, 0, none⟩) hp7).trans hc7
    have n7i : w2.heap.size ≠ pi := by omega
    have n7b : w2.heap.size ≠ pb := by omega
    have HW4 := Lib.hid hw4
    clear c8 c9 hx8 hx9 hS hSb hS4 hSb4 hfull hlim hfullb hlimb hkeep hboxi hboxb hF hrF hc7 hw4
    go_wp2_with (first
      | (go_at_call 36; rw [← HW4.out]; (with_reducible refine HWK.out.mono ?_); rintro e w5 ⟨rfl, a5, hin5, hinv5, hcl5, hb5⟩; have c5 := hin5.cell HF.out.boxi (fun i q hq => (HF.out.hos i q hq).2.2.1); have HIN5 := Lib.hid hin5; have HINV5 := Lib.hid hinv5; have HCL5 := Lib.hid hcl5; clear hin5 hinv5 hcl5
         have HLI : Hid (Calls Try.prog 39 #[.slice (some ⟨bi, 0, none⟩) N N] w5 (MatP w5 a5)) := Lib.hid (by
          have hl5 : a5.length = N := by rw [HINV5.out.1.len, HN.out]
          have h := lists_any bi bi os a5 w5 HIN5.out.v (by omega) (fun l hl => by
            obtain ⟨k, hk⟩ := List.getElem?_of_mem hl
            exact Nat.le_trans ((Small.of_inv HINV5.out.1).len hk) HU.out)
          rw [hl5] at h
          exact h))
      | (go_at_call 39; (with_reducible refine HLI.out.mono ?_); rintro e w6 ⟨rfl, hm6, hb6⟩; have HM6 := Lib.hid hm6; clear hm6))
    go_ret
    have hl5 : a5.length = N := by rw [HINV5.out.1.len, HN.out]
    have hz5 := hb5.size
    have hz6 := hb6.size
    refine ⟨a5, w5.heap.size, Sol.solB HG.out HINV5.out.1 HINV5.out.2 (fun i hi k hk x hx hn => HCL5.out i (by rw [HN.out]; exact hi) k hk x hx hn), rfl, HM6.out.rdm (by rw [hl5]; unfold maxLen; omega), ?_⟩
    exact hbg.trans ((hb4.mono hzg).trans ((hb5.mono (by omega)).trans (hb6.mono (by omega))))
end Go.Proofs.Ytadcjmfednachaa
