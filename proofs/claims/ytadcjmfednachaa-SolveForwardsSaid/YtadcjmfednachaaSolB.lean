/-
  Small functions over rows of ints: the reference's Has, at, follows; the tree's SameInts; the law's few, same, set; a graph's has.
  The law's few and same; the reference's follows.
  The law's same; the reference's follows; the program's clean.
  The program's clean.
  The nodes that are come to, in the order in which they are left: the program's stack.
-/
import Derived.Test.YtadcjmfednachaaProg
import Derived.Test.YtadcjmfednachaaSolA
import Derived.Test.YtadcjmfednachaaMat
import Derived.Test.YtadcjmfednachaaMachDefs
import Derived.Test.YtadcjmfednachaaRegion
import Derived.Deep.QuietTactic
import Derived.BigQuiet
import Derived.Outline
import Derived.Deep.RegionHeld3
import Derived.Deep.LoopGhost
import Derived.Deep.DeepCutAuto
import Derived.Deep.Light
namespace Go.Proofs.Ytadcjmfednachaa
open Go.RowKit
set_option linter.unusedVariables false
set_option linter.unusedSimpArgs false

theorem int_info : (Try.prog.info? 3).map (fun i => (i.zero, i.size, i.bytes)) = some (some (.int .i64 0), 1, 8) := by kernel_rfl
theorem row_info : (Try.prog.info? 28).map (fun i => (i.zero, i.size, i.bytes)) = some (some (.slice none 0 0), 1, 24) := by kernel_rfl
def memB (l : List Int) (x : Int) : Bool := decide (x ∈ l)
def eqB (l r : List Int) : Bool := decide (l = r)
def inB (n : Nat) (i : Int) : Bool := decide (0 ≤ i ∧ i < (n : Int))
/-- An element's cell. -/
theorem RdL.intAt {w : World} {A : Option Addr} {n c : Nat} {l : List Int} (h : RdL intC 1 w (.slice A n c) l) {k : Nat} {y : Int} (hy : l[k]? = some y) :
    ∃ b off, A = some ⟨b, off, none⟩ ∧ n = l.length ∧ b < w.heap.size ∧ w.cell? ⟨b, off + k, none⟩ = some (.int .i64 y) := by
  have hk : k < l.length := (List.getElem?_eq_some_iff.1 hy).1
  obtain ⟨b, off, c', e, _, _, hb, hc⟩ := h.some_ (by omega)
  injection e with e1 e2 e3
  have := hc k y hy 0 _ rfl
  rw [Nat.mul_one, Nat.add_zero] at this
  exact ⟨b, off, e1, e2, hb, this⟩
theorem RdL.lenEq {α : Type} {f : α → List Value} {sz : Nat} {w : World} {A : Option Addr} {n c : Nat} {l : List α} (h : RdL f sz w (.slice A n c) l) : n = l.length ∧ n ≤ c ∧ c ≤ 9223372036854775807 := by
  obtain ⟨A', c', e, h1, h2, _⟩ := h
  injection e with e1 e2 e3
  unfold maxLen at h2
  subst e2 e3
  exact ⟨rfl, h1, h2⟩
theorem mem_drop_step {l : List Int} {k : Nat} {y x : Int} (hy : l[k]? = some y) (hne : ¬ y = x) : x ∈ l.drop k ↔ x ∈ l.drop (k + 1) := by
  have hk : k < l.length := (List.getElem?_eq_some_iff.1 hy).1
  rw [List.drop_eq_getElem_cons hk, List.mem_cons]
  rw [List.getElem?_eq_getElem hk] at hy
  injection hy with hy
  rw [hy]
  constructor
  · rintro (h | h)
    · exact absurd h.symm hne
    · exact h
  · exact .inr
set_option maxHeartbeats 400000 in
theorem hasI_any (A : Option Addr) (n c : Nat) (l : List Int) (x : Int) (w : World) (hs : RdL intC 1 w (.slice A n c) l) :
    Calls Try.prog 22 #[.slice A n c, .int .i64 x] w fun e w' => e = .returned (.bool (memB l x)) ∧ w = w' := by
  obtain ⟨rfl, _, hm⟩ := hs.lenEq
  have hl : l.length ≤ 9223372036854775807 := by omega
  have HS := Lib.hid hs
  clear hs
  go_enter Try.func22, Try.ntmps22
  go_wp2
  go_loop [5] (fun i => ∃ k : Nat, k ≤ l.length ∧ i = .int .i64 k ∧ Hid (x ∈ l ↔ x ∈ l.drop k)) (fun i => l.length - (intOf i).toNat)
  case atStart => exact ⟨0, Nat.zero_le _, rfl, Lib.hid (by simp)⟩
  case round =>
    obtain ⟨k, hk, rfl, HD⟩ := hrel
    by_cases hlt : k < l.length
    · obtain ⟨y, hy⟩ : ∃ y, l[k]? = some y := ⟨_, List.getElem?_eq_getElem hlt⟩
      obtain ⟨b, off, rfl, _, hb, p0⟩ := HS.out.intAt hy
      by_cases hyx : y = x
      · subst hyx
        have HM : Hid (memB l y = true) := Lib.hid (by unfold memB; simp [List.mem_of_getElem? hy])
        clear hy
        go_wp2
        go_ret
        exact ⟨by rw [HM.out]; rfl, rfl⟩
      · have d : (y == x) = false := by simpa using hyx
        have HN : Hid (x ∈ l ↔ x ∈ l.drop (k + 1)) := Lib.hid (HD.out.trans (mem_drop_step hy hyx))
        clear hy HD hyx
        go_wp2
        go_round
        case rel => exact ⟨k + 1, by omega, by go_num, HN⟩
        case measure => simp [intOf]; omega
    · have HM : Hid (memB l x = false) := Lib.hid (by
        unfold memB
        rw [decide_eq_false_iff_not, HD.out, List.drop_eq_nil_of_le (by omega)]; simp)
      clear HD
      go_wp2
      go_ret
      exact ⟨by rw [HM.out]; rfl, rfl⟩

theorem eq_take_step {l r : List Int} {k : Nat} {y z : Int} (hy : l[k]? = some y) (hz : r[k]? = some z) (h : l.take k = r.take k) (e : y = z) : l.take (k + 1) = r.take (k + 1) := by
  rw [List.take_add_one, List.take_add_one, hy, hz, h, e]
set_option maxHeartbeats 400000 in
theorem sameInts_any (A B : Option Addr) (n c m d : Nat) (l r : List Int) (w : World) (hs : RdL intC 1 w (.slice A n c) l) (hr : RdL intC 1 w (.slice B m d) r) :
    Calls Try.prog 12 #[.slice A n c, .slice B m d] w fun e w' => e = .returned (.bool (eqB l r)) ∧ Below w.heap.size w w' := by
  obtain ⟨rfl, _, hm⟩ := hs.lenEq
  obtain ⟨rfl, _, hm2⟩ := hr.lenEq
  have hl : l.length ≤ 9223372036854775807 := by omega
  have hl2 : r.length ≤ 9223372036854775807 := by omega
  have HS := Lib.hid hs
  have HR := Lib.hid hr
  clear hs hr
  by_cases hlen : l.length = r.length
  · have HL := Lib.hid hlen
    have d1 : ((l.length : Int) != (r.length : Int)) = false := by simp; omega
    clear hlen
    go_enter Try.func12, Try.ntmps12
    go_wp2
    go_loopw [13] (fun i wr => ∃ k : Nat, k ≤ l.length ∧ i = .int .i64 k ∧ Hid (l.take k = r.take k) ∧ Ext w wr) (fun i _ => l.length - (intOf i).toNat)
    case atStart => exact ⟨0, Nat.zero_le _, rfl, Lib.hid rfl, Below.refl _ _⟩
    case round =>
      obtain ⟨k, hk, rfl, HD, hX⟩ := hrel
      have hXb := Ext.of hX
      by_cases hlt : k < l.length
      · obtain ⟨y, hy⟩ : ∃ y, l[k]? = some y := ⟨_, List.getElem?_eq_getElem hlt⟩
        have hlt2 : k < r.length := by have := HL.out; omega
        obtain ⟨z, hz⟩ : ∃ z, r[k]? = some z := ⟨_, List.getElem?_eq_getElem hlt2⟩
        obtain ⟨b, off, rfl, _, hb, p0⟩ := (HS.out.next hXb).intAt hy
        obtain ⟨b2, off2, rfl, _, hb2, p1⟩ := (HR.out.next hXb).intAt hz
        by_cases hyz : y = z
        · have HN : Hid (l.take (k + 1) = r.take (k + 1)) := Lib.hid (eq_take_step hy hz HD.out hyz)
          subst hyz
          clear hy hz HD
          go_wp2
          go_quiet (fail)
          go_wp2
          go_roundw
          case rel => exact ⟨k + 1, by omega, by go_num, HN, by unfold Ext at *; (repeat' (first | (with_reducible exact Below.refl _ _) | (with_reducible assumption) | (with_reducible refine Below.setCell ?_ ?_ _) | (with_reducible refine Below.alloc ?_ ?_ _) | (with_reducible refine Below.drew ?_) | (with_reducible refine below_drewN ?_ _) | (with_reducible refine below_next ?_ (by with_reducible assumption)) | omega | (dsimp only; omega) | (simp only [World.size_alloc, World.size_setCell, World.size_drew, World.heap_drewN]; omega)))⟩
          case measure => simp [intOf]; omega
        · have d2 : (y != z) = true := by simpa using hyz
          have HM : Hid (eqB l r = false) := Lib.hid (by
            unfold eqB
            rw [decide_eq_false_iff_not]
            rintro rfl
            rw [hy] at hz
            exact hyz (Option.some.inj hz))
          clear hy hz HD hyz
          go_wp2
          go_quiet (fail)
          go_wp2
          go_ret
          exact ⟨by rw [HM.out]; rfl, by unfold Ext at *; (repeat' (first | (with_reducible exact Below.refl _ _) | (with_reducible assumption) | (with_reducible refine Below.setCell ?_ ?_ _) | (with_reducible refine Below.alloc ?_ ?_ _) | (with_reducible refine Below.drew ?_) | (with_reducible refine below_drewN ?_ _) | (with_reducible refine below_next ?_ (by with_reducible assumption)) | omega | (dsimp only; omega) | (simp only [World.size_alloc, World.size_setCell, World.size_drew, World.heap_drewN]; omega)))⟩
      · have HM : Hid (eqB l r = true) := Lib.hid (by
          unfold eqB
          rw [decide_eq_true_iff]
          have h1 := HD.out
          have h2 := HL.out
          rw [List.take_of_length_le (by omega), List.take_of_length_le (by omega)] at h1
          exact h1)
        clear HD
        go_wp2
        go_ret
        exact ⟨by rw [HM.out]; rfl, by unfold Ext at *; (repeat' (first | (with_reducible exact Below.refl _ _) | (with_reducible assumption) | (with_reducible refine Below.setCell ?_ ?_ _) | (with_reducible refine Below.alloc ?_ ?_ _) | (with_reducible refine Below.drew ?_) | (with_reducible refine below_drewN ?_ _) | (with_reducible refine below_next ?_ (by with_reducible assumption)) | omega | (dsimp only; omega) | (simp only [World.size_alloc, World.size_setCell, World.size_drew, World.heap_drewN]; omega)))⟩
  · have HM : Hid (eqB l r = false) := Lib.hid (by unfold eqB; rw [decide_eq_false_iff_not]; rintro rfl; exact hlen rfl)
    have d1 : ((l.length : Int) != (r.length : Int)) = true := by simp; omega
    clear hlen
    go_enter Try.func12, Try.ntmps12
    go_wp2
    go_ret
    exact ⟨by rw [HM.out]; rfl, by (repeat' (first | (with_reducible exact Below.refl _ _) | (with_reducible assumption) | (with_reducible refine Below.setCell ?_ ?_ _) | (with_reducible refine Below.alloc ?_ ?_ _) | (with_reducible refine Below.drew ?_) | (with_reducible refine below_drewN ?_ _) | (with_reducible refine below_next ?_ (by with_reducible assumption)) | omega | (dsimp only; omega) | (simp only [World.size_alloc, World.size_setCell, World.size_drew, World.heap_drewN]; omega)))⟩

theorem rowI_nat {m : List (List Int)} {k : Nat} {l : List Int} (h : m[k]? = some l) : Sol.rowI m (k : Int) = l := by
  unfold Sol.rowI
  rw [Int.toNat_natCast, List.getD_eq_getElem?_getD, h]; rfl
theorem rowI_out {m : List (List Int)} {k : Nat} (h : m.length ≤ k) : Sol.rowI m (k : Int) = [] := by
  unfold Sol.rowI
  rw [Int.toNat_natCast, List.getD_eq_getElem?_getD, List.getElem?_eq_none h]; rfl
/-- A row that stands in the memory. -/
def RowP (w : World) (l : List Int) (e : Ending) (w' : World) : Prop := ∃ A c, e = .returned (.slice A l.length c) ∧ RdL intC 1 w (.slice A l.length c) l ∧ w = w'
set_option maxHeartbeats 400000 in
theorem at_any (A : Option Addr) (n c : Nat) (m : List (List Int)) (k : Nat) (w : World) (hs : RdM w (.slice A n c) m) (hk : k ≤ 1048576) :
    Calls Try.prog 40 #[.slice A n c, .int .i64 k] w (RowP w (Sol.rowI m k)) := by
  have hm := hs.len
  unfold maxLen at hm
  obtain ⟨A', c', e⟩ := hs.form
  injection e with e1 e2 e3
  subst e2
  clear e1 e3 A' c'
  by_cases hlt : k < m.length
  · obtain ⟨l, hl⟩ : ∃ l, m[k]? = some l := ⟨_, List.getElem?_eq_getElem hlt⟩
    obtain ⟨b, off, c1, A2, c2, e, hb, p0, hr⟩ := hs.row hl
    injection e with e1 e2 e3
    subst e1
    rw [rowI_nat hl]
    have HR := Lib.hid hr
    clear hs hr hl e2 e3
    go_enter Try.func40, Try.ntmps40
    go_wp2
    go_ret
    exact ⟨_, _, rfl, HR.out, rfl⟩
  · rw [rowI_out (by omega)]
    clear hs
    go_enter Try.func40, Try.ntmps40
    go_wp2
    go_ret
    exact ⟨_, _, rfl, RdL.nil _ _ _, rfl⟩
set_option maxHeartbeats 400000 in
theorem setL_any (A : Option Addr) (n c : Nat) (m : List (List Int)) (k : Nat) (w : World) (hs : RdM w (.slice A n c) m) (hk : k ≤ 1048576) :
    Calls Try.prog 25 #[.slice A n c, .int .i64 k] w (RowP w (Sol.rowI m k)) := by
  have hm := hs.len
  unfold maxLen at hm
  obtain ⟨A', c', e⟩ := hs.form
  injection e with e1 e2 e3
  subst e2
  clear e1 e3 A' c'
  by_cases hlt : k < m.length
  · obtain ⟨l, hl⟩ : ∃ l, m[k]? = some l := ⟨_, List.getElem?_eq_getElem hlt⟩
    obtain ⟨b, off, c1, A2, c2, e, hb, p0, hr⟩ := hs.row hl
    injection e with e1 e2 e3
    subst e1
    rw [rowI_nat hl]
    have HR := Lib.hid hr
    clear hs hr hl e2 e3
    go_enter Try.func25, Try.ntmps25
    go_wp2
    go_ret
    exact ⟨_, _, rfl, HR.out, rfl⟩
  · rw [rowI_out (by omega)]
    clear hs
    go_enter Try.func25, Try.ntmps25
    go_wp2
    go_ret
    exact ⟨_, _, rfl, RdL.nil _ _ _, rfl⟩
set_option maxHeartbeats 400000 in
theorem ghas_any (A : Option Addr) (n c : Nat) (i : Int) (w : World) (hn : n ≤ 9223372036854775807) :
    Calls Try.prog 27 #[.slice A n c, .int .i64 i] w fun e w' => e = .returned (.bool (inB n i)) ∧ w = w' := by
  by_cases h0 : 0 ≤ i
  · by_cases h1 : i < n
    · have HM : Hid (inB n i = true) := Lib.hid (by unfold inB; simp [h0, h1])
      go_enter Try.func27, Try.ntmps27
      go_wp2
      go_ret
      exact ⟨by rw [HM.out]; rfl, rfl⟩
    · have HM : Hid (inB n i = false) := Lib.hid (by unfold inB; simp [h1])
      go_enter Try.func27, Try.ntmps27
      go_wp2
      go_ret
      exact ⟨by rw [HM.out]; rfl, rfl⟩
  · have HM : Hid (inB n i = false) := Lib.hid (by unfold inB; simp [h0])
    go_enter Try.func27, Try.ntmps27
    go_wp2
    go_ret
    exact ⟨by rw [HM.out]; rfl, rfl⟩
end Go.Proofs.Ytadcjmfednachaa

namespace Go.Proofs.Ytadcjmfednachaa
open Go.RowKit
set_option linter.unusedVariables false
set_option linter.unusedSimpArgs false

/-- not too many nodes, lists and numbers -/
def fewL (m : List (List Int)) : List (List Int) := (m.take 40).map (·.take 20)
/-- Rows of the call's own: the row of them, and that no one of them lies there. -/
def FewS (tI tR : TypeId) (base : Nat) (w : World) (v : Value) (vs : List Value) (m : List (List Int)) : Prop :=
  OwnL tR valC 1 base w v vs ∧ vs.length = m.length ∧ ∀ (i : Nat) (x : Value) (l : List Int), vs[i]? = some x → m[i]? = some l → RdL intC 1 w x l ∧ ∀ q, x.ownBlock = some q → q < w.heap.size ∧ v.ownBlock ≠ some q
theorem FewS.next {tI tR : TypeId} {base : Nat} {w w' : World} {v : Value} {vs : List Value} {m : List (List Int)} (h : FewS tI tR base w v vs m) (hb : Below w.heap.size w w') : FewS tI tR base w' v vs m :=
  ⟨h.1.next hb, h.2.1, fun i x l h1 h2 => ⟨(h.2.2 i x l h1 h2).1.next hb, fun q hq => ⟨Nat.lt_of_lt_of_le ((h.2.2 i x l h1 h2).2 q hq).1 hb.size, ((h.2.2 i x l h1 h2).2 q hq).2⟩⟩⟩
theorem FewS.rdm {tI tR : TypeId} {base : Nat} {w : World} {v : Value} {vs : List Value} {m : List (List Int)} (h : FewS tI tR base w v vs m) : RdM w v m :=
  ⟨vs, h.1.rdl valC_len, h.2.1, fun i x l h1 h2 => (h.2.2 i x l h1 h2).1⟩
theorem FewS.step {tI tR : TypeId} {base : Nat} {w W1 W2 w6 : World} {v v1 v' : Value} {vs : List Value} {m : List (List Int)} {l1 : List Int} {o : Obj} (h : FewS tI tR base w v vs m)
    (hb1 : Below w.heap.size w W1) (hv1 : OwnL tI intC 1 w.heap.size W1 v1 l1) (h2 : W2 = W1.alloc o) (hown : OwnL tR valC 1 base w6 v' (vs ++ [v1])) (hg : W2.grownBy w6 v.ownBlock)
    (hor : v'.ownBlock = v.ownBlock ∨ v'.ownBlock = some (W1.heap.size + 1)) : FewS tI tR base w6 v' (vs ++ [v1]) (m ++ [l1]) := by
  obtain ⟨a1, a2, a3⟩ := h
  have hz1 := hb1.size
  have hz2 : W2.heap.size = W1.heap.size + 1 := by rw [h2]; simp
  have hvlt : ∀ q, v.ownBlock = some q → q < w.heap.size := fun q hq => (a1.lt hq).2
  have keep : ∀ (b : Nat), b < W1.heap.size → v.ownBlock ≠ some b → b < w6.heap.size ∧ ∀ o, w6.cell? ⟨b, o, none⟩ = W1.cell? ⟨b, o, none⟩ := by
    intro b hb hne
    have hs := hg.size
    refine ⟨by omega, fun o' => ?_⟩
    have e1 := hg.block b (by omega) (fun e => hne e.symm)
    refine (World.cell?_of_block (a := ⟨b, o', none⟩) e1).trans ?_
    rw [h2]
    exact World.cell?_alloc_lt _ _ _ hb
  have hv1new : ∀ q, v1.ownBlock = some q → w.heap.size ≤ q ∧ q < W1.heap.size := fun q hq => hv1.lt hq
  refine ⟨hown, by simp [a2], fun i x l hx hl => ?_⟩
  by_cases hi : i < vs.length
  · rw [List.getElem?_append_left hi] at hx
    rw [List.getElem?_append_left (by omega)] at hl
    obtain ⟨k1, k2⟩ := a3 i x l hx hl
    have k1' := k1.next hb1
    refine ⟨k1'.keepB fun b hb hlt => keep b hlt (k2 b hb).2, fun q hq => ?_⟩
    obtain ⟨k3, k4⟩ := k2 q hq
    have hs := hg.size
    refine ⟨by omega, fun e => ?_⟩
    rcases hor with e5 | e5
    · exact k4 (e5 ▸ e)
    · rw [e5] at e
      injection e with e
      omega
  · have hie : i = vs.length := by
      have := (List.getElem?_eq_some_iff.1 hx).1
      simp at this; omega
    subst hie
    rw [List.getElem?_append_right (Nat.le_refl _), Nat.sub_self] at hx
    rw [a2, List.getElem?_append_right (Nat.le_refl _), Nat.sub_self] at hl
    cases hx
    cases hl
    have hr := hv1.rdl intC_len
    have hs := hg.size
    refine ⟨hr.keepB fun b hb hlt => keep b hlt fun e => ?_, fun q hq => ⟨by have := hv1new q hq; omega, fun e => ?_⟩⟩
    · have := hvlt b e
      have := hv1new b hb
      omega
    · have h4 := hv1new q hq
      rcases hor with e5 | e5
      · have := hvlt q (e5 ▸ e)
        omega
      · rw [e5] at e
        injection e with e
        omega
theorem fewL_length (m : List (List Int)) : (fewL m).length = min 40 m.length := by simp [fewL]
theorem fewL_take {m : List (List Int)} {k : Nat} {l : List Int} (hk : k < 40) (hl : m[k]? = some l) : (fewL m).take (k + 1) = (fewL m).take k ++ [l.take 20] := by
  have hk2 : k < m.length := (List.getElem?_eq_some_iff.1 hl).1
  have : (fewL m)[k]? = some (l.take 20) := by
    unfold fewL
    rw [List.getElem?_map, List.getElem?_take_of_lt hk, hl]; rfl
  rw [List.take_add_one, this]; rfl
/-- What few answers. -/
def FewP (w : World) (m : List (List Int)) (e : Ending) (w' : World) : Prop := ∃ A c, e = .returned (.slice A m.length c) ∧ RdM w' (.slice A m.length c) m ∧ Below w.heap.size w w'
set_option maxRecDepth 100000 in
set_option maxHeartbeats 2000000 in
theorem few_any (A : Option Addr) (n c : Nat) (m : List (List Int)) (w : World) (hs : RdM w (.slice A n c) m) : Calls Try.prog 9 #[.slice A n c] w (FewP w (fewL m)) := by
  obtain ⟨i0, hi0, hz0, hz1, hz2⟩ := info_parts int_info
  obtain ⟨j0, hj0, hy0, hy1, hy2⟩ := info_parts row_info
  have hm := hs.len
  unfold maxLen at hm
  obtain ⟨A', c', e⟩ := hs.form
  injection e with e1 e2 e3
  subst e2
  clear e1 e3 A' c'
  have HS := Lib.hid hs
  clear hs
  have hA1 := cell_alloc_if
  have hA2 := frozen_alloc_if
  have hA3 := cell_set_if
  go_enter Try.func9, Try.ntmps9
  go_wp2
  go_loopw [3, 4] (fun v i wr => ∃ (k : Nat) (A3 : Option Addr) (c3 : Nat) (vs : List Value), k ≤ m.length ∧ k ≤ 40 ∧ i = .int .i64 k ∧ v = .slice A3 k c3 ∧ Ext w wr ∧ vs.length = k ∧ Hid (FewS 3 28 w.heap.size wr (.slice A3 k c3) vs ((fewL m).take k))) (fun _ i _ => m.length - (intOf i).toNat)
  case atStart => exact ⟨0, none, 0, [], by omega, by omega, rfl, rfl, Below.refl _ _, rfl, Lib.hid ⟨OwnL.nil _ _ _ _ _, by simp, fun i x l h => by simp at h⟩⟩
  case round =>
    obtain ⟨k, A3, c3, vs, hk, hk40, rfl, rfl, hX, rfl, HF⟩ := hrel
    have hXb := Ext.of hX
    have hXz := hXb.size
    by_cases hlt : vs.length < m.length ∧ vs.length < 40
    · obtain ⟨hlt1, hlt2⟩ := hlt
      obtain ⟨l, hl⟩ : ∃ l, m[vs.length]? = some l := ⟨_, List.getElem?_eq_getElem hlt1⟩
      obtain ⟨b, off, c1, A2, c2, e, hb, p0, hr⟩ := (HS.out.next hXb).row hl
      injection e with e1 e2 e3
      subst e1
      have HT := Lib.hid (fewL_take hlt2 hl)
      obtain ⟨_, hlc, hcm⟩ := hr.lenEq
      have HR := Lib.hid hr
      clear hr hl e2 e3
      go_upto_if 22 with (fail)
      go_cut [5] (fun s5 wx => ∃ n' : Nat, s5 = .slice A2 n' c2 ∧ n' ≤ 20 ∧ wx = wr ∧ Hid (RdL intC 1 wr (.slice A2 n' c2) (l.take 20)))
      case first =>
        by_cases h20 : l.length ≤ 20
        · have d : decide (20 < (l.length : Int)) = false := by simp; omega
          go_wp2
          go_meet
          exact ⟨l.length, rfl, h20, rfl, Lib.hid (by rw [List.take_of_length_le h20]; exact HR.out)⟩
        · have d : decide (20 < (l.length : Int)) = true := by simp; omega
          have d2 : decide ((20 : Int) ≤ (c2 : Int)) = true := by simp; omega
          go_wp2
          go_meet
          exact ⟨20, rfl, by omega, rfl, Lib.hid (HR.out.take 20 (by omega))⟩
      case rest =>
        obtain ⟨n', rfl, hn', rfl, HR2⟩ := hcut
        obtain ⟨l1, hl1⟩ : ∃ l1, l1 = l.take 20 := ⟨_, rfl⟩
        rw [← hl1] at HR2 HT
        obtain ⟨e4, hcc, _⟩ := HR2.out.lenEq
        have hl120 : l1.length ≤ 20 := by omega
        clear hl1 HR p0 e4
        go_wp2_with (at_builtin; refine wpList_app (e := 3) (f := intC) rfl (.tmp 26) (.tmp 27) 28 rfl wc.heap.size i0 _ 8 Try.underlying28 hi0 hz0 hz1 hz2 rfl (by decide) intC_len (.slice (some ⟨wc.heap.size, 0, none⟩) 0 0) [] rfl ?c0 A2 n' c2 l1 rfl ?c1 (intC_one _) (by decide) ?c2 ?c3 ?_)
        case c0 => exact OwnL.lit _ _ [] _ rfl (Nat.le_refl _) (by decide) rfl rfl
        case c1 => exact HR2.out.next (by (repeat' (first | (with_reducible exact Below.refl _ _) | (with_reducible assumption) | (with_reducible refine Below.setCell ?_ ?_ _) | (with_reducible refine Below.alloc ?_ ?_ _) | (with_reducible refine Below.drew ?_) | (with_reducible refine below_drewN ?_ _) | (with_reducible refine below_next ?_ (by with_reducible assumption)) | omega | (dsimp only; omega) | (simp only [World.size_alloc, World.size_setCell, World.size_drew, World.heap_drewN]; omega))))
        case c2 => first | omega | (simp; omega)
        intro A9 c9 W1 hown1 hg1 hB1 hor1
        have hbw1 : Below wc.heap.size wc W1 := Below.trans ((Below.refl _ _).alloc (Nat.le_refl _) _) hB1
        have HO1 := Lib.hid hown1
        have HB1 := Lib.hid hbw1
        have hz1w := hbw1.size
        clear hown1 hg1 hB1 hor1
        go_wp2_with (at_builtin; refine wpList_app (e := 28) (f := valC) rfl (.tmp 25) (.tmp 29) 22 rfl w.heap.size j0 _ 24 Try.underlying22 hj0 hy0 hy1 hy2 rfl (by decide) valC_len (.slice A3 vs.length c3) vs rfl ?d0 _ 1 _ [.slice A9 l1.length c9] rfl ?d1 ?d2 (by decide) ?d3 ?d4 ?_)
        case d0 => exact HF.out.1.next (hbw1.alloc (by omega) _)
        case d1 =>
          refine ⟨_, 1, rfl, by simp, by decide, fun _ => ⟨_, 0, rfl, by simp, fun k a ha j v hv => ?_⟩⟩
          match k, ha with
          | 0, ha =>
            simp at ha; subst ha
            match j, hv with
            | 0, hv => simp [valC] at hv; subst hv; simp [cell_alloc_if]
        case d2 => intro a ha u hu; simp [valC] at ha hu; subst hu; subst ha; rfl
        case d3 => first | omega | (simp; omega)
        case d4 => first | omega | (simp; omega)
        intro A10 c10 w6 hown hg hB hor
        have HST : Hid (FewS 3 28 w.heap.size w6 (.slice A10 (vs.length + 1) c10) (vs ++ [.slice A9 l1.length c9]) ((fewL m).take (vs.length + 1))) := Lib.hid (by
          rw [HT.out]
          exact FewS.step HF.out HB1.out HO1.out rfl hown hg hor)
        have hBB : Below w.heap.size wc w6 := Below.trans ((HB1.out.mono hXz).alloc (by omega) _) hB
        clear hown hg hB hor
        go_wp2
        go_roundw
        case rel => exact ⟨vs.length + 1, A10, c10, vs ++ [.slice A9 l1.length c9], by omega, by omega, by go_num, rfl, hXb.trans hBB, by simp, HST⟩
        case measure => simp [intOf]; omega
    · have HM : Hid ((fewL m).take vs.length = fewL m ∧ vs.length = (fewL m).length) := Lib.hid (by
        have := fewL_length m
        have h2 : vs.length = (fewL m).length := by omega
        exact ⟨by rw [h2, List.take_length], h2⟩)
      by_cases h40 : vs.length < m.length
      · have d : decide ((vs.length : Int) < 40) = false := by simp; omega
        go_wp2
        go_ret
        refine ⟨A3, c3, by rw [HM.out.2]; rfl, ?_, by unfold Ext at *; (repeat' (first | (with_reducible exact Below.refl _ _) | (with_reducible assumption) | (with_reducible refine Below.setCell ?_ ?_ _) | (with_reducible refine Below.alloc ?_ ?_ _) | (with_reducible refine Below.drew ?_) | (with_reducible refine below_drewN ?_ _) | (with_reducible refine below_next ?_ (by with_reducible assumption)) | omega | (dsimp only; omega) | (simp only [World.size_alloc, World.size_setCell, World.size_drew, World.heap_drewN]; omega)))⟩
        rw [← HM.out.2]
        have h := HF.out.rdm
        rw [HM.out.1] at h
        exact h
      · go_wp2
        go_ret
        refine ⟨A3, c3, by rw [HM.out.2]; rfl, ?_, by unfold Ext at *; (repeat' (first | (with_reducible exact Below.refl _ _) | (with_reducible assumption) | (with_reducible refine Below.setCell ?_ ?_ _) | (with_reducible refine Below.alloc ?_ ?_ _) | (with_reducible refine Below.drew ?_) | (with_reducible refine below_drewN ?_ _) | (with_reducible refine below_next ?_ (by with_reducible assumption)) | omega | (dsimp only; omega) | (simp only [World.size_alloc, World.size_setCell, World.size_drew, World.heap_drewN]; omega)))⟩
        rw [← HM.out.2]
        have h := HF.out.rdm
        rw [HM.out.1] at h
        exact h
end Go.Proofs.Ytadcjmfednachaa

namespace Go.Proofs.Ytadcjmfednachaa
open Go.RowKit
set_option linter.unusedVariables false
set_option linter.unusedSimpArgs false

def eqM (l r : List (List Int)) : Bool := decide (l = r)
set_option maxRecDepth 100000 in
set_option maxHeartbeats 1000000 in
theorem same_any (A B : Option Addr) (n c m d : Nat) (l r : List (List Int)) (w : World) (hs : RdM w (.slice A n c) l) (hr : RdM w (.slice B m d) r) :
    Calls Try.prog 15 #[.slice A n c, .slice B m d] w fun e w' => e = .returned (.bool (eqM l r)) ∧ Below w.heap.size w w' := by
  have hl := hs.len
  have hl2 := hr.len
  unfold maxLen at hl hl2
  obtain ⟨A', c', e⟩ := hs.form
  injection e with e1 e2 e3
  subst e2
  clear e1 e3 A' c'
  obtain ⟨A', c', e⟩ := hr.form
  injection e with e1 e2 e3
  subst e2
  clear e1 e3 A' c'
  have HS := Lib.hid hs
  have HR := Lib.hid hr
  clear hs hr
  by_cases hlen : l.length = r.length
  · have HL := Lib.hid hlen
    have d1 : ((l.length : Int) != (r.length : Int)) = false := by simp; omega
    clear hlen
    go_enter Try.func15, Try.ntmps15
    go_wp2
    go_loopw [13] (fun i wr => ∃ k : Nat, k ≤ l.length ∧ i = .int .i64 k ∧ Hid (l.take k = r.take k) ∧ Ext w wr) (fun i _ => l.length - (intOf i).toNat)
    case atStart => exact ⟨0, Nat.zero_le _, rfl, Lib.hid rfl, Below.refl _ _⟩
    case round =>
      obtain ⟨k, hk, rfl, HD, hX⟩ := hrel
      have hXb := Ext.of hX
      by_cases hlt : k < l.length
      · obtain ⟨y, hy⟩ : ∃ y, l[k]? = some y := ⟨_, List.getElem?_eq_getElem hlt⟩
        have hlt2 : k < r.length := by have := HL.out; omega
        obtain ⟨z, hz⟩ : ∃ z, r[k]? = some z := ⟨_, List.getElem?_eq_getElem hlt2⟩
        obtain ⟨b, off, c1, A1, k1, e, hb, p0, hr1⟩ := (HS.out.next hXb).row hy
        injection e with e1 e2 e3
        subst e1
        clear e2 e3
        obtain ⟨b2, off2, c2, A2, k2, e, hb2, p1, hr2⟩ := (HR.out.next hXb).row hz
        injection e with e1 e2 e3
        subst e1
        clear e2 e3
        have HSI : Hid (∀ W, Below wr.heap.size wr W → Calls Try.prog 12 #[.slice A1 y.length k1, .slice A2 z.length k2] W fun e w' => e = .returned (.bool (eqB y z)) ∧ Below W.heap.size W w') := Lib.hid fun W hW => sameInts_any A1 A2 _ k1 _ k2 y z W (hr1.next hW) (hr2.next hW)
        clear hr1 hr2
        by_cases hyz : y = z
        · have HN : Hid (l.take (k + 1) = r.take (k + 1)) := Lib.hid (by rw [List.take_add_one, List.take_add_one, hy, hz, HD.out, hyz])
          have HE : Hid (eqB y z = true) := Lib.hid (by unfold eqB; simp [hyz])
          clear hy hz HD hyz
          rw [HE.out] at HSI
          go_wp2
          refine wp_region_ext (by kernel_rfl) (by kernel_rfl) ?_
          repeat (first | go_big_quiet_skip | (go_big_quiet_want; go_big_quiet_op; first | go_big_quiet_on | (apply Exists.intro; refine ⟨fun W hW => ?_, ?_⟩; (focus (first
            | (go_at_call 12; have hWb := Ext.of hW; (with_reducible refine (HSI.out _ (by (repeat' (first | (with_reducible exact Below.refl _ _) | (with_reducible assumption) | (with_reducible refine Below.setCell ?_ ?_ _) | (with_reducible refine Below.alloc ?_ ?_ _) | (with_reducible refine Below.drew ?_) | (with_reducible refine below_drewN ?_ _) | (with_reducible refine below_next ?_ (by with_reducible assumption)) | omega | (dsimp only; omega) | (simp only [World.size_alloc, World.size_setCell, World.size_drew, World.heap_drewN]; omega))))).mono ?_); rintro e w1 ⟨rfl, hb⟩; exact ⟨rfl, Ext.next hW hb⟩)
            | exact rfl | (obtain ⟨hcW, hfW, hzW⟩ := cif (Ext.of hW); (try simp only [World.size_alloc, World.size_setCell, World.size_drew, World.heap_drewN] at hzW); simp [go_sem, *, ↓IntWalk.iteOmega]; (try exact rfl)))); go_big_quiet_on)))
          refine wpQuiet_nil ?_
          intro w' hw'
          have hbl := Ext.of hw'
          obtain ⟨hc, hf, hz⟩ := cif hbl
          (try simp only [World.size_alloc, World.size_setCell, World.size_drew, World.heap_drewN] at hz)
          clear hw'
          go_wp2
          go_roundw
          case rel => exact ⟨k + 1, by omega, by go_num, HN, by unfold Ext at *; (repeat' (first | (with_reducible exact Below.refl _ _) | (with_reducible assumption) | (with_reducible refine Below.setCell ?_ ?_ _) | (with_reducible refine Below.alloc ?_ ?_ _) | (with_reducible refine Below.drew ?_) | (with_reducible refine below_drewN ?_ _) | (with_reducible refine below_next ?_ (by with_reducible assumption)) | omega | (dsimp only; omega) | (simp only [World.size_alloc, World.size_setCell, World.size_drew, World.heap_drewN]; omega)))⟩
          case measure => simp [intOf]; omega
        · have HE : Hid (eqB y z = false) := Lib.hid (by unfold eqB; simp [hyz])
          have HM : Hid (eqM l r = false) := Lib.hid (by
            unfold eqM
            rw [decide_eq_false_iff_not]
            rintro rfl
            rw [hy] at hz
            exact hyz (Option.some.inj hz))
          clear hy hz HD hyz
          rw [HE.out] at HSI
          go_wp2
          refine wp_region_ext (by kernel_rfl) (by kernel_rfl) ?_
          repeat (first | go_big_quiet_skip | (go_big_quiet_want; go_big_quiet_op; first | go_big_quiet_on | (apply Exists.intro; refine ⟨fun W hW => ?_, ?_⟩; (focus (first
            | (go_at_call 12; have hWb := Ext.of hW; (with_reducible refine (HSI.out _ (by (repeat' (first | (with_reducible exact Below.refl _ _) | (with_reducible assumption) | (with_reducible refine Below.setCell ?_ ?_ _) | (with_reducible refine Below.alloc ?_ ?_ _) | (with_reducible refine Below.drew ?_) | (with_reducible refine below_drewN ?_ _) | (with_reducible refine below_next ?_ (by with_reducible assumption)) | omega | (dsimp only; omega) | (simp only [World.size_alloc, World.size_setCell, World.size_drew, World.heap_drewN]; omega))))).mono ?_); rintro e w1 ⟨rfl, hb⟩; exact ⟨rfl, Ext.next hW hb⟩)
            | exact rfl | (obtain ⟨hcW, hfW, hzW⟩ := cif (Ext.of hW); (try simp only [World.size_alloc, World.size_setCell, World.size_drew, World.heap_drewN] at hzW); simp [go_sem, *, ↓IntWalk.iteOmega]; (try exact rfl)))); go_big_quiet_on)))
          refine wpQuiet_nil ?_
          intro w' hw'
          have hbl := Ext.of hw'
          obtain ⟨hc, hf, hz⟩ := cif hbl
          (try simp only [World.size_alloc, World.size_setCell, World.size_drew, World.heap_drewN] at hz)
          clear hw'
          go_wp2
          go_ret
          exact ⟨by rw [HM.out]; rfl, by unfold Ext at *; (repeat' (first | (with_reducible exact Below.refl _ _) | (with_reducible assumption) | (with_reducible refine Below.setCell ?_ ?_ _) | (with_reducible refine Below.alloc ?_ ?_ _) | (with_reducible refine Below.drew ?_) | (with_reducible refine below_drewN ?_ _) | (with_reducible refine below_next ?_ (by with_reducible assumption)) | omega | (dsimp only; omega) | (simp only [World.size_alloc, World.size_setCell, World.size_drew, World.heap_drewN]; omega)))⟩
      · have HM : Hid (eqM l r = true) := Lib.hid (by
          unfold eqM
          rw [decide_eq_true_iff]
          have h1 := HD.out
          have h2 := HL.out
          rw [List.take_of_length_le (by omega), List.take_of_length_le (by omega)] at h1
          exact h1)
        clear HD
        go_wp2
        go_ret
        exact ⟨by rw [HM.out]; rfl, by unfold Ext at *; (repeat' (first | (with_reducible exact Below.refl _ _) | (with_reducible assumption) | (with_reducible refine Below.setCell ?_ ?_ _) | (with_reducible refine Below.alloc ?_ ?_ _) | (with_reducible refine Below.drew ?_) | (with_reducible refine below_drewN ?_ _) | (with_reducible refine below_next ?_ (by with_reducible assumption)) | omega | (dsimp only; omega) | (simp only [World.size_alloc, World.size_setCell, World.size_drew, World.heap_drewN]; omega)))⟩
  · have HM : Hid (eqM l r = false) := Lib.hid (by unfold eqM; rw [decide_eq_false_iff_not]; rintro rfl; exact hlen rfl)
    have d1 : ((l.length : Int) != (r.length : Int)) = true := by simp; omega
    clear hlen
    go_enter Try.func15, Try.ntmps15
    go_wp2
    go_ret
    exact ⟨by rw [HM.out]; rfl, by (repeat' (first | (with_reducible exact Below.refl _ _) | (with_reducible assumption) | (with_reducible refine Below.setCell ?_ ?_ _) | (with_reducible refine Below.alloc ?_ ?_ _) | (with_reducible refine Below.drew ?_) | (with_reducible refine below_drewN ?_ _) | (with_reducible refine below_next ?_ (by with_reducible assumption)) | omega | (dsimp only; omega) | (simp only [World.size_alloc, World.size_setCell, World.size_drew, World.heap_drewN]; omega)))⟩

/-- A row in memory that the call made, or that was there. -/
def RowB (w : World) (l : List Int) (e : Ending) (w' : World) : Prop := ∃ A c, e = .returned (.slice A l.length c) ∧ RdL intC 1 w' (.slice A l.length c) l ∧ Below w.heap.size w w'
/-- A row of the call's own. -/
def OwnP (w : World) (l : List Int) (e : Ending) (w' : World) : Prop := ∃ A c, e = .returned (.slice A l.length c) ∧ OwnL 3 intC 1 w.heap.size w' (.slice A l.length c) l ∧ Below w.heap.size w w'
def okR (n : Nat) (k : Int) : Bool := decide (Sol.InR n k)
theorem filter_step {l : List Int} {k : Nat} {y : Int} (p : Int → Bool) (hy : l[k]? = some y) : (l.take (k + 1)).filter p = (l.take k).filter p ++ if p y then [y] else [] := by
  rw [List.take_add_one, hy, List.filter_append]
  cases h : p y <;> simp [h]
theorem own_one (W : World) (T : TypeId) (x : Int) : RdL intC 1 (W.alloc (.cells #[.int .i64 x] T)) (.slice (some ⟨W.heap.size, 0, none⟩) 1 1) [x] := by
  refine ⟨_, 1, rfl, by simp, by decide, fun _ => ⟨_, 0, rfl, by simp, fun k a ha j v hv => ?_⟩⟩
  match k, ha with
  | 0, ha =>
    simp at ha; subst ha
    match j, hv with
    | 0, hv => simp [intC] at hv; subst hv; simp [cell_alloc_if]
set_option maxRecDepth 100000 in
set_option maxHeartbeats 2000000 in
theorem follows_any (A : Option Addr) (n c : Nat) (m : List (List Int)) (i : Nat) (w : World) (hs : RdM w (.slice A n c) m) (hi : i < m.length) (hr20 : ∀ l ∈ m, l.length ≤ 1048576) :
    Calls Try.prog 29 #[.slice A n c, .int .i64 i] w (OwnP w (Sol.rowI (Sol.cleanG m) i)) := by
  obtain ⟨i0, hi0, hz0, hz1, hz2⟩ := info_parts int_info
  have hm := hs.len
  unfold maxLen at hm
  obtain ⟨A', c', e⟩ := hs.form
  injection e with e1 e2 e3
  subst e2
  clear e1 e3 A' c'
  obtain ⟨l, hl⟩ : ∃ l, m[i]? = some l := ⟨_, List.getElem?_eq_getElem hi⟩
  have hl20 : l.length ≤ 1048576 := hr20 l (List.mem_of_getElem? hl)
  have HRE : Hid (Sol.rowI (Sol.cleanG m) i = l.filter (okR m.length)) := Lib.hid (by rw [Sol.rowI_clean, rowI_nat hl]; rfl)
  obtain ⟨b, off, c1, A2, c2, e, hb, p0, hr⟩ := hs.row hl
  injection e with e1 e2 e3
  subst e1
  have HR := Lib.hid hr
  obtain ⟨N, hN⟩ : ∃ N, N = m.length := ⟨_, rfl⟩
  rw [← hN] at HRE hi hm ⊢
  clear hs hr hl e2 e3 hN hr20
  have hA1 := cell_alloc_if
  have hA2 := frozen_alloc_if
  have hA3 := cell_set_if
  go_enter Try.func29, Try.ntmps29
  go_wp2
  go_loopw [5, 6] (fun v k wr => ∃ (j : Nat) (A5 : Option Addr) (c5 : Nat) (o : List Int), j ≤ l.length ∧ k = .int .i64 j ∧ v = .slice A5 o.length c5 ∧ Ext w wr ∧ o.length ≤ j ∧ Hid (o = (l.take j).filter (okR N)) ∧ Hid (OwnL 3 intC 1 w.heap.size wr (.slice A5 o.length c5) o)) (fun _ k _ => l.length - (intOf k).toNat)
  case atStart => exact ⟨0, none, 0, [], by omega, rfl, rfl, Below.refl _ _, by simp, Lib.hid (by simp), Lib.hid (OwnL.nil _ _ _ _ _)⟩
  case round =>
    obtain ⟨j, A5, c5, o, hj, rfl, rfl, hX, hoj, HO, HOW⟩ := hrel
    have hXb := Ext.of hX
    have hXz := hXb.size
    have p0' := (hXb.cell (p := ⟨b, off + i, none⟩) hb).trans p0
    by_cases hlt : j < l.length
    · obtain ⟨y, hy⟩ : ∃ y, l[j]? = some y := ⟨_, List.getElem?_eq_getElem hlt⟩
      obtain ⟨b2, off2, rfl, _, hb2, p1⟩ := (HR.out.next hXb).intAt hy
      have hst := filter_step (okR N) hy
      by_cases h0 : 0 ≤ y
      · by_cases h1 : y < N
        · have HO2 : Hid (o ++ [y] = (l.take (j + 1)).filter (okR N)) := Lib.hid (by
            rw [hst, ← HO.out, show okR N y = true from decide_eq_true ⟨h0, h1⟩]; rfl)
          clear hst hy HO
          go_wp2_with (at_builtin; refine wpList_app (e := 3) (f := intC) rfl _ _ 28 rfl w.heap.size i0 _ 8 Try.underlying28 hi0 hz0 hz1 hz2 rfl (by decide) intC_len (.slice A5 o.length c5) o rfl ?c0 _ 1 _ [y] rfl ?c1 (intC_one _) (by decide) ?c2 ?c3 ?_)
          case c0 => exact HOW.out.next (by (repeat' (first | (with_reducible exact Below.refl _ _) | (with_reducible assumption) | (with_reducible refine Below.setCell ?_ ?_ _) | (with_reducible refine Below.alloc ?_ ?_ _) | (with_reducible refine Below.drew ?_) | (with_reducible refine below_drewN ?_ _) | (with_reducible refine below_next ?_ (by with_reducible assumption)) | omega | (dsimp only; omega) | (simp only [World.size_alloc, World.size_setCell, World.size_drew, World.heap_drewN]; omega))))
          case c1 => exact own_one _ _ _
          case c2 => first | omega | (simp; omega)
          case c3 => first | omega | (simp; omega)
          intro A9 c9 w6 hown hg hB hor
          have HOW2 := Lib.hid hown
          have hBB : Below w.heap.size wr w6 := Below.trans ((Below.refl _ _).alloc (by omega) _) hB
          clear hown hg hB hor
          go_wp2
          go_roundw
          case rel => exact ⟨j + 1, A9, c9, o ++ [y], by omega, by go_num, by simp, hXb.trans hBB, by simp; omega, HO2, by simpa using HOW2⟩
          case measure => simp [intOf]; omega
        · have HO2 : Hid (o = (l.take (j + 1)).filter (okR N)) := Lib.hid (by
            rw [hst, ← HO.out, show okR N y = false from decide_eq_false (fun h => h1 h.2)]; simp)
          clear hst hy HO
          go_wp2
          go_roundw
          case rel => exact ⟨j + 1, A5, c5, o, by omega, by go_num, rfl, hX, by omega, HO2, HOW⟩
          case measure => simp [intOf]; omega
      · have HO2 : Hid (o = (l.take (j + 1)).filter (okR N)) := Lib.hid (by
          rw [hst, ← HO.out, show okR N y = false from decide_eq_false (fun h => h0 h.1)]; simp)
        clear hst hy HO
        go_wp2
        go_roundw
        case rel => exact ⟨j + 1, A5, c5, o, by omega, by go_num, rfl, hX, by omega, HO2, HOW⟩
        case measure => simp [intOf]; omega
    · have HE : Hid (o = Sol.rowI (Sol.cleanG m) i) := Lib.hid (by
        rw [HRE.out, HO.out, List.take_of_length_le (by omega)])
      clear HO
      go_wp2
      go_ret
      rw [← HE.out]
      exact ⟨A5, c5, rfl, HOW.out, by unfold Ext at *; (repeat' (first | (with_reducible exact Below.refl _ _) | (with_reducible assumption) | (with_reducible refine Below.setCell ?_ ?_ _) | (with_reducible refine Below.alloc ?_ ?_ _) | (with_reducible refine Below.drew ?_) | (with_reducible refine below_drewN ?_ _) | (with_reducible refine below_next ?_ (by with_reducible assumption)) | omega | (dsimp only; omega) | (simp only [World.size_alloc, World.size_setCell, World.size_drew, World.heap_drewN]; omega)))⟩
end Go.Proofs.Ytadcjmfednachaa

namespace Go.Proofs.Ytadcjmfednachaa
open Go.RowKit
set_option linter.unusedVariables false
set_option linter.unusedSimpArgs false

theorem heap_alloc_old' (w : World) (o : Obj) {b : Nat} (h : b < w.heap.size) : (w.alloc o).heap[b]? = w.heap[b]? := ((Below.refl w.heap.size w).alloc (Nat.le_refl _) o).block b h
/-- Rows done so far: those ahead of i are whole, row i is as far as l0. -/
def PartM (N : Nat) (F : List Int → List Int) (m m' : List (List Int)) (i : Nat) (l0 : List Int) : Prop :=
  m'.length = N ∧ ∀ x, x < N → m'.getD x [] = if x < i then F (m.getD x []) else if x = i then l0 else []
theorem getD_replicate {α : Type} (n k : Nat) (a : α) : (List.replicate n a).getD k a = a := by
  rw [List.getD_eq_getElem?_getD, List.getElem?_replicate]; split <;> rfl
theorem PartM.start (N : Nat) (F : List Int → List Int) (m : List (List Int)) : PartM N F m (List.replicate N []) 0 [] :=
  ⟨by simp, fun x hx => by rw [getD_replicate]; simp⟩
theorem PartM.put {N : Nat} {F : List Int → List Int} {m m' : List (List Int)} {i : Nat} {l0 l1 : List Int} (h : PartM N F m m' i l0) (hi : i < N) : PartM N F m (m'.set i l1) i l1 := by
  refine ⟨by rw [List.length_set]; exact h.1, fun x hx => ?_⟩
  rw [Sol.getD_set]
  by_cases e : i = x
  · rw [if_pos ⟨e, by rw [h.1]; exact hi⟩, if_neg (by omega), if_pos e.symm]
  · rw [if_neg (fun k => e k.1), h.2 x hx]
    by_cases e2 : x < i
    · rw [if_pos e2, if_pos e2]
    · rw [if_neg e2, if_neg e2, if_neg (Ne.symm e), if_neg (Ne.symm e)]
theorem PartM.next {N : Nat} {F : List Int → List Int} {m m' : List (List Int)} {i : Nat} {l0 : List Int} (h : PartM N F m m' i l0) (e : l0 = F (m.getD i [])) : PartM N F m m' (i + 1) [] := by
  refine ⟨h.1, fun x hx => ?_⟩
  rw [h.2 x hx]
  by_cases e2 : x < i
  · rw [if_pos e2, if_pos (by omega)]
  · by_cases e3 : x = i
    · subst e3
      rw [if_neg e2, if_pos rfl, if_pos (by omega), e]
    · rw [if_neg e2, if_neg e3, if_neg (by omega)]
      split <;> rfl
theorem PartM.done {N : Nat} {F : List Int → List Int} {m m' : List (List Int)} {l0 : List Int} (h : PartM N F m m' N l0) (hm : m.length = N) (hF : F [] = []) : m' = m.map F := by
  refine Sol.lists_ext h.1 (by simp [hm]) fun k hk => ?_
  rw [h.2 k hk, if_pos hk, List.getD_eq_getElem?_getD, List.getD_eq_getElem?_getD, List.getElem?_map]
  cases m[k]? <;> simp [hF]
theorem PartM.at_ {N : Nat} {F : List Int → List Int} {m m' : List (List Int)} {i : Nat} {l0 : List Int} (h : PartM N F m m' i l0) (hi : i < N) : m'[i]? = some l0 := by
  have h1 := h.2 i hi
  rw [if_neg (by omega), if_pos rfl] at h1
  have hlt : i < m'.length := by rw [h.1]; exact hi
  rw [List.getElem?_eq_getElem hlt]
  rw [List.getD_eq_getElem?_getD, List.getElem?_eq_getElem hlt] at h1
  simpa using h1

/-- A matrix that the call made. -/
def MatP (w : World) (m : List (List Int)) (e : Ending) (w' : World) : Prop := e = .returned (.slice (some ⟨w.heap.size, 0, none⟩) m.length m.length) ∧ OwnM 3 28 w.heap.size w' w.heap.size m ∧ Below w.heap.size w w'
set_option maxRecDepth 100000 in
set_option maxHeartbeats 4000000 in
theorem clean_any (A : Option Addr) (n c : Nat) (m : List (List Int)) (w : World) (hs : RdM w (.slice A n c) m) (hn : m.length ≤ 1048576) (hr20 : ∀ l ∈ m, l.length ≤ 1048576) :
    Calls Try.prog 26 #[.slice A n c] w (MatP w (Sol.cleanG m)) := by
  obtain ⟨i0, hi0, hz0, hz1, hz2⟩ := info_parts int_info
  obtain ⟨j0, hj0, hy0, hy1, hy2⟩ := info_parts row_info
  obtain ⟨A', c', e⟩ := hs.form
  injection e with e1 e2 e3
  subst e2
  clear e1 e3 A' c'
  have HS := Lib.hid hs
  have H20 := Lib.hid hr20
  obtain ⟨N, hN⟩ : ∃ N, N = m.length := ⟨_, rfl⟩
  have HN := Lib.hid hN
  rw [← hN] at hn
  have HSN : Hid (RdM w (.slice A N c) m) := Lib.hid (by rw [hN]; exact hs)
  rw [← hN]
  have HRES : Hid (m.map (List.filter (okR N)) = Sol.cleanG m) := Lib.hid (by unfold Sol.cleanG okR; rw [hN])
  clear hs hr20 hN HS
  have hA1 := cell_alloc_if
  have hA2 := frozen_alloc_if
  have hA3 := cell_set_if
  go_enter Try.func26, Try.ntmps26
  go_wp2_with (refine wpList_make_full _ rfl (.tmp 9) (.tmp 9) 39 rfl w.heap.size 28 j0 _ 1 Try.underlying39 hj0 hy0 hy1 .i64 .i64 N N N rfl rfl rfl rfl ?m1 ?m2 ?m3 ?_)
  case m1 => rw [hy2]; omega
  case m2 => unfold maxLen; omega
  case m3 => exact Nat.le_refl _
  intro w1 hrow hg1
  rw [toList_madeCells_one] at hrow
  have hblk := block_full hrow
  have hbw1 : Below w.heap.size w w1 := (Below.refl _ _).grown hg1 (Nat.le_refl _) (fun k hk => by cases hk)
  have hlt1 : w.heap.size < w1.heap.size := (Array.getElem?_eq_some_iff.1 hblk).1
  have HM0 : Hid (OwnM 3 28 w.heap.size w1 w.heap.size (List.replicate N [])) := Lib.hid ⟨_, OwnV.made (Nat.le_refl _) (by simpa using hblk)⟩
  clear hrow hg1 hblk
  go_wp2
  go_loopw [13] (fun i wr => ∃ (k : Nat) (m' : List (List Int)), k ≤ N ∧ i = .int .i64 k ∧ Below w.heap.size w wr ∧ Hid (OwnM 3 28 w.heap.size wr w.heap.size m') ∧ Hid (PartM N (List.filter (okR N)) m m' k [])) (fun i _ => N - (intOf i).toNat)
  case atStart => exact ⟨0, _, by omega, rfl, hbw1, HM0, Lib.hid (PartM.start _ _ _)⟩
  case round =>
    obtain ⟨k, m0, hk, rfl, hXb, HM, HP⟩ := hrel
    have hXz := hXb.size
    by_cases hlt : k < N
    · obtain ⟨l, hl⟩ : ∃ l, m[k]? = some l := ⟨_, List.getElem?_eq_getElem (by have := HN.out; omega)⟩
      have hl20 := H20.out l (List.mem_of_getElem? hl)
      have hld : m.getD k [] = l := by rw [List.getD_eq_getElem?_getD, hl]; rfl
      have HLD := Lib.hid hld
      obtain ⟨b, off, c1, A2, c2, e, hb, p00, hr⟩ := HSN.out.row hl
      injection e with e1 e2 e3
      subst e1
      have HR := Lib.hid hr
      have p0 := (hXb.cell (p := ⟨b, off + k, none⟩) hb).trans p00
      clear hr hl e2 e3 hld p00
      go_wp2
      obtain ⟨wo, rfl⟩ : ∃ wo, wo = wr := ⟨_, rfl⟩
      go_loopw [20] (fun i wr => ∃ (j : Nat) (m' : List (List Int)), j ≤ l.length ∧ i = .int .i64 j ∧ Below w.heap.size w wr ∧ Hid (OwnM 3 28 w.heap.size wr w.heap.size m') ∧ Hid (PartM N (List.filter (okR N)) m m' k ((l.take j).filter (okR N)))) (fun i _ => l.length - (intOf i).toNat)
      case atStart => exact ⟨0, m0, by omega, rfl, hXb, HM, Lib.hid (by simpa using HP.out)⟩
      case round =>
        clear hXb hXz p0 HM HP
        obtain ⟨j, m1, hj, rfl, hXb, HM, HP⟩ := hrel
        have hXz := hXb.size
        by_cases hltj : j < l.length
        · obtain ⟨y, hy⟩ : ∃ y, l[j]? = some y := ⟨_, List.getElem?_eq_getElem hltj⟩
          obtain ⟨b2, off2, e2, _, hb2, p11⟩ := HR.out.intAt hy
          subst e2
          have p1 := (hXb.cell (p := ⟨b2, off2 + j, none⟩) hb2).trans p11
          have hst := filter_step (okR N) hy
          clear p11 hy
          by_cases hy0 : 0 ≤ y ∧ y < N
          · obtain ⟨h0, h1⟩ := hy0
            rw [show okR N y = true from decide_eq_true ⟨h0, h1⟩] at hst
            obtain ⟨o, ho⟩ : ∃ o, o = (l.take j).filter (okR N) := ⟨_, rfl⟩
            rw [← ho] at HP hst
            have hol : o.length ≤ j := by rw [ho]; exact Nat.le_trans (List.length_filter_le _ _) (by rw [List.length_take]; omega)
            have HST := Lib.hid hst
            obtain ⟨vs, hV⟩ := HM.out
            obtain ⟨A7, c7, hv7, p2, f2, how⟩ := hV.at_ (HP.out.at_ hlt)
            have HV := Lib.hid hV
            have HV7 := Lib.hid hv7
            have HOW := Lib.hid how
            have hb0 := hV.lt
            clear hst ho hV hv7 how f2
            go_wp2_with (at_builtin; refine wpList_app (e := 3) (f := intC) rfl _ _ 28 rfl w.heap.size i0 _ 8 Try.underlying28 hi0 hz0 hz1 hz2 rfl (by decide) intC_len (.slice A7 o.length c7) o rfl ?c0 _ 1 _ [y] rfl ?c1 (intC_one _) (by decide) ?c2 ?c3 ?_)
            case c0 => exact HOW.out.next (by (repeat' (first | (with_reducible exact Below.refl _ _) | (with_reducible assumption) | (with_reducible refine Below.setCell ?_ ?_ _) | (with_reducible refine Below.alloc ?_ ?_ _) | (with_reducible refine Below.drew ?_) | (with_reducible refine below_drewN ?_ _) | (with_reducible refine below_next ?_ (by with_reducible assumption)) | omega | (dsimp only; omega) | (simp only [World.size_alloc, World.size_setCell, World.size_drew, World.heap_drewN]; omega))))
            case c1 => exact own_one _ _ _
            case c2 => first | omega | (simp; omega)
            case c3 => first | omega | (simp; omega)
            intro A9 c9 w6 hown hg hB hor
            have hz6 := hg.size
            have hkeep : ∀ b, b < wr.heap.size → (Value.slice A7 o.length c7).ownBlock ≠ some b → w6.heap[b]? = wr.heap[b]? := by
              intro b hb hne
              rw [hg.block b (by simp; omega) (fun e => hne e.symm)]
              exact heap_alloc_old' _ _ hb
            have hz6' : wr.heap.size + 1 ≤ w6.heap.size := by simpa using hz6
            have hb06 := (hkeep _ hb0 (fun e => HV.out.off _ _ _ HV7.out e rfl)).trans HV.out.blk
            have p6 : w6.cell? ⟨w.heap.size, k, none⟩ = some (.slice A7 o.length c7) := by
              have h1 := Lib.cell_of_heap hb06 k
              rw [h1]
              simpa using HV7.out
            have f6 : w6.frozen? ⟨w.heap.size, k, none⟩ = false := Lib.frozen_of_heap hb06 _
            have HNEW : Hid (OwnM 3 28 w.heap.size (w6.setCell ⟨w.heap.size, k, none⟩ (.slice A9 (o.length + 1) c9)) w.heap.size (m1.set k (o ++ [y]))) := Lib.hid ⟨_, OwnV.put HV.out HV7.out (fun b _ hb hne => hkeep b hb hne) (by omega) hown (fun q hq => by
              rcases hor with e | e
              · left; rw [← e]; exact hq
              · right; rw [e] at hq; injection hq with hq; omega)⟩
            have hBB : Below w.heap.size w w6 := hXb.trans (Below.trans ((Below.refl _ _).alloc (by omega) _) hB)
            have HP2 := Lib.hid (HP.out.put (l1 := o ++ [y]) hlt)
            clear hown hg hB hor hkeep hb06 hz6
            go_wp2
            go_roundw
            case rel => exact ⟨j + 1, _, by omega, by go_num, hBB.setCell (Nat.le_refl _) _, HNEW, by rw [HST.out]; exact HP2⟩
            case measure => simp [intOf]; omega
          · have HP2 : Hid (PartM N (List.filter (okR N)) m m1 k ((l.take (j + 1)).filter (okR N))) := Lib.hid (by
              rw [hst, show okR N y = false from decide_eq_false hy0]
              simpa using HP.out)
            clear hst HP
            by_cases h0 : 0 ≤ y
            · have h1 : ¬ y < N := fun h => hy0 ⟨h0, h⟩
              clear hy0
              go_wp2
              go_roundw
              case rel => exact ⟨j + 1, _, by omega, by go_num, hXb, HM, HP2⟩
              case measure => simp [intOf]; omega
            · clear hy0
              go_wp2
              go_roundw
              case rel => exact ⟨j + 1, _, by omega, by go_num, hXb, HM, HP2⟩
              case measure => simp [intOf]; omega
        · have HP2 : Hid (PartM N (List.filter (okR N)) m m1 (k + 1) []) := Lib.hid (HP.out.next (by rw [HLD.out, List.take_of_length_le (by omega)]))
          clear HP
          go_wp2
          go_roundw
          case rel => exact ⟨k + 1, _, by omega, by go_num, hXb, HM, HP2⟩
          case measure => simp [intOf]; omega
    · obtain rfl : k = N := by omega
      have HE : Hid (m0 = Sol.cleanG m) := Lib.hid (by rw [HP.out.done HN.out.symm rfl, HRES.out])
      have HL : Hid ((Sol.cleanG m).length = k) := Lib.hid (by rw [Sol.cleanG_length]; exact HN.out.symm)
      clear HP
      go_wp2
      go_ret
      exact ⟨by rw [HL.out]; rfl, by rw [← HE.out]; exact HM.out, hXb⟩
end Go.Proofs.Ytadcjmfednachaa

namespace Go.Proofs.Ytadcjmfednachaa
open Go.RowKit
set_option linter.unusedVariables false
set_option linter.unusedSimpArgs false

def plC (p : Int × Nat) : List Value := [.int .i64 p.1, .int .i64 p.2]
theorem plC_len (p : Int × Nat) : (plC p).length = 2 := rfl
theorem plC_one (l : List (Int × Nat)) : ∀ a ∈ l, ∀ u ∈ plC a, u.oneCell' = true := by
  intro a _ u hu; simp [plC] at hu; rcases hu with rfl | rfl <;> rfl
theorem pl_info : (Try.prog.info? 59).map (fun i => (i.zero, i.size, i.bytes)) = some (some (.agg #[.int .i64 0, .int .i64 0]), 2, 16) := by kernel_rfl
theorem flat_set : ∀ (l : List (Int × Nat)) (i : Nat) (x : Int) (a b : Nat), l[i]? = some (x, a) → (l.flatMap plC).set (i * 2 + 1) (.int .i64 (b : Int)) = (l.set i (x, b)).flatMap plC
  | [], i, x, a, b, h => by simp at h
  | p :: l, 0, x, a, b, h => by
    simp at h; subst h
    simp [plC]
  | p :: l, i + 1, x, a, b, h => by
    have ih := flat_set l i x a b (by simpa using h)
    rw [List.set_cons_succ, List.flatMap_cons, List.flatMap_cons, ← ih]
    have e : (i + 1) * 2 + 1 = (plC p).length + (i * 2 + 1) := by rw [plC_len]; omega
    rw [e, List.set_append, if_neg (by omega), Nat.add_sub_cancel_left]
/-- The stack's state lies in the memory. -/
structure LeftS (base : Nat) (wr : World) (v5 v7 : Value) (b0 : Nat) (out : List Int) (seen : List Bool) (stk : List (Int × Nat)) : Prop where
  o : OwnL 3 intC 1 base wr v5 out
  s : OwnL 59 plC 2 base wr v7 stk.reverse
  m : BoolR 4 wr b0 seen
  low : base ≤ b0
  ob : v5.ownBlock ≠ some b0
  sb : v7.ownBlock ≠ some b0
  os : ∀ q, v5.ownBlock = some q → v7.ownBlock ≠ some q
section
variable {base b0 : Nat} {wr w1 w2 w6 : World} {v5 v7 v5' v7' : Value} {out : List Int} {seen : List Bool} {stk : List (Int × Nat)}
theorem LeftS.next (h : LeftS base wr v5 v7 b0 out seen stk) (hb : Below wr.heap.size wr w1) : LeftS base w1 v5 v7 b0 out seen stk :=
  ⟨h.o.next hb, h.s.next hb, h.m.next hb, h.low, h.ob, h.sb, h.os⟩
/-- One more is left. -/
theorem LeftS.pop {x : Int} {a : Nat} {g c : Nat} {W2 : World} (h : LeftS base wr v5 (.slice (some ⟨g, 0, none⟩) (stk.length + 1) c) b0 out seen ((x, a) :: stk)) (hbw : Below wr.heap.size wr W2)
    (hown : OwnL 3 intC 1 base w6 v5' (out ++ [x])) (hg : W2.grownBy w6 v5.ownBlock) (hor : v5'.ownBlock = v5.ownBlock ∨ ∃ z, v5'.ownBlock = some z ∧ wr.heap.size ≤ z) :
    LeftS base w6 v5' (.slice (some ⟨g, 0, none⟩) stk.length c) b0 (out ++ [x]) seen stk := by
  have h2 := h.next hbw
  have hgl := (h.s.lt (b := g) rfl).2
  have hml := h.m.lt
  have hz := hbw.size
  refine ⟨hown, ?_, h2.m.block (hg.block _ h2.m.lt fun e => h.ob e.symm), h.low, ?_, ?_, ?_⟩
  · have h3 := OwnL.cut plC_len h2.s (k := stk.length) (by simp)
    have e : ((x, a) :: stk).reverse.take stk.length = stk.reverse := by
      rw [List.reverse_cons, List.take_append_of_le_length (by simp), List.take_of_length_le (by simp)]
    rw [e] at h3
    refine h3.keep fun b hb => hg.block b (h3.lt hb).2 fun e2 => ?_
    exact h.os b e2.symm hb
  · rcases hor with e | ⟨z, e, hz⟩
    · rw [e]; exact h.ob
    · rw [e]; intro e2; injection e2 with e2; omega
  · exact h.sb
  · intro q hq
    rcases hor with e | ⟨z, e, hz⟩
    · exact h.os q (e ▸ hq)
    · rw [e] at hq
      injection hq with hq
      intro e2
      have : g = q := by simpa [Value.ownBlock] using e2
      omega
/-- The top has one follower more that was looked at. -/
theorem LeftS.inc {x : Int} {a : Nat} {g c : Nat} (h : LeftS base wr v5 (.slice (some ⟨g, 0, none⟩) (stk.length + 1) c) b0 out seen ((x, a) :: stk)) :
    LeftS base (wr.setCell ⟨g, stk.length * 2 + 1, none⟩ (.int .i64 ((a + 1 : Nat) : Int))) v5 (.slice (some ⟨g, 0, none⟩) (stk.length + 1) c) b0 out seen ((x, a + 1) :: stk) := by
  have hne : ∀ b, b ≠ g → (wr.setCell ⟨g, stk.length * 2 + 1, none⟩ (.int .i64 ((a + 1 : Nat) : Int))).heap[b]? = wr.heap[b]? := by
    intro b hb
    simp only [World.setCell, Array.getElem?_modify]
    rw [if_neg (Ne.symm hb)]
  refine ⟨h.o.keep fun b hb => hne b fun e => h.os b hb (by rw [e]; rfl), ?_, h.m.block (hne _ fun e => h.sb (by rw [e]; rfl)), h.low, h.ob, h.sb, h.os⟩
  obtain ⟨A', c', e1, h2⟩ := h.s
  injection e1 with e1 e2 e3
  have hl : ((x, a) :: stk).reverse.length = stk.length + 1 := by simp
  have hst := (World.ownsRow.stored (by rw [hl] at h2; exact h2) (stk.length * 2 + 1) (.int .i64 ((a + 1 : Nat) : Int))).1
  refine ⟨some ⟨g, 0, none⟩, c, by simp, ?_⟩
  rw [flat_set _ stk.length x a (a + 1) (by rw [List.reverse_cons, List.getElem?_append_right (by simp)]; simp)] at hst
  have e4 : ((x, a) :: stk).reverse.set stk.length (x, a + 1) = ((x, a + 1) :: stk).reverse := by
    rw [List.reverse_cons, List.reverse_cons, List.set_append, if_neg (by simp)]; simp
  rw [e4] at hst
  rw [show ((x, a + 1) :: stk).reverse.length = stk.length + 1 by simp]
  exact hst
/-- A node is marked. -/
theorem LeftS.mark (h : LeftS base wr v5 v7 b0 out seen stk) (i : Nat) : LeftS base (wr.setCell ⟨b0, i, none⟩ (.bool true)) v5 v7 b0 out (seen.set i true) stk := by
  have hne : ∀ b, b ≠ b0 → (wr.setCell ⟨b0, i, none⟩ (.bool true)).heap[b]? = wr.heap[b]? := by
    intro b hb
    simp only [World.setCell, Array.getElem?_modify]
    rw [if_neg (Ne.symm hb)]
  exact ⟨h.o.keep fun b hb => hne b fun e => h.ob (by rw [← e]; exact hb), h.s.keep fun b hb => hne b fun e => h.sb (by rw [← e]; exact hb), h.m.set i true, h.low, h.ob, h.sb, h.os⟩
/-- One is put onto the stack. -/
theorem LeftS.push {p : Int × Nat} {W2 : World} (h : LeftS base wr v5 v7 b0 out seen stk) (hbw : Below wr.heap.size wr W2)
    (hown : OwnL 59 plC 2 base w6 v7' (stk.reverse ++ [p])) (hg : W2.grownBy w6 v7.ownBlock) (hor : v7'.ownBlock = v7.ownBlock ∨ ∃ z, v7'.ownBlock = some z ∧ wr.heap.size ≤ z) :
    LeftS base w6 v5 v7' b0 out seen (p :: stk) := by
  have h2 := h.next hbw
  have hml := h.m.lt
  have hz := hbw.size
  refine ⟨h2.o.keep fun b hb => hg.block b (h2.o.lt hb).2 fun e => h.os b hb e.symm, by rw [List.reverse_cons]; exact hown, h2.m.block (hg.block _ h2.m.lt fun e => h.sb e.symm), h.low, h.ob, ?_, ?_⟩
  · rcases hor with e | ⟨z, e, hz⟩
    · rw [e]; exact h.sb
    · rw [e]; intro e2; injection e2 with e2; omega
  · intro q hq
    rcases hor with e | ⟨z, e, hz⟩
    · rw [e]; exact h.os q hq
    · rw [e]; intro e2; injection e2 with e2
      have := (h.o.lt hq).2
      omega
/-- What lies on the top. -/
theorem LeftS.top {x : Int} {a : Nat} {A : Option Addr} {n c : Nat} (h : LeftS base wr v5 (.slice A n c) b0 out seen ((x, a) :: stk)) :
    ∃ g, A = some ⟨g, 0, none⟩ ∧ n = stk.length + 1 ∧ base ≤ g ∧ g < wr.heap.size ∧ wr.cell? ⟨g, stk.length * 2, none⟩ = some (.int .i64 x) ∧ wr.cell? ⟨g, stk.length * 2 + 1, none⟩ = some (.int .i64 a) ∧ ∀ o, wr.frozen? ⟨g, o, none⟩ = false := by
  obtain ⟨g, rfl, hb, hlt, hn⟩ := h.s.addr (by simp)
  have hl : ((x, a) :: stk).reverse[stk.length]? = some (x, a) := by rw [List.reverse_cons, List.getElem?_append_right (by simp)]; simp
  have hr := h.s.rdl plC_len
  obtain ⟨b, off, c', e, _, _, hb2, hc⟩ := hr.some_ (by simp)
  injection e with e1 e2 e3
  injection e1 with e1
  injection e1 with e1 e4
  subst e1 e4
  have p0 := hc _ _ hl 0 _ rfl
  have p1 := hc _ _ hl 1 _ rfl
  rw [Nat.zero_add, Nat.add_zero] at p0
  rw [Nat.zero_add] at p1
  obtain ⟨A', c'', e5, h2⟩ := h.s
  refine ⟨g, rfl, by simpa using hn, hb, hlt, p0, p1, fun o => ?_⟩
  injection e5 with e5 e6 e7
  subst e5
  rcases h2.2 with ⟨h1, _⟩ | ⟨g', cap, cur, hv, _, hg, _⟩
  · rw [e6] at h1; cases h1
  · rw [e6] at hv
    injection hv with k1
    injection k1 with k1
    injection k1 with k1
    subst k1
    exact Lib.frozen_of_heap hg _
end
/-- What is right of a state. -/
structure StOk (G : List (List Int)) (st : Sol.StD) : Prop where
  len : st.2.1.length = G.length
  cnt : st.1.length + st.2.2.length ≤ st.2.1.countP id
  inr : ∀ p ∈ st.2.2, Sol.InR G.length p.1 ∧ p.2 ≤ (Sol.rowI G p.1).length
theorem countP_set {l : List Bool} {k : Nat} (h : l.getD k false = false) (hk : k < l.length) : (l.set k true).countP id = l.countP id + 1 := by
  have he : l[k] = false := by rw [List.getD_eq_getElem?_getD, List.getElem?_eq_getElem hk] at h; simpa using h
  induction l generalizing k with
  | nil => simp at hk
  | cons x xs ih =>
    cases k with
    | zero => simp at he; subst he; simp
    | succ k =>
      simp only [List.set_cons_succ, List.countP_cons]
      have := @ih k (by simpa using h) (by simpa using hk) (by simpa using he)
      omega
theorem StOk.step {G : List (List Int)} (hG : Sol.Cln G) {st : Sol.StD} (h : StOk G st) : StOk G (Sol.stepD G st) := by
  obtain ⟨out, seen, stk⟩ := st
  obtain ⟨h1, h2, h3⟩ := h
  dsimp only at h1 h2 h3
  cases stk with
  | nil => exact ⟨h1, h2, h3⟩
  | cons p stk =>
    obtain ⟨i, a⟩ := p
    obtain ⟨hi, ha⟩ := h3 (i, a) (by simp)
    dsimp only at hi ha
    unfold Sol.stepD
    dsimp only
    by_cases c1 : a = (Sol.rowI G i).length
    · rw [if_pos c1]
      exact ⟨h1, by simp at h2 ⊢; omega, fun p hp => h3 p (by simp [hp])⟩
    · rw [if_neg c1]
      have hk : (Sol.rowI G i).getD a 0 ∈ Sol.rowI G i := by
        rw [List.getD_eq_getElem?_getD, List.getElem?_eq_getElem (by omega)]
        exact List.getElem_mem _
      have hkr := hG _ _ hk
      generalize (Sol.rowI G i).getD a 0 = k at *
      by_cases c2 : seen.getD k.toNat false = true
      · rw [if_pos c2]
        refine ⟨h1, by simpa using h2, fun p hp => ?_⟩
        rcases List.mem_cons.1 hp with rfl | hp
        · exact ⟨hi, by dsimp only; omega⟩
        · exact h3 p (by simp [hp])
      · rw [if_neg c2]
        have hkr' := hkr
        unfold Sol.InR at hkr'
        have hcs := countP_set (by simpa using c2) (show k.toNat < seen.length by omega)
        refine ⟨by simpa using h1, ?_, fun p hp => ?_⟩
        · dsimp only
          rw [hcs]
          simp at h2 ⊢
          omega
        · rcases List.mem_cons.1 hp with rfl | hp
          · exact ⟨hkr, by simp⟩
          · rcases List.mem_cons.1 hp with rfl | hp
            · exact ⟨hi, by dsimp only; omega⟩
            · exact h3 p (by simp [hp])
end Go.Proofs.Ytadcjmfednachaa
