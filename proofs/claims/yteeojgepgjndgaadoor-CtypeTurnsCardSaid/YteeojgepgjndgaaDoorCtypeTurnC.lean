/-
  Merged by wip/turns/merge.py.
-/
import Derived.Test.YteeojgepgjndgaaDoorMachE5
import Derived.Test.YteeojgepgjndgaaDoorCtypeW7
import Derived.Test.YteeojgepgjndgaaDoorCtypeW12
import Derived.Laws.FloatArith
import Derived.Test.YteeojgepgjndgaaDoorCtypeW23
import Derived.Test.YteeojgepgjndgaaDoorCtypeW24
namespace Go.Proofs.YteeojgepgjndgaaDoor
open Go.RowKit
set_option linter.unusedVariables false
set_option linter.unusedSimpArgs false

/-- A value turned by operations, one behind the other, as long as they succeed. -/
def turnL : List Int → V → Bool → V × Bool
  | [], v, ok => (v, ok)
  | op :: l, v, ok => if ok then turnL l (eval1 op v).1 (eval1 op v).2 else turnL l v ok
theorem turnL_no : ∀ (l : List Int) (v : V), turnL l v false = (v, false)
  | [], v => rfl
  | op :: l, v => by simp [turnL, turnL_no l v]
/-- Its kind is one of a number's, its bits fit. -/
def Fit (v : V) : Prop := U64 v.b ∧ (0 ≤ v.k ∧ v.k ≤ 4) ∧ v.l = 0
theorem fit_undef : Fit undefV := by simp [Fit, undefV, U64]
theorem fit_int (n : Int) : Fit (intV n) := by simp [Fit, intV, U64]; omega
theorem fit_long (n : Int) : Fit (longV n) := by simp [Fit, longV, U64]; omega
theorem fit_flag (b : Bool) : Fit (flagV b) := by cases b <;> exact fit_int _
theorem fof_lt (n : Int) : floatOfInt .f64 n < 18446744073709551616 := by
  have h := floatOfInt_wf .f64 n
  simp [Lit.wf, FloatKind.has] at h
  have h2 : floatOfInt .f64 n < 2 ^ 64 := by first | exact h | (have := h; simpa using this)
  omega
theorem fit_canon (n : Nat) (h : n < 18446744073709551616) : Fit (canonF n) := by
  unfold canonF
  split
  · simp [Fit, dblV, U64]; omega
  · simp [Fit, dblV, U64]
theorem fit_whole (op : Int) (x : Nat) : Fit (toWholeV op x).1 := by
  unfold toWholeV
  split
  · exact fit_undef
  · (repeat' split) <;> first | exact fit_undef | exact fit_int _ | exact fit_long _
theorem fit_eval1 (op : Int) (x : V) (hop : 80 ≤ op ∧ op ≤ 94) : Fit (eval1 op x).1 := by
  unfold eval1
  rw [if_neg (by omega)]
  split
  · exact fit_undef
  · unfold conv1
    rw [if_neg (by omega), if_neg (by omega), if_neg (by omega), if_neg (by omega), if_neg (by omega)]
    (repeat' split) <;> first | exact fit_int _ | exact fit_long _ | exact fit_canon _ (fof_lt _) | exact fit_whole _ _
theorem opsT_range (a b : Ty) : ∀ x ∈ (opsT a b).1, 80 ≤ x ∧ x ≤ 94 := by
  intro x hx
  unfold opsT at hx
  (repeat' split at hx) <;> simp only [numsOp, toF, fromF, narrow] at hx
  all_goals ((repeat' split at hx) <;> simp at hx <;> omega)
end Go.Proofs.YteeojgepgjndgaaDoor
namespace Go.Proofs.YteeojgepgjndgaaDoor
open Go.RowKit
set_option linter.unusedVariables false
set_option linter.unusedSimpArgs false

def vC (v : V) : Array Value := #[.int .i64 v.k, .int .u64 v.b, .int .i64 v.l]
def TurnP (L : List Int) (v : V) (ok : Bool) (w : World) (e : Ending) (w' : World) : Prop :=
  e = .returned (.tuple #[.agg #[.int .i64 (turnL L v ok).1.k, .int .u64 (turnL L v ok).1.b, .int .i64 (turnL L v ok).1.l], .bool (turnL L v ok).2]) ∧ Below w.heap.size w w'
/-- The state of the rounds. -/
structure TurnS (w w4 wr : World) (x : V) : Prop where
  low : Below w.heap.size w wr
  size : w4.heap.size ≤ wr.heap.size
  box : wr.heap[w.heap.size]? = some (.cells (vC x) 64 (0, 0))
  rest : ∀ b, w.heap.size < b → b < w4.heap.size → wr.heap[b]? = w4.heap[b]?
theorem set3 {w : World} {b : Nat} {T : TypeId} {x y : V} (h : w.heap[b]? = some (.cells (vC x) T (0, 0))) :
    (((w.setCell ⟨b, 0, none⟩ (.int .i64 y.k)).setCell ⟨b, 1, none⟩ (.int .u64 y.b)).setCell ⟨b, 2, none⟩ (.int .i64 y.l)).heap[b]? = some (.cells (vC y) T (0, 0)) := by
  simp only [World.setCell, Array.getElem?_modify, if_true, h, vC]
  rfl
theorem TurnS.step {w w4 wr w5 : World} {x y : V} (h : TurnS w w4 wr x) (h5 : Below wr.heap.size wr w5) (hw : w.heap.size < w4.heap.size) :
    TurnS w w4 (((w5.setCell ⟨w.heap.size, 0, none⟩ (.int .i64 y.k)).setCell ⟨w.heap.size, 1, none⟩ (.int .u64 y.b)).setCell ⟨w.heap.size, 2, none⟩ (.int .i64 y.l)) y := by
  have z5 := h5.size
  have zs := h.size
  refine ⟨?_, by simp only [size_setC]; omega, ?_, fun b h1 h2 => ?_⟩
  · exact (((h.low.trans (h5.mono h.low.size)).setCell (by show w.heap.size ≤ w.heap.size; omega) _).setCell (by show w.heap.size ≤ w.heap.size; omega) _).setCell (by show w.heap.size ≤ w.heap.size; omega) _
  · refine set3 (x := x) ?_
    rw [h5.block _ (by omega)]; exact h.box
  · rw [heap_setC _ _ _ _ _ (by omega), heap_setC _ _ _ _ _ (by omega), heap_setC _ _ _ _ _ (by omega), h5.block _ (by omega)]
    exact h.rest b h1 h2

set_option maxRecDepth 100000 in
set_option maxHeartbeats 8000000 in
theorem turned_core (v : V) (hv : Fit v) (a b : Ty) (w : World) (ha : RdT w a) (hb : RdT w b)
    {k1 s1 l1 : Int} {f1 : Bool} {n1 : ByteArray} {A1 : Option Addr} {m1 c1 : Nat} {k2 s2 l2 : Int} {f2 : Bool} {n2 : ByteArray} {A2 : Option Addr} {m2 c2 : Nat}
    (e1 : tyC a = [.int .i64 k1, .int .i64 s1, .int .i64 l1, .bool f1, .string n1, .slice A1 m1 c1]) (e2 : tyC b = [.int .i64 k2, .int .i64 s2, .int .i64 l2, .bool f2, .string n2, .slice A2 m2 c2]) :
    Calls Tryd.prog 37 #[.agg #[.int .i64 v.k, .int .u64 v.b, .int .i64 v.l], .agg #[.int .i64 k1, .int .i64 s1, .int .i64 l1, .bool f1, .string n1, .slice A1 m1 c1], .agg #[.int .i64 k2, .int .i64 s2, .int .i64 l2, .bool f2, .string n2, .slice A2 m2 c2]] w (TurnP (opsT a b).1 v (opsT a b).2 w) := by
  have hO : ∀ W, Below w.heap.size w W → Calls Tryd.prog 32 #[tyV a, tyV b] W _ := fun W hW => ops_any a b W (ha.next hW) (hb.next hW)
  have hrange := opsT_range a b
  rw [tyV_of e1, tyV_of e2] at hO
  unfold OpsP at hO
  generalize opsT a b = r at *
  obtain ⟨L, ok0⟩ := r
  dsimp only at hO hrange ⊢
  have HO := Lib.hid hO
  have HR := Lib.hid hrange
  have HV := Lib.hid hv
  clear hO hrange ha hb e1 e2 hv
  unfold TurnP
  obtain ⟨R, hR⟩ : ∃ R, R = turnL L v ok0 := ⟨_, rfl⟩
  rw [← hR]
  have HRR := Lib.hid hR
  clear hR
  have hA1 := cell_alloc_if
  have hA2 := frozen_alloc_if
  have hA3 := cell_set_if
  go_enter Tryd.func37, Tryd.ntmps37
  go_wp2_with (go_at_call 32; (with_reducible refine (HO.out _ (by (repeat' (first | (with_reducible exact Below.refl _ _) | (with_reducible assumption) | (with_reducible refine Below.setCell ?_ ?_ _) | (with_reducible refine Below.alloc ?_ ?_ _) | (with_reducible refine Below.drew ?_) | (with_reducible refine below_drewN ?_ _) | (with_reducible refine below_next ?_ (by with_reducible assumption)) | omega | (dsimp only; omega) | (simp only [World.size_alloc, World.size_setCell, World.size_drew, World.heap_drewN]; omega))))).mono ?_); rintro e w4 ⟨A, c, rfl, hrd, hb4⟩; have HRD := Lib.hid hrd; have HB4 := Lib.hid hb4; have hz4 := hb4.size; (try simp only [World.size_alloc, World.size_setCell, World.size_drew, World.heap_drewN] at hz4); clear hrd hb4)
  have hS0 : TurnS w w4 w4 v := by
    have hb4 := HB4.out
    refine ⟨by (repeat' (first | (with_reducible exact Below.refl _ _) | (with_reducible assumption) | (with_reducible refine Below.setCell ?_ ?_ _) | (with_reducible refine Below.alloc ?_ ?_ _) | (with_reducible refine Below.drew ?_) | (with_reducible refine below_drewN ?_ _) | (with_reducible refine below_next ?_ (by with_reducible assumption)) | omega | (dsimp only; omega) | (simp only [World.size_alloc, World.size_setCell, World.size_drew, World.heap_drewN]; omega))), Nat.le_refl _, ?_, fun _ _ _ => rfl⟩
    rw [hb4.block _ (by simp only [World.size_alloc]; omega), heap_alloc_old _ _ (by simp only [World.size_alloc]; omega), heap_alloc_old _ _ (by simp only [World.size_alloc]; omega), heap_alloc_old _ _ (by simp only [World.size_alloc]; omega), heap_alloc_new]
    rfl
  have h6 : w4.heap[w.heap.size + 3]? = some (.cells (vC undefV) 64 (0, 0)) := by
    have hb4 := HB4.out
    rw [hb4.block _ (by simp only [World.size_alloc]; omega)]
    have := heap_alloc_new (((w.alloc (.cells #[.int .i64 v.k, .int .u64 v.b, .int .i64 v.l] 64)).alloc (.cells #[.int .i64 k1, .int .i64 s1, .int .i64 l1, .bool f1, .string n1, .slice A1 m1 c1] 30)).alloc (.cells #[.int .i64 k2, .int .i64 s2, .int .i64 l2, .bool f2, .string n2, .slice A2 m2 c2] 30)) (.cells #[.int .i64 0, .int .u64 0, .int .i64 0] 64)
    simp only [World.size_alloc] at this
    exact this
  have HS0 := Lib.hid hS0
  have H6 := Lib.hid h6
  have hbl := HRD.out.len
  unfold maxLen at hbl
  clear hS0 h6 HB4
  go_loopw [9, 20] (fun o i wr => ∃ (k : Nat) (x : V) (ok : Bool), k ≤ L.length ∧ i = .int .i64 k ∧ o = .bool ok ∧ Hid (TurnS w w4 wr x) ∧ Hid (turnL (L.drop k) x ok = R) ∧ Hid (Fit x)) (fun _ i _ => L.length - (intOf i).toNat)
  case atStart => exact ⟨0, v, ok0, by omega, rfl, rfl, HS0, Lib.hid HRR.out.symm, HV⟩
  case round =>
    obtain ⟨k, x, ok, hk, rfl, rfl, HS, HT, HX⟩ := hrel
    have hzr := HS.out.size
    have hlow := HS.out.low
    have hbx := cells_of_block HS.out.box
    have y0 := hbx.1 0
    have y1 := hbx.1 1
    have y2 := hbx.1 2
    have yf := hbx.2
    simp [vC] at y0 y1 y2
    clear hbx
    by_cases hlt : k < L.length
    · obtain ⟨op, eo⟩ : ∃ op, L[k]? = some op := ⟨_, List.getElem?_eq_getElem hlt⟩
      obtain ⟨g, o, cc, ev, _, _, hgl, hgc⟩ := HRD.out.some_ (by omega)
      injection ev with ev0 ev1 ev2
      subst ev0
      have hop := HR.out op (List.mem_of_getElem? eo)
      have hgw : w.heap.size < g ∨ g < w.heap.size := by
        rcases Nat.lt_trichotomy g w.heap.size with h | h | h
        · exact .inr h
        · exfalso
          subst h
          have h1 := hgc k op eo 0 _ rfl
          have h2 := (cells_of_block HS0.out.box).1 (o + k * 1 + 0)
          rw [h1] at h2
          have hfv := HV.out
          obtain ⟨_, ⟨hk1, hk2⟩, hl⟩ := hfv
          have h3 : o + k * 1 + 0 = 0 ∨ o + k * 1 + 0 = 1 ∨ o + k * 1 + 0 = 2 ∨ 3 ≤ o + k * 1 + 0 := by omega
          rcases h3 with h3 | h3 | h3 | h3
          · rw [h3] at h2; simp [vC] at h2; omega
          · rw [h3] at h2; simp [vC] at h2
          · rw [h3] at h2; simp [vC, hl] at h2; omega
          · rw [Array.getElem?_eq_none (by simpa [vC] using h3)] at h2; cases h2
        · exact .inl h
      have p : wr.cell? ⟨g, o + k, none⟩ = some (.int .i64 op) := by
        have h1 := hgc k op eo 0 _ rfl
        simp only [Nat.mul_one, Nat.add_zero] at h1
        rw [← h1]
        rcases hgw with h | h
        · exact World.cell?_of_block (a := ⟨g, _, none⟩) (HS.out.rest g h hgl)
        · refine World.cell?_of_block (a := ⟨g, _, none⟩) ?_
          show wr.heap[g]? = w4.heap[g]?
          rw [hlow.block g h, HS0.out.low.block g h]
      have hdr : L.drop k = op :: L.drop (k + 1) := by rw [List.drop_eq_getElem?_toList_append, eo]; rfl
      clear hgc ev1 ev2 eo
      cases ok with
      | false =>
        have HT2 : Hid (turnL (L.drop (k + 1)) x false = R) := Lib.hid (by have h := HT.out; rw [hdr] at h; simpa [turnL] using h)
        clear HT hdr
        go_wp2
        go_roundw
        case rel => exact ⟨k + 1, x, false, by omega, by go_num, rfl, HS, HT2, HX⟩
        case measure => simp [intOf]; omega
      | true =>
        have HT2 : Hid (turnL (L.drop (k + 1)) (eval1 op x).1 (eval1 op x).2 = R) := Lib.hid (by have h := HT.out; rw [hdr] at h; simpa [turnL] using h)
        have HX2 : Hid (Fit (eval1 op x).1) := Lib.hid (fit_eval1 op x hop)
        have hev : ∀ W, Calls Tryd.prog 74 #[.int .i64 op, .agg #[.int .i64 x.k, .int .u64 x.b, .int .i64 x.l]] W _ := fun W => eval1_any op x.k x.b x.l (by unfold I64; omega) HX.out.1 W
        rw [show (⟨x.k, x.b, x.l⟩ : V) = x from rfl] at hev
        generalize (eval1 op x).1 = y at *
        generalize (eval1 op x).2 = ok' at *
        have HEV := Lib.hid hev
        clear hev HT hdr
        go_wp2_with (go_at_call 74; (with_reducible refine (HEV.out _).mono ?_); rintro e w5 ⟨rfl, hb5⟩; obtain ⟨hc5, hf5, hz5⟩ := cif hb5; (try simp only [World.size_alloc, World.size_setCell, World.size_drew, World.heap_drewN] at hz5))
        go_roundw
        case rel => exact ⟨k + 1, y, ok', by omega, by go_num, rfl, Lib.hid (HS.out.step hb5 (by omega)), HT2, HX2⟩
        case measure => simp [intOf]; omega
    · have hkl : L.drop k = [] := List.drop_eq_nil_of_le (by omega)
      have HRX : Hid (R = (x, ok)) := Lib.hid (by rw [← HT.out, hkl]; rfl)
      have h6r : wr.heap[w.heap.size + 3]? = some (.cells (vC undefV) 64 (0, 0)) := (HS.out.rest _ (by omega) (by omega)).trans H6.out
      have hb6 := cells_of_block h6r
      have z0 := hb6.1 0
      have z1 := hb6.1 1
      have z2 := hb6.1 2
      have zf := hb6.2
      simp [vC, undefV] at z0 z1 z2
      clear hb6 h6r hkl HT
      go_wp2
      ((try simp only [Exit.inBlock, Exit.then]); go_light; refine bodyPost_ret (by simp [results, Tryd.results37, go_sem, *, ↓IntWalk.iteOmega]; try rfl) rfl ?_)
      rw [HRX.out]
      exact ⟨rfl, by (repeat' (first | (with_reducible exact Below.refl _ _) | (with_reducible assumption) | (with_reducible refine Below.setCell ?_ ?_ _) | (with_reducible refine Below.alloc ?_ ?_ _) | (with_reducible refine Below.drew ?_) | (with_reducible refine below_drewN ?_ _) | (with_reducible refine below_next ?_ (by with_reducible assumption)) | omega | (dsimp only; omega) | (simp only [World.size_alloc, World.size_setCell, World.size_drew, World.heap_drewN]; omega)))⟩
end Go.Proofs.YteeojgepgjndgaaDoor
namespace Go.Proofs.YteeojgepgjndgaaDoor
open Go.RowKit
set_option linter.unusedVariables false
set_option linter.unusedSimpArgs false

/-- A number type of one of the four sizes. -/
def IsNum (t : Ty) : Prop := ∃ (s : Int) (u : Bool), t = .num s u ∧ (s = 1 ∨ s = 2 ∨ s = 4 ∨ s = 8)
def L8 : Ty := .num 8 false
def holdsB : Ty → Int → Bool
  | .num s u, n => if s = 8 then !u || decide (0 ≤ n) else if u then decide (0 ≤ n) && decide (n < 2 ^ (8 * s).toNat) else decide (-(2 ^ (8 * s - 1).toNat) ≤ n) && decide (n < 2 ^ (8 * s - 1).toNat)
  | _, _ => false
def turnV (a b : Ty) (v : V) : V × Bool := turnL (opsT a b).1 v (opsT a b).2

set_option maxHeartbeats 1000000 in
theorem turn_back (b : Ty) (hb : IsNum b) (m : Int) (hm : I64 m) (hh : holdsB b m = true) : (turnV b L8 (turnV L8 b (longV m)).1).1 = longV m := by
  obtain ⟨s, u, rfl, hs⟩ := hb
  obtain ⟨hm1, hm2⟩ := hm
  rcases hs with rfl | rfl | rfl | rfl <;> cases u <;>
    simp [holdsB, turnV, L8, opsT, isP, isF, numOf, isSz, numsOp, narrow, turnL, eval1, shape, split, conv1, longV, intV, wrap32, wr_i8, wr_i16] at hh ⊢ <;> omega

theorem canon_k (n : Nat) : (canonF n).k = 3 := by unfold canonF; split <;> rfl

/-- A value of a number's type. -/
def Sh (t : Ty) (v : V) : Prop := v.l = 0 ∧ v.k = kindT t ∧ 0 ≤ v.b ∧ v.b < if kindT t = 2 then 18446744073709551616 else 4294967296
set_option maxHeartbeats 4000000 in
theorem turn_sh (a b : Ty) (ha : IsNum a) (hb : IsNum b) (v : V) (h : Sh a v) : (turnV a b v).2 = true ∧ Sh b (turnV a b v).1 := by
  obtain ⟨s, u, rfl, hs⟩ := ha
  obtain ⟨r, x, rfl, hr⟩ := hb
  obtain ⟨k, c, l⟩ := v
  obtain ⟨h1, h2, h3, h4⟩ := h
  dsimp only at h1 h2 h3 h4
  subst h1 h2
  rcases hs with rfl | rfl | rfl | rfl <;> cases u <;> rcases hr with rfl | rfl | rfl | rfl <;> cases x <;>
    (simp [kindT, chunk] at h4; simp [Sh, kindT, chunk, turnV, opsT, isP, isF, numOf, isSz, numsOp, narrow, turnL, eval1, shape, split, conv1, longV, intV] <;> omega)
theorem sh_long (n : Int) : Sh L8 (longV n) := by simp [Sh, L8, longV, kindT, chunk]; omega
theorem sh_back (v : V) (h : Sh L8 v) : ∃ m, I64 m ∧ v = longV m := by
  obtain ⟨k, c, l⟩ := v
  obtain ⟨h1, h2, h3, h4⟩ := h
  simp [L8, kindT, chunk] at h1 h2 h3 h4
  subst h1 h2
  refine ⟨wrap64 c, by unfold I64 wrap64; omega, ?_⟩
  simp [longV, wrap64]
  omega
theorem sh_right (t : Ty) (ht : IsNum t) (v : V) (h : Sh t v) : rightV v.k v.b v.l = true := by
  obtain ⟨s, u, rfl, hs⟩ := ht
  obtain ⟨h1, h2, h3, h4⟩ := h
  rw [h1, h2]
  rcases hs with rfl | rfl | rfl | rfl <;> cases u <;> simp [kindT, chunk, rightV] at h4 ⊢ <;> omega
/-- Into a double. -/
theorem turn_flt (a : Ty) (ha : IsNum a) (v : V) (h : Sh a v) : (turnV a .flt v).2 = true ∧ (turnV a .flt v).1.k = 3 := by
  obtain ⟨s, u, rfl, hs⟩ := ha
  obtain ⟨k, c, l⟩ := v
  obtain ⟨h1, h2, h3, h4⟩ := h
  dsimp only at h1 h2 h3 h4
  subst h1 h2
  rcases hs with rfl | rfl | rfl | rfl <;> cases u <;>
    simp [kindT, chunk, turnV, opsT, isP, isF, numOf, isSz, toF, turnL, eval1, shape, split, conv1, canon_k]
theorem turn_from (v : V) (h : v.k = 3) (hc : (turnV .flt L8 v).2 = true) : ∃ m, I64 m ∧ (turnV .flt L8 v).1 = longV m := by
  obtain ⟨k, c, l⟩ := v
  dsimp only at h
  subst h
  simp [L8, turnV, opsT, isP, isF, numOf, isSz, fromF, turnL, eval1, shape, split, conv1] at hc ⊢
  unfold toWholeV at hc ⊢
  split at hc
  · cases hc
  · rename_i T hT
    simp at hc ⊢
    by_cases hr : -9223372036854775808 ≤ T ∧ T < 9223372036854775808
    · rw [if_pos hr]
      exact ⟨T, by unfold I64; omega, rfl⟩
    · rw [if_neg hr] at hc; cases hc

/-- What the law says of all these values. -/
def TurnLaw (a b : Ty) (n : Int) : Prop :=
  let v := turnV L8 a (longV n)
  let w := turnV a b v.1
  let back := turnV b L8 w.1
  let first := turnV a L8 v.1
  let again := turnV L8 b first.1
  if v.2 = false ∨ w.2 = false then kindT a = 3
  else if w.1.k ≠ kindT b ∨ rightV w.1.k w.1.b w.1.l = false ∨ back.2 = false ∨ first.2 = false then w.1.k = 3 ∨ v.1.k = 3
  else again.1 ≠ w.1 ∨ wrap64 first.1.b = wrap64 back.1.b ∨ again.1.k = 3 ∨ holdsB b (wrap64 first.1.b) = false
theorem wrap_long (m : Int) (h : I64 m) : wrap64 (longV m).b = m := by unfold I64 at h; simp [longV, wrap64]; omega
theorem num_L8 : IsNum L8 := ⟨8, false, rfl, by omega⟩
theorem turns_end (b : Ty) (hb : b = .flt ∨ IsNum b) (m : Int) (hm : I64 m) (w : V) :
    (turnV L8 b (longV m)).1 ≠ w ∨ wrap64 (longV m).b = wrap64 (turnV b L8 w).1.b ∨ (turnV L8 b (longV m)).1.k = 3 ∨ holdsB b (wrap64 (longV m).b) = false := by
  rcases hb with rfl | hb
  · exact .inr (.inr (.inl (turn_flt L8 num_L8 _ (sh_long m)).2))
  · rw [wrap_long m hm]
    by_cases he : (turnV L8 b (longV m)).1 = w
    · cases hh : holdsB b m with
      | false => exact .inr (.inr (.inr rfl))
      | true =>
        refine .inr (.inl ?_)
        rw [← he, turn_back b hb m hm hh, wrap_long m hm]
    · exact .inl he
theorem turns_law (a b : Ty) (ha : a = .flt ∨ IsNum a) (hb : b = .flt ∨ IsNum b) (n : Int) : TurnLaw a b n := by
  unfold TurnLaw
  dsimp only
  rcases ha with rfl | ha
  · obtain ⟨hv1, hv2⟩ := turn_flt L8 num_L8 _ (sh_long n)
    generalize turnV L8 .flt (longV n) = v at *
    split
    · rfl
    · split
      · exact .inr hv2
      · rename_i h1 h2
        have hc : (turnV .flt L8 v.1).2 = true := by
          cases h : (turnV .flt L8 v.1).2 with
          | true => rfl
          | false => exact absurd (.inr (.inr (.inr h))) h2
        obtain ⟨m, hm, e⟩ := turn_from v.1 hv2 hc
        rw [e]
        exact turns_end b hb m hm _
  · obtain ⟨hv1, hv2⟩ := turn_sh L8 a num_L8 ha _ (sh_long n)
    generalize turnV L8 a (longV n) = v at *
    obtain ⟨hf1, hf2⟩ := turn_sh a L8 ha num_L8 _ hv2
    obtain ⟨m, hm, e⟩ := sh_back _ hf2
    rw [e]
    have he := turns_end b hb m hm (turnV a b v.1).1
    rcases hb with rfl | hb
    · obtain ⟨hw1, hw2⟩ := turn_flt a ha _ hv2
      rw [if_neg (by rw [hv1, hw1]; decide)]
      split
      · exact .inl hw2
      · exact he
    · obtain ⟨hw1, hw2⟩ := turn_sh a b ha hb _ hv2
      obtain ⟨hb1, hb2⟩ := turn_sh b L8 hb num_L8 _ hw2
      rw [if_neg (by rw [hv1, hw1]; decide), if_neg (by rw [hb1, hf1, sh_right b hb _ hw2, hw2.2.1]; simp)]
      exact he
end Go.Proofs.YteeojgepgjndgaaDoor
namespace Go.Proofs.YteeojgepgjndgaaDoor
open Go.RowKit
set_option linter.unusedVariables false
set_option linter.unusedSimpArgs false

theorem ret_b {a b : Bool} (h : a = b) : Ending.returned (.bool a) = .returned (.bool b) := by rw [h]
set_option maxRecDepth 100000 in
set_option maxHeartbeats 4000000 in
theorem holds_not (k s l : Int) (f : Bool) (n : ByteArray) (A : Option Addr) (m c : Nat) (x : Int) (w : World) (hk : (k == 2) = false) :
    Calls Tryd.prog 41 #[.agg #[.int .i64 k, .int .i64 s, .int .i64 l, .bool f, .string n, .slice A m c], .int .i64 x] w fun e w' => e = .returned (.bool false) ∧ Below w.heap.size w w' := by
  have HK := Lib.hid hk
  clear hk
  have hA1 := cell_alloc_if
  have hA2 := frozen_alloc_if
  have hA3 := cell_set_if
  go_enter Tryd.func41, Tryd.ntmps41
  go_wp2_with fail
  go_cut [5, 6] (fun s5 s6 wx => ∃ (b5 : Nat), s5 = .pointer (some ⟨b5, 0, none⟩) ∧ s6 = .bool (k == 2) ∧ Below w.heap.size w wx ∧ w.heap.size < b5 ∧ b5 < wx.heap.size ∧ wx.cell? ⟨b5, 0, none⟩ = some (.int .i64 s) ∧ wx.cell? ⟨b5, 1, none⟩ = some (.bool f))
  case first =>
    go_region_held3 (fun W => Ext w W ∧ W.cell? ⟨w.heap.size, 0, none⟩ = some (.int .i64 k) ∧ W.cell? ⟨w.heap.size, 1, none⟩ = some (.int .i64 s) ∧ W.cell? ⟨w.heap.size, 2, none⟩ = some (.int .i64 l) ∧ W.cell? ⟨w.heap.size, 3, none⟩ = some (.bool f) ∧ W.cell? ⟨w.heap.size, 4, none⟩ = some (.string n) ∧ W.cell? ⟨w.heap.size, 5, none⟩ = some (.slice A m c))
      (first | exact ⟨by unfold Ext at *; (repeat' (first | (with_reducible exact Below.refl _ _) | (with_reducible assumption) | (with_reducible refine Below.setCell ?_ ?_ _) | (with_reducible refine Below.alloc ?_ ?_ _) | (with_reducible refine Below.drew ?_) | (with_reducible refine below_drewN ?_ _) | (with_reducible refine below_next ?_ (by with_reducible assumption)) | omega | (dsimp only; omega) | (simp only [World.size_alloc, World.size_setCell, World.size_drew, World.heap_drewN]; omega))), by simp [*, ↓IntWalk.iteOmega], by simp [*, ↓IntWalk.iteOmega], by simp [*, ↓IntWalk.iteOmega], by simp [*, ↓IntWalk.iteOmega], by simp [*, ↓IntWalk.iteOmega], by simp [*, ↓IntWalk.iteOmega]⟩)
      (first
      | (go_at_call 57; (with_reducible refine (numberOf_any _ _ _ _ _ _ _ _ _).mono ?_); rintro e w2 ⟨rfl, hb2⟩; obtain ⟨hc2, hf2, hz2⟩ := cif hb2; (try simp only [World.size_alloc, World.size_setCell, World.size_drew, World.heap_drewN] at hz2)))
    all_goals (
      go_wp2_with fail
      go_meet
      refine ⟨_, rfl, rfl, by unfold Ext at *; (repeat' (first | (with_reducible exact Below.refl _ _) | (with_reducible assumption) | (with_reducible refine Below.setCell ?_ ?_ _) | (with_reducible refine Below.alloc ?_ ?_ _) | (with_reducible refine Below.drew ?_) | (with_reducible refine below_drewN ?_ _) | (with_reducible refine below_next ?_ (by with_reducible assumption)) | omega | (dsimp only; omega) | (simp only [World.size_alloc, World.size_setCell, World.size_drew, World.heap_drewN]; omega))), ?_, ?_, ?_, ?_⟩)
    all_goals (first
      | omega
      | (simp; omega)
      | (simp [*, ↓IntWalk.iteOmega]; done))
  case rest =>
    obtain ⟨b5, rfl, rfl, hbw, hlt, hlt', y0, y1⟩ := hcut
    have hbz := hbw.size
    have hk := HK.out
    rw [hk]
    go_wp2
    go_returns
    exact ⟨rfl, by (repeat' (first | (with_reducible exact Below.refl _ _) | (with_reducible assumption) | (with_reducible refine Below.setCell ?_ ?_ _) | (with_reducible refine Below.alloc ?_ ?_ _) | (with_reducible refine Below.drew ?_) | (with_reducible refine below_drewN ?_ _) | (with_reducible refine below_next ?_ (by with_reducible assumption)) | omega | (dsimp only; omega) | (simp only [World.size_alloc, World.size_setCell, World.size_drew, World.heap_drewN]; omega)))⟩
set_option maxRecDepth 100000 in
set_option maxHeartbeats 4000000 in
theorem holds_8 (l : Int) (f : Bool) (n : ByteArray) (A : Option Addr) (m c : Nat) (x : Int) (w : World) :
    Calls Tryd.prog 41 #[.agg #[.int .i64 2, .int .i64 8, .int .i64 l, .bool f, .string n, .slice A m c], .int .i64 x] w fun e w' => e = .returned (.bool (!f || decide (0 ≤ x))) ∧ Below w.heap.size w w' := by
  obtain ⟨k, hk⟩ : ∃ k : Int, k = 2 := ⟨_, rfl⟩
  obtain ⟨s, hs⟩ : ∃ s : Int, s = 8 := ⟨_, rfl⟩
  rw [← hk, ← hs]
  have HK := Lib.hid hk
  have HS := Lib.hid hs
  clear hk hs
  have hA1 := cell_alloc_if
  have hA2 := frozen_alloc_if
  have hA3 := cell_set_if
  go_enter Tryd.func41, Tryd.ntmps41
  go_wp2_with fail
  go_cut [5, 6] (fun s5 s6 wx => ∃ (b5 : Nat), s5 = .pointer (some ⟨b5, 0, none⟩) ∧ s6 = .bool (k == 2) ∧ Below w.heap.size w wx ∧ w.heap.size < b5 ∧ b5 < wx.heap.size ∧ wx.cell? ⟨b5, 0, none⟩ = some (.int .i64 s) ∧ wx.cell? ⟨b5, 1, none⟩ = some (.bool f))
  case first =>
    go_region_held3 (fun W => Ext w W ∧ W.cell? ⟨w.heap.size, 0, none⟩ = some (.int .i64 k) ∧ W.cell? ⟨w.heap.size, 1, none⟩ = some (.int .i64 s) ∧ W.cell? ⟨w.heap.size, 2, none⟩ = some (.int .i64 l) ∧ W.cell? ⟨w.heap.size, 3, none⟩ = some (.bool f) ∧ W.cell? ⟨w.heap.size, 4, none⟩ = some (.string n) ∧ W.cell? ⟨w.heap.size, 5, none⟩ = some (.slice A m c))
      (first | exact ⟨by unfold Ext at *; (repeat' (first | (with_reducible exact Below.refl _ _) | (with_reducible assumption) | (with_reducible refine Below.setCell ?_ ?_ _) | (with_reducible refine Below.alloc ?_ ?_ _) | (with_reducible refine Below.drew ?_) | (with_reducible refine below_drewN ?_ _) | (with_reducible refine below_next ?_ (by with_reducible assumption)) | omega | (dsimp only; omega) | (simp only [World.size_alloc, World.size_setCell, World.size_drew, World.heap_drewN]; omega))), by simp [*, ↓IntWalk.iteOmega], by simp [*, ↓IntWalk.iteOmega], by simp [*, ↓IntWalk.iteOmega], by simp [*, ↓IntWalk.iteOmega], by simp [*, ↓IntWalk.iteOmega], by simp [*, ↓IntWalk.iteOmega]⟩)
      (first
      | (go_at_call 57; (with_reducible refine (numberOf_any _ _ _ _ _ _ _ _ _).mono ?_); rintro e w2 ⟨rfl, hb2⟩; obtain ⟨hc2, hf2, hz2⟩ := cif hb2; (try simp only [World.size_alloc, World.size_setCell, World.size_drew, World.heap_drewN] at hz2)))
    all_goals (
      go_wp2_with fail
      go_meet
      refine ⟨_, rfl, rfl, by unfold Ext at *; (repeat' (first | (with_reducible exact Below.refl _ _) | (with_reducible assumption) | (with_reducible refine Below.setCell ?_ ?_ _) | (with_reducible refine Below.alloc ?_ ?_ _) | (with_reducible refine Below.drew ?_) | (with_reducible refine below_drewN ?_ _) | (with_reducible refine below_next ?_ (by with_reducible assumption)) | omega | (dsimp only; omega) | (simp only [World.size_alloc, World.size_setCell, World.size_drew, World.heap_drewN]; omega))), ?_, ?_, ?_, ?_⟩)
    all_goals (first
      | omega
      | (simp; omega)
      | (simp [*, ↓IntWalk.iteOmega]; done))
  case rest =>
    obtain ⟨b5, rfl, rfl, hbw, hlt, hlt', y0, y1⟩ := hcut
    have hbz := hbw.size
    obtain rfl := HK.out
    obtain rfl := HS.out
    cases f
    all_goals (
      go_wp2
      all_goals (go_returns; refine ⟨?_, by (repeat' (first | (with_reducible exact Below.refl _ _) | (with_reducible assumption) | (with_reducible refine Below.setCell ?_ ?_ _) | (with_reducible refine Below.alloc ?_ ?_ _) | (with_reducible refine Below.drew ?_) | (with_reducible refine below_drewN ?_ _) | (with_reducible refine below_next ?_ (by with_reducible assumption)) | omega | (dsimp only; omega) | (simp only [World.size_alloc, World.size_setCell, World.size_drew, World.heap_drewN]; omega)))⟩; first | rfl | simp))
set_option maxRecDepth 100000 in
set_option maxHeartbeats 4000000 in
theorem holds_1t (k s l : Int) (f : Bool) (n : ByteArray) (A : Option Addr) (m c : Nat) (x : Int) (w : World) (hk : k = 2) (hs : s = 1) (hf : f = true) :
    Calls Tryd.prog 41 #[.agg #[.int .i64 k, .int .i64 s, .int .i64 l, .bool f, .string n, .slice A m c], .int .i64 x] w fun e w' => e = .returned (.bool (decide (0 ≤ x) && decide (x < 256))) ∧ Below w.heap.size w w' := by
  have HK := Lib.hid hk
  have HS := Lib.hid hs
  have HF := Lib.hid hf
  clear hk hs hf
  have hA1 := cell_alloc_if
  have hA2 := frozen_alloc_if
  have hA3 := cell_set_if
  go_enter Tryd.func41, Tryd.ntmps41
  go_wp2_with fail
  go_cut [5, 6] (fun s5 s6 wx => ∃ (b5 : Nat), s5 = .pointer (some ⟨b5, 0, none⟩) ∧ s6 = .bool (k == 2) ∧ Below w.heap.size w wx ∧ w.heap.size < b5 ∧ b5 < wx.heap.size ∧ wx.cell? ⟨b5, 0, none⟩ = some (.int .i64 s) ∧ wx.cell? ⟨b5, 1, none⟩ = some (.bool f))
  case first =>
    go_region_held3 (fun W => Ext w W ∧ W.cell? ⟨w.heap.size, 0, none⟩ = some (.int .i64 k) ∧ W.cell? ⟨w.heap.size, 1, none⟩ = some (.int .i64 s) ∧ W.cell? ⟨w.heap.size, 2, none⟩ = some (.int .i64 l) ∧ W.cell? ⟨w.heap.size, 3, none⟩ = some (.bool f) ∧ W.cell? ⟨w.heap.size, 4, none⟩ = some (.string n) ∧ W.cell? ⟨w.heap.size, 5, none⟩ = some (.slice A m c))
      (first | exact ⟨by unfold Ext at *; (repeat' (first | (with_reducible exact Below.refl _ _) | (with_reducible assumption) | (with_reducible refine Below.setCell ?_ ?_ _) | (with_reducible refine Below.alloc ?_ ?_ _) | (with_reducible refine Below.drew ?_) | (with_reducible refine below_drewN ?_ _) | (with_reducible refine below_next ?_ (by with_reducible assumption)) | omega | (dsimp only; omega) | (simp only [World.size_alloc, World.size_setCell, World.size_drew, World.heap_drewN]; omega))), by simp [*, ↓IntWalk.iteOmega], by simp [*, ↓IntWalk.iteOmega], by simp [*, ↓IntWalk.iteOmega], by simp [*, ↓IntWalk.iteOmega], by simp [*, ↓IntWalk.iteOmega], by simp [*, ↓IntWalk.iteOmega]⟩)
      (first
      | (go_at_call 57; (with_reducible refine (numberOf_any _ _ _ _ _ _ _ _ _).mono ?_); rintro e w2 ⟨rfl, hb2⟩; obtain ⟨hc2, hf2, hz2⟩ := cif hb2; (try simp only [World.size_alloc, World.size_setCell, World.size_drew, World.heap_drewN] at hz2)))
    all_goals (
      go_wp2_with fail
      go_meet
      refine ⟨_, rfl, rfl, by unfold Ext at *; (repeat' (first | (with_reducible exact Below.refl _ _) | (with_reducible assumption) | (with_reducible refine Below.setCell ?_ ?_ _) | (with_reducible refine Below.alloc ?_ ?_ _) | (with_reducible refine Below.drew ?_) | (with_reducible refine below_drewN ?_ _) | (with_reducible refine below_next ?_ (by with_reducible assumption)) | omega | (dsimp only; omega) | (simp only [World.size_alloc, World.size_setCell, World.size_drew, World.heap_drewN]; omega))), ?_, ?_, ?_, ?_⟩)
    all_goals (first
      | omega
      | (simp; omega)
      | (simp [*, ↓IntWalk.iteOmega]; done))
  case rest =>
    obtain ⟨b5, rfl, rfl, hbw, hlt, hlt', y0, y1⟩ := hcut
    have hbz := hbw.size
    obtain rfl := HK.out
    obtain rfl := HS.out
    obtain rfl := HF.out
    go_wp2
    all_goals (go_returns; refine ⟨?_, by (repeat' (first | (with_reducible exact Below.refl _ _) | (with_reducible assumption) | (with_reducible refine Below.setCell ?_ ?_ _) | (with_reducible refine Below.alloc ?_ ?_ _) | (with_reducible refine Below.drew ?_) | (with_reducible refine below_drewN ?_ _) | (with_reducible refine below_next ?_ (by with_reducible assumption)) | omega | (dsimp only; omega) | (simp only [World.size_alloc, World.size_setCell, World.size_drew, World.heap_drewN]; omega)))⟩; clear hA1 hA2 hA3; refine ret_b ?_; first | rfl | grind)
set_option maxRecDepth 100000 in
set_option maxHeartbeats 4000000 in
theorem holds_1f (k s l : Int) (f : Bool) (n : ByteArray) (A : Option Addr) (m c : Nat) (x : Int) (w : World) (hk : k = 2) (hs : s = 1) (hf : f = false) :
    Calls Tryd.prog 41 #[.agg #[.int .i64 k, .int .i64 s, .int .i64 l, .bool f, .string n, .slice A m c], .int .i64 x] w fun e w' => e = .returned (.bool (decide (-128 ≤ x) && decide (x < 128))) ∧ Below w.heap.size w w' := by
  have HK := Lib.hid hk
  have HS := Lib.hid hs
  have HF := Lib.hid hf
  clear hk hs hf
  have hA1 := cell_alloc_if
  have hA2 := frozen_alloc_if
  have hA3 := cell_set_if
  go_enter Tryd.func41, Tryd.ntmps41
  go_wp2_with fail
  go_cut [5, 6] (fun s5 s6 wx => ∃ (b5 : Nat), s5 = .pointer (some ⟨b5, 0, none⟩) ∧ s6 = .bool (k == 2) ∧ Below w.heap.size w wx ∧ w.heap.size < b5 ∧ b5 < wx.heap.size ∧ wx.cell? ⟨b5, 0, none⟩ = some (.int .i64 s) ∧ wx.cell? ⟨b5, 1, none⟩ = some (.bool f))
  case first =>
    go_region_held3 (fun W => Ext w W ∧ W.cell? ⟨w.heap.size, 0, none⟩ = some (.int .i64 k) ∧ W.cell? ⟨w.heap.size, 1, none⟩ = some (.int .i64 s) ∧ W.cell? ⟨w.heap.size, 2, none⟩ = some (.int .i64 l) ∧ W.cell? ⟨w.heap.size, 3, none⟩ = some (.bool f) ∧ W.cell? ⟨w.heap.size, 4, none⟩ = some (.string n) ∧ W.cell? ⟨w.heap.size, 5, none⟩ = some (.slice A m c))
      (first | exact ⟨by unfold Ext at *; (repeat' (first | (with_reducible exact Below.refl _ _) | (with_reducible assumption) | (with_reducible refine Below.setCell ?_ ?_ _) | (with_reducible refine Below.alloc ?_ ?_ _) | (with_reducible refine Below.drew ?_) | (with_reducible refine below_drewN ?_ _) | (with_reducible refine below_next ?_ (by with_reducible assumption)) | omega | (dsimp only; omega) | (simp only [World.size_alloc, World.size_setCell, World.size_drew, World.heap_drewN]; omega))), by simp [*, ↓IntWalk.iteOmega], by simp [*, ↓IntWalk.iteOmega], by simp [*, ↓IntWalk.iteOmega], by simp [*, ↓IntWalk.iteOmega], by simp [*, ↓IntWalk.iteOmega], by simp [*, ↓IntWalk.iteOmega]⟩)
      (first
      | (go_at_call 57; (with_reducible refine (numberOf_any _ _ _ _ _ _ _ _ _).mono ?_); rintro e w2 ⟨rfl, hb2⟩; obtain ⟨hc2, hf2, hz2⟩ := cif hb2; (try simp only [World.size_alloc, World.size_setCell, World.size_drew, World.heap_drewN] at hz2)))
    all_goals (
      go_wp2_with fail
      go_meet
      refine ⟨_, rfl, rfl, by unfold Ext at *; (repeat' (first | (with_reducible exact Below.refl _ _) | (with_reducible assumption) | (with_reducible refine Below.setCell ?_ ?_ _) | (with_reducible refine Below.alloc ?_ ?_ _) | (with_reducible refine Below.drew ?_) | (with_reducible refine below_drewN ?_ _) | (with_reducible refine below_next ?_ (by with_reducible assumption)) | omega | (dsimp only; omega) | (simp only [World.size_alloc, World.size_setCell, World.size_drew, World.heap_drewN]; omega))), ?_, ?_, ?_, ?_⟩)
    all_goals (first
      | omega
      | (simp; omega)
      | (simp [*, ↓IntWalk.iteOmega]; done))
  case rest =>
    obtain ⟨b5, rfl, rfl, hbw, hlt, hlt', y0, y1⟩ := hcut
    have hbz := hbw.size
    obtain rfl := HK.out
    obtain rfl := HS.out
    obtain rfl := HF.out
    go_wp2
    all_goals (go_returns; refine ⟨?_, by (repeat' (first | (with_reducible exact Below.refl _ _) | (with_reducible assumption) | (with_reducible refine Below.setCell ?_ ?_ _) | (with_reducible refine Below.alloc ?_ ?_ _) | (with_reducible refine Below.drew ?_) | (with_reducible refine below_drewN ?_ _) | (with_reducible refine below_next ?_ (by with_reducible assumption)) | omega | (dsimp only; omega) | (simp only [World.size_alloc, World.size_setCell, World.size_drew, World.heap_drewN]; omega)))⟩; clear hA1 hA2 hA3; refine ret_b ?_; first | rfl | grind)
set_option maxRecDepth 100000 in
set_option maxHeartbeats 4000000 in
theorem holds_2t (k s l : Int) (f : Bool) (n : ByteArray) (A : Option Addr) (m c : Nat) (x : Int) (w : World) (hk : k = 2) (hs : s = 2) (hf : f = true) :
    Calls Tryd.prog 41 #[.agg #[.int .i64 k, .int .i64 s, .int .i64 l, .bool f, .string n, .slice A m c], .int .i64 x] w fun e w' => e = .returned (.bool (decide (0 ≤ x) && decide (x < 65536))) ∧ Below w.heap.size w w' := by
  have HK := Lib.hid hk
  have HS := Lib.hid hs
  have HF := Lib.hid hf
  clear hk hs hf
  have hA1 := cell_alloc_if
  have hA2 := frozen_alloc_if
  have hA3 := cell_set_if
  go_enter Tryd.func41, Tryd.ntmps41
  go_wp2_with fail
  go_cut [5, 6] (fun s5 s6 wx => ∃ (b5 : Nat), s5 = .pointer (some ⟨b5, 0, none⟩) ∧ s6 = .bool (k == 2) ∧ Below w.heap.size w wx ∧ w.heap.size < b5 ∧ b5 < wx.heap.size ∧ wx.cell? ⟨b5, 0, none⟩ = some (.int .i64 s) ∧ wx.cell? ⟨b5, 1, none⟩ = some (.bool f))
  case first =>
    go_region_held3 (fun W => Ext w W ∧ W.cell? ⟨w.heap.size, 0, none⟩ = some (.int .i64 k) ∧ W.cell? ⟨w.heap.size, 1, none⟩ = some (.int .i64 s) ∧ W.cell? ⟨w.heap.size, 2, none⟩ = some (.int .i64 l) ∧ W.cell? ⟨w.heap.size, 3, none⟩ = some (.bool f) ∧ W.cell? ⟨w.heap.size, 4, none⟩ = some (.string n) ∧ W.cell? ⟨w.heap.size, 5, none⟩ = some (.slice A m c))
      (first | exact ⟨by unfold Ext at *; (repeat' (first | (with_reducible exact Below.refl _ _) | (with_reducible assumption) | (with_reducible refine Below.setCell ?_ ?_ _) | (with_reducible refine Below.alloc ?_ ?_ _) | (with_reducible refine Below.drew ?_) | (with_reducible refine below_drewN ?_ _) | (with_reducible refine below_next ?_ (by with_reducible assumption)) | omega | (dsimp only; omega) | (simp only [World.size_alloc, World.size_setCell, World.size_drew, World.heap_drewN]; omega))), by simp [*, ↓IntWalk.iteOmega], by simp [*, ↓IntWalk.iteOmega], by simp [*, ↓IntWalk.iteOmega], by simp [*, ↓IntWalk.iteOmega], by simp [*, ↓IntWalk.iteOmega], by simp [*, ↓IntWalk.iteOmega]⟩)
      (first
      | (go_at_call 57; (with_reducible refine (numberOf_any _ _ _ _ _ _ _ _ _).mono ?_); rintro e w2 ⟨rfl, hb2⟩; obtain ⟨hc2, hf2, hz2⟩ := cif hb2; (try simp only [World.size_alloc, World.size_setCell, World.size_drew, World.heap_drewN] at hz2)))
    all_goals (
      go_wp2_with fail
      go_meet
      refine ⟨_, rfl, rfl, by unfold Ext at *; (repeat' (first | (with_reducible exact Below.refl _ _) | (with_reducible assumption) | (with_reducible refine Below.setCell ?_ ?_ _) | (with_reducible refine Below.alloc ?_ ?_ _) | (with_reducible refine Below.drew ?_) | (with_reducible refine below_drewN ?_ _) | (with_reducible refine below_next ?_ (by with_reducible assumption)) | omega | (dsimp only; omega) | (simp only [World.size_alloc, World.size_setCell, World.size_drew, World.heap_drewN]; omega))), ?_, ?_, ?_, ?_⟩)
    all_goals (first
      | omega
      | (simp; omega)
      | (simp [*, ↓IntWalk.iteOmega]; done))
  case rest =>
    obtain ⟨b5, rfl, rfl, hbw, hlt, hlt', y0, y1⟩ := hcut
    have hbz := hbw.size
    obtain rfl := HK.out
    obtain rfl := HS.out
    obtain rfl := HF.out
    go_wp2
    all_goals (go_returns; refine ⟨?_, by (repeat' (first | (with_reducible exact Below.refl _ _) | (with_reducible assumption) | (with_reducible refine Below.setCell ?_ ?_ _) | (with_reducible refine Below.alloc ?_ ?_ _) | (with_reducible refine Below.drew ?_) | (with_reducible refine below_drewN ?_ _) | (with_reducible refine below_next ?_ (by with_reducible assumption)) | omega | (dsimp only; omega) | (simp only [World.size_alloc, World.size_setCell, World.size_drew, World.heap_drewN]; omega)))⟩; clear hA1 hA2 hA3; refine ret_b ?_; first | rfl | grind)
set_option maxRecDepth 100000 in
set_option maxHeartbeats 4000000 in
theorem holds_2f (k s l : Int) (f : Bool) (n : ByteArray) (A : Option Addr) (m c : Nat) (x : Int) (w : World) (hk : k = 2) (hs : s = 2) (hf : f = false) :
    Calls Tryd.prog 41 #[.agg #[.int .i64 k, .int .i64 s, .int .i64 l, .bool f, .string n, .slice A m c], .int .i64 x] w fun e w' => e = .returned (.bool (decide (-32768 ≤ x) && decide (x < 32768))) ∧ Below w.heap.size w w' := by
  have HK := Lib.hid hk
  have HS := Lib.hid hs
  have HF := Lib.hid hf
  clear hk hs hf
  have hA1 := cell_alloc_if
  have hA2 := frozen_alloc_if
  have hA3 := cell_set_if
  go_enter Tryd.func41, Tryd.ntmps41
  go_wp2_with fail
  go_cut [5, 6] (fun s5 s6 wx => ∃ (b5 : Nat), s5 = .pointer (some ⟨b5, 0, none⟩) ∧ s6 = .bool (k == 2) ∧ Below w.heap.size w wx ∧ w.heap.size < b5 ∧ b5 < wx.heap.size ∧ wx.cell? ⟨b5, 0, none⟩ = some (.int .i64 s) ∧ wx.cell? ⟨b5, 1, none⟩ = some (.bool f))
  case first =>
    go_region_held3 (fun W => Ext w W ∧ W.cell? ⟨w.heap.size, 0, none⟩ = some (.int .i64 k) ∧ W.cell? ⟨w.heap.size, 1, none⟩ = some (.int .i64 s) ∧ W.cell? ⟨w.heap.size, 2, none⟩ = some (.int .i64 l) ∧ W.cell? ⟨w.heap.size, 3, none⟩ = some (.bool f) ∧ W.cell? ⟨w.heap.size, 4, none⟩ = some (.string n) ∧ W.cell? ⟨w.heap.size, 5, none⟩ = some (.slice A m c))
      (first | exact ⟨by unfold Ext at *; (repeat' (first | (with_reducible exact Below.refl _ _) | (with_reducible assumption) | (with_reducible refine Below.setCell ?_ ?_ _) | (with_reducible refine Below.alloc ?_ ?_ _) | (with_reducible refine Below.drew ?_) | (with_reducible refine below_drewN ?_ _) | (with_reducible refine below_next ?_ (by with_reducible assumption)) | omega | (dsimp only; omega) | (simp only [World.size_alloc, World.size_setCell, World.size_drew, World.heap_drewN]; omega))), by simp [*, ↓IntWalk.iteOmega], by simp [*, ↓IntWalk.iteOmega], by simp [*, ↓IntWalk.iteOmega], by simp [*, ↓IntWalk.iteOmega], by simp [*, ↓IntWalk.iteOmega], by simp [*, ↓IntWalk.iteOmega]⟩)
      (first
      | (go_at_call 57; (with_reducible refine (numberOf_any _ _ _ _ _ _ _ _ _).mono ?_); rintro e w2 ⟨rfl, hb2⟩; obtain ⟨hc2, hf2, hz2⟩ := cif hb2; (try simp only [World.size_alloc, World.size_setCell, World.size_drew, World.heap_drewN] at hz2)))
    all_goals (
      go_wp2_with fail
      go_meet
      refine ⟨_, rfl, rfl, by unfold Ext at *; (repeat' (first | (with_reducible exact Below.refl _ _) | (with_reducible assumption) | (with_reducible refine Below.setCell ?_ ?_ _) | (with_reducible refine Below.alloc ?_ ?_ _) | (with_reducible refine Below.drew ?_) | (with_reducible refine below_drewN ?_ _) | (with_reducible refine below_next ?_ (by with_reducible assumption)) | omega | (dsimp only; omega) | (simp only [World.size_alloc, World.size_setCell, World.size_drew, World.heap_drewN]; omega))), ?_, ?_, ?_, ?_⟩)
    all_goals (first
      | omega
      | (simp; omega)
      | (simp [*, ↓IntWalk.iteOmega]; done))
  case rest =>
    obtain ⟨b5, rfl, rfl, hbw, hlt, hlt', y0, y1⟩ := hcut
    have hbz := hbw.size
    obtain rfl := HK.out
    obtain rfl := HS.out
    obtain rfl := HF.out
    go_wp2
    all_goals (go_returns; refine ⟨?_, by (repeat' (first | (with_reducible exact Below.refl _ _) | (with_reducible assumption) | (with_reducible refine Below.setCell ?_ ?_ _) | (with_reducible refine Below.alloc ?_ ?_ _) | (with_reducible refine Below.drew ?_) | (with_reducible refine below_drewN ?_ _) | (with_reducible refine below_next ?_ (by with_reducible assumption)) | omega | (dsimp only; omega) | (simp only [World.size_alloc, World.size_setCell, World.size_drew, World.heap_drewN]; omega)))⟩; clear hA1 hA2 hA3; refine ret_b ?_; first | rfl | grind)
set_option maxRecDepth 100000 in
set_option maxHeartbeats 4000000 in
theorem holds_4t (k s l : Int) (f : Bool) (n : ByteArray) (A : Option Addr) (m c : Nat) (x : Int) (w : World) (hk : k = 2) (hs : s = 4) (hf : f = true) :
    Calls Tryd.prog 41 #[.agg #[.int .i64 k, .int .i64 s, .int .i64 l, .bool f, .string n, .slice A m c], .int .i64 x] w fun e w' => e = .returned (.bool (decide (0 ≤ x) && decide (x < 4294967296))) ∧ Below w.heap.size w w' := by
  have HK := Lib.hid hk
  have HS := Lib.hid hs
  have HF := Lib.hid hf
  clear hk hs hf
  have hA1 := cell_alloc_if
  have hA2 := frozen_alloc_if
  have hA3 := cell_set_if
  go_enter Tryd.func41, Tryd.ntmps41
  go_wp2_with fail
  go_cut [5, 6] (fun s5 s6 wx => ∃ (b5 : Nat), s5 = .pointer (some ⟨b5, 0, none⟩) ∧ s6 = .bool (k == 2) ∧ Below w.heap.size w wx ∧ w.heap.size < b5 ∧ b5 < wx.heap.size ∧ wx.cell? ⟨b5, 0, none⟩ = some (.int .i64 s) ∧ wx.cell? ⟨b5, 1, none⟩ = some (.bool f))
  case first =>
    go_region_held3 (fun W => Ext w W ∧ W.cell? ⟨w.heap.size, 0, none⟩ = some (.int .i64 k) ∧ W.cell? ⟨w.heap.size, 1, none⟩ = some (.int .i64 s) ∧ W.cell? ⟨w.heap.size, 2, none⟩ = some (.int .i64 l) ∧ W.cell? ⟨w.heap.size, 3, none⟩ = some (.bool f) ∧ W.cell? ⟨w.heap.size, 4, none⟩ = some (.string n) ∧ W.cell? ⟨w.heap.size, 5, none⟩ = some (.slice A m c))
      (first | exact ⟨by unfold Ext at *; (repeat' (first | (with_reducible exact Below.refl _ _) | (with_reducible assumption) | (with_reducible refine Below.setCell ?_ ?_ _) | (with_reducible refine Below.alloc ?_ ?_ _) | (with_reducible refine Below.drew ?_) | (with_reducible refine below_drewN ?_ _) | (with_reducible refine below_next ?_ (by with_reducible assumption)) | omega | (dsimp only; omega) | (simp only [World.size_alloc, World.size_setCell, World.size_drew, World.heap_drewN]; omega))), by simp [*, ↓IntWalk.iteOmega], by simp [*, ↓IntWalk.iteOmega], by simp [*, ↓IntWalk.iteOmega], by simp [*, ↓IntWalk.iteOmega], by simp [*, ↓IntWalk.iteOmega], by simp [*, ↓IntWalk.iteOmega]⟩)
      (first
      | (go_at_call 57; (with_reducible refine (numberOf_any _ _ _ _ _ _ _ _ _).mono ?_); rintro e w2 ⟨rfl, hb2⟩; obtain ⟨hc2, hf2, hz2⟩ := cif hb2; (try simp only [World.size_alloc, World.size_setCell, World.size_drew, World.heap_drewN] at hz2)))
    all_goals (
      go_wp2_with fail
      go_meet
      refine ⟨_, rfl, rfl, by unfold Ext at *; (repeat' (first | (with_reducible exact Below.refl _ _) | (with_reducible assumption) | (with_reducible refine Below.setCell ?_ ?_ _) | (with_reducible refine Below.alloc ?_ ?_ _) | (with_reducible refine Below.drew ?_) | (with_reducible refine below_drewN ?_ _) | (with_reducible refine below_next ?_ (by with_reducible assumption)) | omega | (dsimp only; omega) | (simp only [World.size_alloc, World.size_setCell, World.size_drew, World.heap_drewN]; omega))), ?_, ?_, ?_, ?_⟩)
    all_goals (first
      | omega
      | (simp; omega)
      | (simp [*, ↓IntWalk.iteOmega]; done))
  case rest =>
    obtain ⟨b5, rfl, rfl, hbw, hlt, hlt', y0, y1⟩ := hcut
    have hbz := hbw.size
    obtain rfl := HK.out
    obtain rfl := HS.out
    obtain rfl := HF.out
    go_wp2
    all_goals (go_returns; refine ⟨?_, by (repeat' (first | (with_reducible exact Below.refl _ _) | (with_reducible assumption) | (with_reducible refine Below.setCell ?_ ?_ _) | (with_reducible refine Below.alloc ?_ ?_ _) | (with_reducible refine Below.drew ?_) | (with_reducible refine below_drewN ?_ _) | (with_reducible refine below_next ?_ (by with_reducible assumption)) | omega | (dsimp only; omega) | (simp only [World.size_alloc, World.size_setCell, World.size_drew, World.heap_drewN]; omega)))⟩; clear hA1 hA2 hA3; refine ret_b ?_; first | rfl | grind)
set_option maxRecDepth 100000 in
set_option maxHeartbeats 4000000 in
theorem holds_4f (k s l : Int) (f : Bool) (n : ByteArray) (A : Option Addr) (m c : Nat) (x : Int) (w : World) (hk : k = 2) (hs : s = 4) (hf : f = false) :
    Calls Tryd.prog 41 #[.agg #[.int .i64 k, .int .i64 s, .int .i64 l, .bool f, .string n, .slice A m c], .int .i64 x] w fun e w' => e = .returned (.bool (decide (-2147483648 ≤ x) && decide (x < 2147483648))) ∧ Below w.heap.size w w' := by
  have HK := Lib.hid hk
  have HS := Lib.hid hs
  have HF := Lib.hid hf
  clear hk hs hf
  have hA1 := cell_alloc_if
  have hA2 := frozen_alloc_if
  have hA3 := cell_set_if
  go_enter Tryd.func41, Tryd.ntmps41
  go_wp2_with fail
  go_cut [5, 6] (fun s5 s6 wx => ∃ (b5 : Nat), s5 = .pointer (some ⟨b5, 0, none⟩) ∧ s6 = .bool (k == 2) ∧ Below w.heap.size w wx ∧ w.heap.size < b5 ∧ b5 < wx.heap.size ∧ wx.cell? ⟨b5, 0, none⟩ = some (.int .i64 s) ∧ wx.cell? ⟨b5, 1, none⟩ = some (.bool f))
  case first =>
    go_region_held3 (fun W => Ext w W ∧ W.cell? ⟨w.heap.size, 0, none⟩ = some (.int .i64 k) ∧ W.cell? ⟨w.heap.size, 1, none⟩ = some (.int .i64 s) ∧ W.cell? ⟨w.heap.size, 2, none⟩ = some (.int .i64 l) ∧ W.cell? ⟨w.heap.size, 3, none⟩ = some (.bool f) ∧ W.cell? ⟨w.heap.size, 4, none⟩ = some (.string n) ∧ W.cell? ⟨w.heap.size, 5, none⟩ = some (.slice A m c))
      (first | exact ⟨by unfold Ext at *; (repeat' (first | (with_reducible exact Below.refl _ _) | (with_reducible assumption) | (with_reducible refine Below.setCell ?_ ?_ _) | (with_reducible refine Below.alloc ?_ ?_ _) | (with_reducible refine Below.drew ?_) | (with_reducible refine below_drewN ?_ _) | (with_reducible refine below_next ?_ (by with_reducible assumption)) | omega | (dsimp only; omega) | (simp only [World.size_alloc, World.size_setCell, World.size_drew, World.heap_drewN]; omega))), by simp [*, ↓IntWalk.iteOmega], by simp [*, ↓IntWalk.iteOmega], by simp [*, ↓IntWalk.iteOmega], by simp [*, ↓IntWalk.iteOmega], by simp [*, ↓IntWalk.iteOmega], by simp [*, ↓IntWalk.iteOmega]⟩)
      (first
      | (go_at_call 57; (with_reducible refine (numberOf_any _ _ _ _ _ _ _ _ _).mono ?_); rintro e w2 ⟨rfl, hb2⟩; obtain ⟨hc2, hf2, hz2⟩ := cif hb2; (try simp only [World.size_alloc, World.size_setCell, World.size_drew, World.heap_drewN] at hz2)))
    all_goals (
      go_wp2_with fail
      go_meet
      refine ⟨_, rfl, rfl, by unfold Ext at *; (repeat' (first | (with_reducible exact Below.refl _ _) | (with_reducible assumption) | (with_reducible refine Below.setCell ?_ ?_ _) | (with_reducible refine Below.alloc ?_ ?_ _) | (with_reducible refine Below.drew ?_) | (with_reducible refine below_drewN ?_ _) | (with_reducible refine below_next ?_ (by with_reducible assumption)) | omega | (dsimp only; omega) | (simp only [World.size_alloc, World.size_setCell, World.size_drew, World.heap_drewN]; omega))), ?_, ?_, ?_, ?_⟩)
    all_goals (first
      | omega
      | (simp; omega)
      | (simp [*, ↓IntWalk.iteOmega]; done))
  case rest =>
    obtain ⟨b5, rfl, rfl, hbw, hlt, hlt', y0, y1⟩ := hcut
    have hbz := hbw.size
    obtain rfl := HK.out
    obtain rfl := HS.out
    obtain rfl := HF.out
    go_wp2
    all_goals (go_returns; refine ⟨?_, by (repeat' (first | (with_reducible exact Below.refl _ _) | (with_reducible assumption) | (with_reducible refine Below.setCell ?_ ?_ _) | (with_reducible refine Below.alloc ?_ ?_ _) | (with_reducible refine Below.drew ?_) | (with_reducible refine below_drewN ?_ _) | (with_reducible refine below_next ?_ (by with_reducible assumption)) | omega | (dsimp only; omega) | (simp only [World.size_alloc, World.size_setCell, World.size_drew, World.heap_drewN]; omega)))⟩; clear hA1 hA2 hA3; refine ret_b ?_; first | rfl | grind)
theorem holds_any (t : Ty) (ht : t = .flt ∨ IsNum t) (x : Int) (w : World) : Calls Tryd.prog 41 #[tyV t, .int .i64 x] w fun e w' => e = .returned (.bool (holdsB t x)) ∧ Below w.heap.size w w' := by
  rcases ht with rfl | ⟨s, u, rfl, hs⟩
  · exact holds_not 3 0 0 false _ _ _ _ x w rfl
  · rcases hs with rfl | rfl | rfl | rfl
    · cases u
      · exact holds_1f _ _ _ _ _ _ _ _ x w rfl rfl rfl
      · exact holds_1t _ _ _ _ _ _ _ _ x w rfl rfl rfl
    · cases u
      · exact holds_2f _ _ _ _ _ _ _ _ x w rfl rfl rfl
      · exact holds_2t _ _ _ _ _ _ _ _ x w rfl rfl rfl
    · cases u
      · exact holds_4f _ _ _ _ _ _ _ _ x w rfl rfl rfl
      · exact holds_4t _ _ _ _ _ _ _ _ x w rfl rfl rfl
    · exact holds_8 _ u _ _ _ _ x w
end Go.Proofs.YteeojgepgjndgaaDoor
namespace Go.Proofs.YteeojgepgjndgaaDoor
open Go.RowKit
set_option linter.unusedVariables false
set_option linter.unusedSimpArgs false

def ty9 (c : Int) : Ty := if c = 9 then .flt else .num (2 ^ ((c - 1) / 2).toNat) (c % 2 = 0)
theorem ty9_num (c : Int) (h : 1 ≤ c ∧ c ≤ 9) : ty9 c = .flt ∨ IsNum (ty9 c) := by
  have h2 : c = 1 ∨ c = 2 ∨ c = 3 ∨ c = 4 ∨ c = 5 ∨ c = 6 ∨ c = 7 ∨ c = 8 ∨ c = 9 := by omega
  rcases h2 with rfl | rfl | rfl | rfl | rfl | rfl | rfl | rfl | rfl
  · exact .inr ⟨1, _, rfl, by omega⟩
  · exact .inr ⟨1, _, rfl, by omega⟩
  · exact .inr ⟨2, _, rfl, by omega⟩
  · exact .inr ⟨2, _, rfl, by omega⟩
  · exact .inr ⟨4, _, rfl, by omega⟩
  · exact .inr ⟨4, _, rfl, by omega⟩
  · exact .inr ⟨8, _, rfl, by omega⟩
  · exact .inr ⟨8, _, rfl, by omega⟩
  · exact .inl rfl
theorem one_ty9 (c : Int) (h : 1 ≤ c ∧ c ≤ 9) (t : Ty) (e : er t = oneE [c]) : t = ty9 c := by
  unfold oneE mkE at e
  rw [if_neg (by omega)] at e
  unfold ty9
  by_cases h9 : c = 9
  · rw [if_neg (by omega), if_pos h9] at e
    rw [if_pos h9]
    cases t <;> simp [er] at e ⊢
  · rw [if_pos (by omega)] at e
    rw [if_neg h9]
    cases t <;> simp [er] at e ⊢
    exact e
theorem rdt_num (t : Ty) (h : t = .flt ∨ IsNum t) (w : World) : RdT w t := by
  rcases h with rfl | ⟨s, u, rfl, _⟩ <;> simp [RdT]
theorem one_code (c : Int) (hc : 1 ≤ c ∧ c ≤ 9) (b : Nat) (W : World) (hb : b < W.heap.size) (h : W.cell? ⟨b, 0, none⟩ = some (.int .i64 c)) :
    Calls Tryd.prog 11 #[.slice (some ⟨b, 0, none⟩) 1 1] W fun e w' => e = .returned (tyV (ty9 c)) ∧ Below W.heap.size W w' := by
  refine (one_free [c] _ 1 1 W (by intro x hx; simp at hx; subst hx; unfold I64; omega) (rdl_one hb h)).mono ?_
  rintro e w' ⟨t, rfl, he, _, _, hB⟩
  rw [one_ty9 c hc t he]
  exact ⟨rfl, hB⟩
theorem fit_turnL : ∀ (l : List Int) (v : V) (ok : Bool), (∀ x ∈ l, 80 ≤ x ∧ x ≤ 94) → Fit v → Fit (turnL l v ok).1
  | [], v, ok, _, h => h
  | op :: l, v, ok, hl, h => by
    unfold turnL
    split
    · exact fit_turnL l _ _ (fun x hx => hl x (List.mem_cons_of_mem _ hx)) (fit_eval1 op v (hl op (List.mem_cons_self ..)))
    · exact fit_turnL l _ _ (fun x hx => hl x (List.mem_cons_of_mem _ hx)) h
theorem fit_turnV (a b : Ty) (v : V) (h : Fit v) : Fit (turnV a b v).1 := fit_turnL _ _ _ (opsT_range a b) h
theorem turned_any (v r : V) (ok : Bool) (hv : Fit v) (a b : Ty) (ha : a = .flt ∨ IsNum a) (hb : b = .flt ∨ IsNum b) (hr : turnV a b v = (r, ok))
    {k1 s1 l1 : Int} {f1 : Bool} {n1 : ByteArray} {A1 : Option Addr} {m1 c1 : Nat} {k2 s2 l2 : Int} {f2 : Bool} {n2 : ByteArray} {A2 : Option Addr} {m2 c2 : Nat}
    (e1 : tyC a = [.int .i64 k1, .int .i64 s1, .int .i64 l1, .bool f1, .string n1, .slice A1 m1 c1]) (e2 : tyC b = [.int .i64 k2, .int .i64 s2, .int .i64 l2, .bool f2, .string n2, .slice A2 m2 c2]) (W : World) :
    Calls Tryd.prog 37 #[.agg #[.int .i64 v.k, .int .u64 v.b, .int .i64 v.l], .agg #[.int .i64 k1, .int .i64 s1, .int .i64 l1, .bool f1, .string n1, .slice A1 m1 c1], .agg #[.int .i64 k2, .int .i64 s2, .int .i64 l2, .bool f2, .string n2, .slice A2 m2 c2]] W
      fun e w' => e = .returned (.tuple #[.agg #[.int .i64 r.k, .int .u64 r.b, .int .i64 r.l], .bool ok]) ∧ Below W.heap.size W w' := by
  have h := turned_core v hv a b W (rdt_num a ha W) (rdt_num b hb W) e1 e2
  refine h.mono fun e w' h => ?_
  unfold TurnP at h
  rw [show turnL (opsT a b).1 v (opsT a b).2 = (r, ok) from hr] at h
  exact h
end Go.Proofs.YteeojgepgjndgaaDoor
