/-
  Calls from outside: the program's.
-/
import Derived.Test.YteepjngkbjbheaaDoorTraceW3
import Derived.Test.YteepjngkbjbheaaDoorTraceM
import Derived.Test.YteepjngkbjbheaaDoorWords
import Derived.Deep.RegionHeld3
import Derived.Lib.SliceRun
namespace Go.Proofs.YteepjngkbjbheaaDoor
open Go.RowKit
set_option linter.unusedVariables false
set_option linter.unusedSimpArgs false

def FitsV (v : V) (k : Int) : Prop := v.k = k ∧ 1 ≤ k ∧ k ≤ 3
def FitsAll (l : List V) (ks : List Int) : Prop := l.length = ks.length ∧ ∀ (i : Nat) (v : V) (k : Int), l[i]? = some v → ks[i]? = some k → FitsV v k
theorem FitsAll.snoc {l1 : List V} {l2 : List Int} {k : Nat} {x : V} {y : Int} (h : ∀ (i : Nat) (x : V) (y : Int), i < k → l1[i]? = some x → l2[i]? = some y → FitsV x y) (h1 : l1[k]? = some x) (h2 : l2[k]? = some y) (hs : FitsV x y) :
    ∀ (i : Nat) (x : V) (y : Int), i < k + 1 → l1[i]? = some x → l2[i]? = some y → FitsV x y := by
  intro i a b hi ha hb
  by_cases c : i < k
  · exact h i a b c ha hb
  · have : i = k := by omega
    subst this
    rw [h1] at ha; rw [h2] at hb
    injection ha with ha; injection hb with hb
    subst ha hb
    exact hs

set_option maxHeartbeats 1000000 in
theorem fits_any (v : V) (k : Int) (w : World) : Calls Tryd.prog 21 #[.agg #[.int .i64 v.k, .int .u64 v.b, .int .i64 v.l], .int .i64 k] w (BoolP (FitsV v k) w) := by
  by_cases c : v.k = k
  · have d : (v.k == k) = true := beq_iff_eq.2 c
    have C := Lib.hid c
    clear c
    by_cases c1 : 1 ≤ k
    · by_cases c2 : k ≤ 3
      · go_enter Tryd.func21, Tryd.ntmps21
        go_wp2
        all_goals (go_returns; exact ⟨true, rfl, by simp [FitsV, C.out]; omega, by (repeat' (first | (with_reducible exact Below.refl _ _) | (with_reducible assumption) | (with_reducible refine Below.setCell ?_ ?_ _) | (with_reducible refine Below.alloc ?_ ?_ _) | (with_reducible refine Below.drew ?_) | (with_reducible refine below_drewN ?_ _) | (with_reducible refine below_next ?_ (by with_reducible assumption)) | omega | (dsimp only; omega) | (simp only [World.size_alloc, World.size_setCell, World.size_drew, World.heap_drewN]; omega)))⟩)
      · go_enter Tryd.func21, Tryd.ntmps21
        go_wp2
        all_goals (go_returns; exact ⟨false, rfl, by simp [FitsV, C.out]; omega, by (repeat' (first | (with_reducible exact Below.refl _ _) | (with_reducible assumption) | (with_reducible refine Below.setCell ?_ ?_ _) | (with_reducible refine Below.alloc ?_ ?_ _) | (with_reducible refine Below.drew ?_) | (with_reducible refine below_drewN ?_ _) | (with_reducible refine below_next ?_ (by with_reducible assumption)) | omega | (dsimp only; omega) | (simp only [World.size_alloc, World.size_setCell, World.size_drew, World.heap_drewN]; omega)))⟩)
    · go_enter Tryd.func21, Tryd.ntmps21
      go_wp2
      all_goals (go_returns; exact ⟨false, rfl, by simp [FitsV, C.out]; omega, by (repeat' (first | (with_reducible exact Below.refl _ _) | (with_reducible assumption) | (with_reducible refine Below.setCell ?_ ?_ _) | (with_reducible refine Below.alloc ?_ ?_ _) | (with_reducible refine Below.drew ?_) | (with_reducible refine below_drewN ?_ _) | (with_reducible refine below_next ?_ (by with_reducible assumption)) | omega | (dsimp only; omega) | (simp only [World.size_alloc, World.size_setCell, World.size_drew, World.heap_drewN]; omega)))⟩)
  · have d : (v.k == k) = false := beq_eq_false_iff_ne.2 c
    go_enter Tryd.func21, Tryd.ntmps21
    go_wp2
    all_goals (go_returns; exact ⟨false, rfl, by simp [FitsV, c], by (repeat' (first | (with_reducible exact Below.refl _ _) | (with_reducible assumption) | (with_reducible refine Below.setCell ?_ ?_ _) | (with_reducible refine Below.alloc ?_ ?_ _) | (with_reducible refine Below.drew ?_) | (with_reducible refine below_drewN ?_ _) | (with_reducible refine below_next ?_ (by with_reducible assumption)) | omega | (dsimp only; omega) | (simp only [World.size_alloc, World.size_setCell, World.size_drew, World.heap_drewN]; omega)))⟩)

set_option maxRecDepth 100000 in
set_option maxHeartbeats 4000000 in
theorem equalVI_any (s1 s2 : Value) (l1 : List V) (l2 : List Int) (w : World) (h1 : RdL vCells 3 w s1 l1) (h2 : RdL intCells 1 w s2 l2) :
    Calls Tryd.prog 22 #[s1, s2, .func (.func 21) #[] #[]] w (BoolP (FitsAll l1 l2) w) := by
  have m1 := h1.len
  have m2 := h2.len
  unfold maxLen at m1 m2
  by_cases hn : l1.length = l2.length
  · by_cases h0 : l1.length = 0
    · obtain ⟨A1, c1, rfl, _⟩ := h1.empty h0
      obtain ⟨A2, c2, rfl, _⟩ := h2.empty (by omega)
      have e : FitsAll l1 l2 := by rw [List.eq_nil_of_length_eq_zero h0, List.eq_nil_of_length_eq_zero (show l2.length = 0 by omega)]; exact ⟨rfl, fun i x y h => by simp at h⟩
      have HE := Lib.hid e
      clear e h1 h2 hn h0
      go_enter Tryd.func22, Tryd.ntmps22
      go_wp2
      go_loop [17] (fun i => i = .int .i64 0) (fun _ => 0)
      case atStart => rfl
      case round =>
        subst hrel
        go_wp2
        go_returns
        exact ⟨true, rfl, by simp [HE.out], Below.refl _ _⟩
    · obtain ⟨b1, o1, c1, rfl, _, _, hb1, hc1⟩ := h1.some_ (by omega)
      obtain ⟨b2, o2, c2, rfl, _, _, hb2, hc2⟩ := h2.some_ (by omega)
      rw [← hn]
      have HN := Lib.hid hn
      have H1 := Lib.hid hc1
      have H2 := Lib.hid hc2
      clear hn hc1 hc2 h1 h2 m2
      have hA1 := cell_alloc_if
      have hA2 := frozen_alloc_if
      have hA3 := cell_set_if
      go_enter Tryd.func22, Tryd.ntmps22
      go_wp2
      go_loopw [17] (fun i wr => ∃ k : Nat, k ≤ l1.length ∧ i = .int .i64 k ∧ Ext w wr ∧ Hid (∀ (i : Nat) (x : V) (y : Int), i < k → l1[i]? = some x → l2[i]? = some y → FitsV x y)) (fun i _ => l1.length - (intOf i).toNat)
      case atStart => exact ⟨0, by omega, rfl, Below.refl _ _, fun i x y hi => absurd hi (by omega)⟩
      case round =>
        obtain ⟨k, hk, rfl, hX, HT⟩ := hrel
        by_cases hlt : k < l1.length
        · have hlt2 : k < l2.length := by rw [← HN.out]; exact hlt
          obtain ⟨x, e1⟩ : ∃ x, l1[k]? = some x := ⟨_, List.getElem?_eq_getElem hlt⟩
          obtain ⟨y, e2⟩ : ∃ y, l2[k]? = some y := ⟨_, List.getElem?_eq_getElem hlt2⟩
          obtain ⟨p1, p2, p3⟩ := RdL.vAt H1.out e1
          have q1 := H2.out k y e2 0 _ rfl
          rw [Nat.mul_one, Nat.add_zero] at q1
          have hXb := Ext.of hX
          have p1' := (hXb.cell (p := ⟨b1, _, none⟩) hb1).trans p1
          have p2' := (hXb.cell (p := ⟨b1, _, none⟩) hb1).trans p2
          have p3' := (hXb.cell (p := ⟨b1, _, none⟩) hb1).trans p3
          have q1' := (hXb.cell (p := ⟨b2, _, none⟩) hb2).trans q1
          have hwz := hXb.size
          have E1 := Lib.hid e1
          have E2 := Lib.hid e2
          clear p1 p2 p3 q1 e1 e2
          go_wp2_with (go_at_call 21; (with_reducible refine (fits_any x y _).mono ?_); rintro e w1 ⟨v, rfl, hv, hbl⟩; have HV := Lib.hid hv; clear hv; cases v)
          · go_returns
            refine ⟨false, rfl, ?_, by unfold Ext at *; (repeat' (first | (with_reducible exact Below.refl _ _) | (with_reducible assumption) | (with_reducible refine Below.setCell ?_ ?_ _) | (with_reducible refine Below.alloc ?_ ?_ _) | (with_reducible refine Below.drew ?_) | (with_reducible refine below_drewN ?_ _) | (with_reducible refine below_next ?_ (by with_reducible assumption)) | omega | (dsimp only; omega) | (simp only [World.size_alloc, World.size_setCell, World.size_drew, World.heap_drewN]; omega)))⟩
            have hv := HV.out
            simp at hv
            simp
            intro h
            exact hv (h.2 k _ _ E1.out E2.out)
          · go_roundw
            case rel => exact ⟨k + 1, by omega, by go_num, by unfold Ext at *; (repeat' (first | (with_reducible exact Below.refl _ _) | (with_reducible assumption) | (with_reducible refine Below.setCell ?_ ?_ _) | (with_reducible refine Below.alloc ?_ ?_ _) | (with_reducible refine Below.drew ?_) | (with_reducible refine below_drewN ?_ _) | (with_reducible refine below_next ?_ (by with_reducible assumption)) | omega | (dsimp only; omega) | (simp only [World.size_alloc, World.size_setCell, World.size_drew, World.heap_drewN]; omega))), FitsAll.snoc HT.out E1.out E2.out (by simpa using HV.out)⟩
            case measure => simp [intOf]; omega
        · have hkn : k = l1.length := by omega
          subst hkn
          go_wp2
          go_returns
          refine ⟨true, rfl, ?_, by unfold Ext at *; (repeat' (first | (with_reducible exact Below.refl _ _) | (with_reducible assumption) | (with_reducible refine Below.setCell ?_ ?_ _) | (with_reducible refine Below.alloc ?_ ?_ _) | (with_reducible refine Below.drew ?_) | (with_reducible refine below_drewN ?_ _) | (with_reducible refine below_next ?_ (by with_reducible assumption)) | omega | (dsimp only; omega) | (simp only [World.size_alloc, World.size_setCell, World.size_drew, World.heap_drewN]; omega)))⟩
          have ht := HT.out
          have hn := HN.out
          simp
          refine ⟨hn, fun i x y hx hy => ht i x y ?_ hx hy⟩
          rcases Nat.lt_or_ge i l1.length with h1 | h1
          · exact h1
          · rw [List.getElem?_eq_none h1] at hx; cases hx
  · obtain ⟨A1, c1, rfl⟩ := h1.form
    obtain ⟨A2, c2, rfl⟩ := h2.form
    clear h1 h2
    have hne : ¬ FitsAll l1 l2 := fun h => hn h.1
    have HE := Lib.hid hne
    have hd : (((l1.length : Nat) : Int) != ((l2.length : Nat) : Int)) = true := by rw [bne_iff_ne]; omega
    clear hne hn
    go_enter Tryd.func22, Tryd.ntmps22
    go_wp2
    go_returns
    exact ⟨false, rfl, by simp [HE.out], Below.refl _ _⟩

/-- A copy: fresh, of the same values. -/
def CloneP (l : List V) (w : World) (e : Ending) (w' : World) : Prop := ∃ s', e = .returned s' ∧ RdL vCells 3 w' s' l ∧ Below w.heap.size w w' ∧ (∀ b, s'.ownBlock = some b → w.heap.size ≤ b)
theorem v_info : (Tryd.prog.info? 30).map (fun i => (i.zero, i.size, i.bytes)) = some (some (.agg #[.int .i64 0, .int .u64 0, .int .i64 0]), 3, 24) := by kernel_rfl

set_option maxRecDepth 100000 in
set_option maxHeartbeats 4000000 in
theorem clone_any (s : Value) (l : List V) (w : World) (h : RdL vCells 3 w s l) (hsz : l.length * 24 ≤ 140737488355328) :
    Calls Tryd.prog 23 #[s] w (CloneP l w) := by
  obtain ⟨i0, hi0, hz0, hz1, hz2⟩ := info_parts v_info
  obtain ⟨A, c, rfl⟩ := h.form
  obtain ⟨_, hr⟩ := h.reads (fun _ => rfl)
  rcases A with _ | A
  · have h0 : l.length = 0 := by
      rcases Nat.eq_zero_or_pos l.length with h0 | h0
      · exact h0
      · obtain ⟨ad, h1, _⟩ := hr.2 h0; cases h1
    have hl : l = [] := List.eq_nil_of_length_eq_zero h0
    subst hl
    have hrun : ∀ w : World, (binOp .eql 25 (.slice none 0 c) (.slice none 0 0)).run Tryd.prog w = .ok (.bool true) w := fun w => Lib.run_eql_slice_nil w _ _ none 0 c 0 0 Tryd.underlying25
    clear h hr h0
    go_enter Tryd.func23, Tryd.ntmps23
    go_wp2
    go_returns
    exact ⟨_, rfl, RdL.nil _ _ _, Below.refl _ _, fun b hb => by simp [Value.ownBlock] at hb⟩
  · have hrun : ∀ w : World, (binOp .eql 25 (.slice (some A) l.length c) (.slice none 0 0)).run Tryd.prog w = .ok (.bool false) w := fun w => Lib.run_eql_slice_nil w _ _ (some A) l.length c 0 0 Tryd.underlying25
    have HR := Lib.hid hr
    have HO : Hid (∀ u ∈ l.flatMap vCells, u.oneCell' = true) := Lib.hid (by
      intro u hu
      rw [List.mem_flatMap] at hu
      obtain ⟨a, _, hu⟩ := hu
      simp only [vCells, List.mem_cons, List.not_mem_nil, or_false] at hu
      rcases hu with rfl | rfl | rfl <;> rfl)
    clear h hr
    go_enter Tryd.func23, Tryd.ntmps23
    go_wp2_with (at_builtin
                 refine wpList_append_any _ rfl (.tmp 5) (.tmp 6) _ rfl w.heap.size 30 i0 _ 3 24 Tryd.underlying25 hi0 hz0 hz1 hz2 rfl (by omega) (.slice (some ⟨w.heap.size, 0, none⟩) 0 0) 0 [] rfl
                   (World.ownsRow_lit w #[] 0 (Nat.le_refl _) (by decide) rfl) w.heap.size (some A) l.length c (l.flatMap vCells) rfl (HR.out.alloc (Nat.le_refl _) _) HO.out (by simp only [maxLen]; omega) (by omega) (by simp) ?_
                 intro v1 w1 hown1 hg1 hat1)
    go_returns
    have hb1 : Below w.heap.size w w1 := ((Below.refl _ _).alloc (Nat.le_refl _) _).grown hg1 (by simp) (by simp [Value.ownBlock])
    obtain ⟨A1, n1, c1, rfl⟩ : ∃ A1 n1 c1, v1 = .slice A1 n1 c1 := by
      rcases hown1.2 with ⟨hv, _⟩ | ⟨g, cap, cur, hv, _⟩
      · exact ⟨_, _, _, hv⟩
      · exact ⟨_, _, _, hv⟩
    have hn1 : n1 = 0 + l.length := by
      rcases hown1.2 with ⟨hv, h0⟩ | ⟨g, cap, cur, hv, _⟩
      · simp only [Value.slice.injEq] at hv; omega
      · simp only [Value.slice.injEq] at hv; omega
    subst hn1
    refine ⟨_, rfl, RdL.of_own hown1 (by omega) (by simpa using flat_at (f := vCells) (sz := 3) (fun _ => rfl) l), hb1, fun b hb => ?_⟩
    exact (World.ownsRow.lt hown1 b hb).1

/-- What a call from outside is answered. -/
def answerV (k x : Int) : V := if k = 1 then intV x else if k = 2 then longV x else if k = 3 then canonF (floatOfInt .f64 x) else undefV
def scriptAt (l : List Int) (n : Int) : Int := if 0 ≤ n ∧ n < l.length then l.getD n.toNat 0 else 0
theorem wrap64_mod' (x : Int) (h : I64 x) : wrap64 (x % 18446744073709551616) = x := by obtain ⟨h1, h2⟩ := h; unfold wrap64; omega

def longCells (n : Int) : List Value := [.int .i64 n]

set_option maxRecDepth 100000 in
set_option maxHeartbeats 4000000 in
theorem answer_none (k n x : Int) (s : Value) (A : Option Addr) (m c : Nat) (hs : s = .slice A m c) (hm : m ≤ 9223372036854775807) (hn : ¬ (0 ≤ n ∧ n < m)) (hx : x = 0) (w : World) :
    Calls Tryd.prog 11 #[.int .i64 k, s, .int .i64 n] w fun e w' => e = .returned (.agg #[.int .i64 (answerV k x).k, .int .u64 (answerV k x).b, .int .i64 (answerV k x).l]) ∧ Below w.heap.size w w' := by
  subst hs hx
  have HV := Lib.hid (fun w => ev_89 0 0 (by unfold U64; omega) w)
  rw [show (wrap64 0) = 0 from by simp [wrap64]] at HV
  have hA1 := cell_alloc_if
  have hA2 := frozen_alloc_if
  have hA3 := cell_set_if
  by_cases h0 : 0 ≤ n
  · have h1 : (m : Int) ≤ n := by omega
    clear hn
    go_enter Tryd.func11, Tryd.ntmps11
    go_wp2_with (first
      | (go_at_call 25; with_reducible refine (intOf_any _ _).mono ?_; rintro e w' ⟨rfl, hbl⟩; obtain ⟨hc, hf, hz⟩ := cif hbl; (try simp only [World.size_alloc, World.size_setCell, World.size_drew, World.heap_drewN] at hz))
      | (go_at_call 26; with_reducible refine (longOf_any _ _).mono ?_; rintro e w' ⟨rfl, hbl⟩; obtain ⟨hc, hf, hz⟩ := cif hbl; (try simp only [World.size_alloc, World.size_setCell, World.size_drew, World.heap_drewN] at hz))
      | (go_at_call 27; with_reducible refine (HV.out _).mono ?_; rintro e w' ⟨rfl, hbl⟩; obtain ⟨hc, hf, hz⟩ := cif hbl; (try simp only [World.size_alloc, World.size_setCell, World.size_drew, World.heap_drewN] at hz)))
    all_goals (((try simp only [Exit.inBlock, Exit.then]); go_light; refine bodyPost_ret (by simp [results, Tryd.results11, go_sem, *, ↓IntWalk.iteOmega]; try rfl) rfl ?_); refine ⟨congrArg Ending.returned ?_, by (repeat' (first | (with_reducible exact Below.refl _ _) | (with_reducible assumption) | (with_reducible refine Below.setCell ?_ ?_ _) | (with_reducible refine Below.alloc ?_ ?_ _) | (with_reducible refine Below.drew ?_) | (with_reducible refine below_drewN ?_ _) | (with_reducible refine below_next ?_ (by with_reducible assumption)) | omega | (dsimp only; omega) | (simp only [World.size_alloc, World.size_setCell, World.size_drew, World.heap_drewN]; omega)))⟩; go_light; simp at *; simp [answerV, intV, longV, undefV, wrap32_mod, *])
  · have h1 : n < 0 := by omega
    clear hn h0
    go_enter Tryd.func11, Tryd.ntmps11
    go_wp2_with (first
      | (go_at_call 25; with_reducible refine (intOf_any _ _).mono ?_; rintro e w' ⟨rfl, hbl⟩; obtain ⟨hc, hf, hz⟩ := cif hbl; (try simp only [World.size_alloc, World.size_setCell, World.size_drew, World.heap_drewN] at hz))
      | (go_at_call 26; with_reducible refine (longOf_any _ _).mono ?_; rintro e w' ⟨rfl, hbl⟩; obtain ⟨hc, hf, hz⟩ := cif hbl; (try simp only [World.size_alloc, World.size_setCell, World.size_drew, World.heap_drewN] at hz))
      | (go_at_call 27; with_reducible refine (HV.out _).mono ?_; rintro e w' ⟨rfl, hbl⟩; obtain ⟨hc, hf, hz⟩ := cif hbl; (try simp only [World.size_alloc, World.size_setCell, World.size_drew, World.heap_drewN] at hz)))
    all_goals (((try simp only [Exit.inBlock, Exit.then]); go_light; refine bodyPost_ret (by simp [results, Tryd.results11, go_sem, *, ↓IntWalk.iteOmega]; try rfl) rfl ?_); refine ⟨congrArg Ending.returned ?_, by (repeat' (first | (with_reducible exact Below.refl _ _) | (with_reducible assumption) | (with_reducible refine Below.setCell ?_ ?_ _) | (with_reducible refine Below.alloc ?_ ?_ _) | (with_reducible refine Below.drew ?_) | (with_reducible refine below_drewN ?_ _) | (with_reducible refine below_next ?_ (by with_reducible assumption)) | omega | (dsimp only; omega) | (simp only [World.size_alloc, World.size_setCell, World.size_drew, World.heap_drewN]; omega)))⟩; go_light; simp at *; simp [answerV, intV, longV, undefV, wrap32_mod, *])

set_option maxRecDepth 100000 in
set_option maxHeartbeats 4000000 in
theorem answer_hit (k x : Int) (j : Nat) (s : Value) (b off m c : Nat) (n : Int) (hjn : n = (j : Int)) (hs : s = .slice (some ⟨b, off, none⟩) m c) (hm : m ≤ 9223372036854775807) (hj : j < m) (hx : I64 x) (w : World) (hb : b < w.heap.size) (hcell : w.cell? ⟨b, off + j, none⟩ = some (.int .i64 x)) :
    Calls Tryd.prog 11 #[.int .i64 k, s, .int .i64 n] w fun e w' => e = .returned (.agg #[.int .i64 (answerV k x).k, .int .u64 (answerV k x).b, .int .i64 (answerV k x).l]) ∧ Below w.heap.size w w' := by
  subst hs hjn
  have hU : U64 (x % 18446744073709551616) := by unfold U64; omega
  have hev := fun w => ev_89 (x % 18446744073709551616) 0 hU w
  rw [wrap64_mod' x hx] at hev
  have HV := Lib.hid hev
  clear hev
  obtain ⟨x1, x2⟩ := hx
  obtain ⟨hU1, hU2⟩ := hU
  have hA1 := cell_alloc_if
  have hA2 := frozen_alloc_if
  have hA3 := cell_set_if
  go_enter Tryd.func11, Tryd.ntmps11
  go_wp2_with (first
    | (go_at_call 25; with_reducible refine (intOf_any _ _).mono ?_; rintro e w' ⟨rfl, hbl⟩; obtain ⟨hc, hf, hz⟩ := cif hbl; (try simp only [World.size_alloc, World.size_setCell, World.size_drew, World.heap_drewN] at hz))
    | (go_at_call 26; with_reducible refine (longOf_any _ _).mono ?_; rintro e w' ⟨rfl, hbl⟩; obtain ⟨hc, hf, hz⟩ := cif hbl; (try simp only [World.size_alloc, World.size_setCell, World.size_drew, World.heap_drewN] at hz))
    | (go_at_call 27; with_reducible refine (HV.out _).mono ?_; rintro e w' ⟨rfl, hbl⟩; obtain ⟨hc, hf, hz⟩ := cif hbl; (try simp only [World.size_alloc, World.size_setCell, World.size_drew, World.heap_drewN] at hz)))
  all_goals (((try simp only [Exit.inBlock, Exit.then]); go_light; refine bodyPost_ret (by simp [results, Tryd.results11, go_sem, *, ↓IntWalk.iteOmega]; try rfl) rfl ?_); refine ⟨congrArg Ending.returned ?_, by (repeat' (first | (with_reducible exact Below.refl _ _) | (with_reducible assumption) | (with_reducible refine Below.setCell ?_ ?_ _) | (with_reducible refine Below.alloc ?_ ?_ _) | (with_reducible refine Below.drew ?_) | (with_reducible refine below_drewN ?_ _) | (with_reducible refine below_next ?_ (by with_reducible assumption)) | omega | (dsimp only; omega) | (simp only [World.size_alloc, World.size_setCell, World.size_drew, World.heap_drewN]; omega)))⟩; go_light; simp at *; simp [answerV, intV, longV, undefV, wrap32_mod, *])

theorem answer_any (k n : Int) (s : Value) (l : List Int) (w : World) (h : RdL longCells 1 w s l) (hl : ∀ x ∈ l, I64 x) :
    Calls Tryd.prog 11 #[.int .i64 k, s, .int .i64 n] w fun e w' => e = .returned (.agg #[.int .i64 (answerV k (scriptAt l n)).k, .int .u64 (answerV k (scriptAt l n)).b, .int .i64 (answerV k (scriptAt l n)).l]) ∧ Below w.heap.size w w' := by
  have hm := h.len
  unfold maxLen at hm
  by_cases c : 0 ≤ n ∧ n < l.length
  · obtain ⟨b, off, cp, rfl, _, _, hb, hc⟩ := h.some_ (by omega)
    obtain ⟨j, rfl⟩ := Int.eq_ofNat_of_zero_le c.1
    have hj : j < l.length := by omega
    have e : scriptAt l (j : Int) = l[j] := by
      unfold scriptAt
      rw [if_pos c, Int.toNat_natCast]
      simp [hj]
    have h1 := hc j _ (List.getElem?_eq_getElem hj) 0 _ rfl
    rw [Nat.mul_one, Nat.add_zero] at h1
    rw [e]
    exact answer_hit k _ j _ b off _ cp _ rfl rfl (by omega) hj (hl _ (List.getElem_mem hj)) w hb h1
  · obtain ⟨A, cp, rfl⟩ := h.form
    have e : scriptAt l n = 0 := by unfold scriptAt; rw [if_neg c]
    rw [e]
    exact answer_none k n 0 _ A _ cp rfl (by omega) c rfl w

end Go.Proofs.YteepjngkbjbheaaDoor
