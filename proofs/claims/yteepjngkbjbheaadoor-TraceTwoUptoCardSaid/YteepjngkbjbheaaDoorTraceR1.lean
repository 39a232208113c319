/-
  Calls from outside, events compared: the reference's.
-/
import Derived.Test.YteepjngkbjbheaaDoorTraceW5
namespace Go.Proofs.YteepjngkbjbheaaDoor
open Go.RowKit
set_option linter.unusedVariables false
set_option linter.unusedSimpArgs false

set_option maxRecDepth 100000 in
set_option maxHeartbeats 4000000 in
theorem ref_sameEvent_any (a b : Ev) (w : World) (h1 : RdL vCells 3 w a.sv a.args) (h2 : RdL vCells 3 w b.sv b.args) :
    Calls Tryd.prog 9 #[.agg #[.string a.name, a.sv, .int .i64 a.res.k, .int .u64 a.res.b, .int .i64 a.res.l], .agg #[.string b.name, b.sv, .int .i64 b.res.k, .int .u64 b.res.b, .int .i64 b.res.l]] w (BoolP (SameE a b) w) := by
  obtain ⟨A1, c1, e1⟩ := h1.form
  obtain ⟨A2, c2, e2⟩ := h2.form
  obtain ⟨n1, s1, l1, r1⟩ := a
  obtain ⟨n2, s2, l2, r2⟩ := b
  dsimp only at *
  subst e1 e2
  have m1 := h1.len
  have m2 := h2.len
  unfold maxLen at m1 m2
  by_cases c1 : n1.toList = n2.toList
  · have hs : (n1.toList != n2.toList) = false := by simp [c1]
    have C1 := Lib.hid c1
    clear c1
    by_cases c2 : r1 = r2
    · subst c2
      have hr := eqV_yes r1
      by_cases hn : l1.length = l2.length
      · have hd : (((l1.length : Nat) : Int) != ((l2.length : Nat) : Int)) = false := by simp [hn]
        by_cases h0 : l1.length = 0
        · have e : l1 = l2 := by rw [List.eq_nil_of_length_eq_zero h0, List.eq_nil_of_length_eq_zero (show l2.length = 0 by omega)]
          have HE := Lib.hid e
          clear e h1 h2 hn
          have hA1 := cell_alloc_if
          have hA2 := frozen_alloc_if
          have hA3 := cell_set_if
          go_enter Tryd.func9, Tryd.ntmps9
          go_wp2
          go_loop [5] (fun i => i = .int .i64 0) (fun _ => 0)
          case atStart => rfl
          case round =>
            subst hrel
            go_wp2
            go_returns
            exact ⟨true, rfl, by simp [SameE, C1.out, HE.out], by (repeat' (first | (with_reducible exact Below.refl _ _) | (with_reducible assumption) | (with_reducible refine Below.setCell ?_ ?_ _) | (with_reducible refine Below.alloc ?_ ?_ _) | (with_reducible refine Below.drew ?_) | (with_reducible refine below_drewN ?_ _) | (with_reducible refine below_next ?_ (by with_reducible assumption)) | omega | (dsimp only; omega) | (simp only [World.size_alloc, World.size_setCell, World.size_drew, World.heap_drewN]; omega)))⟩
        · obtain ⟨b1, o1, d1, f1, _, _, hb1, hc1⟩ := h1.some_ (by omega)
          obtain ⟨b2, o2, d2, f2, _, _, hb2, hc2⟩ := h2.some_ (by omega)
          injection f1 with f1 f1' f1''
          injection f2 with f2 f2' f2''
          subst f1 f2
          have HN := Lib.hid hn
          have H1 := Lib.hid hc1
          have H2 := Lib.hid hc2
          clear hc1 hc2 h1 h2 hn f1' f2'
          have hA1 := cell_alloc_if
          have hA2 := frozen_alloc_if
          have hA3 := cell_set_if
          go_enter Tryd.func9, Tryd.ntmps9
          go_wp2
          go_loopw [5] (fun i wr => ∃ k : Nat, k ≤ l1.length ∧ i = .int .i64 k ∧ Ext w wr ∧ Hid (l1.take k = l2.take k) ∧ wr.cell? ⟨w.heap.size, 1, none⟩ = some (.slice (some ⟨b1, o1, none⟩) l1.length c1) ∧ wr.cell? ⟨w.heap.size + 1, 1, none⟩ = some (.slice (some ⟨b2, o2, none⟩) l2.length c2)) (fun i _ => l1.length - (intOf i).toNat)
          case atStart => exact ⟨0, by omega, rfl, by unfold Ext; (repeat' (first | (with_reducible exact Below.refl _ _) | (with_reducible assumption) | (with_reducible refine Below.setCell ?_ ?_ _) | (with_reducible refine Below.alloc ?_ ?_ _) | (with_reducible refine Below.drew ?_) | (with_reducible refine below_drewN ?_ _) | (with_reducible refine below_next ?_ (by with_reducible assumption)) | omega | (dsimp only; omega) | (simp only [World.size_alloc, World.size_setCell, World.size_drew, World.heap_drewN]; omega))), Lib.hid (by simp), by simp [*], by simp [*]⟩
          case round =>
            obtain ⟨k, hk, rfl, hX, HT, hx1, hx2⟩ := hrel
            by_cases hlt : k < l1.length
            · have e1 : l1[k]? = some l1[k] := List.getElem?_eq_getElem hlt
              have hlt2 : k < l2.length := by rw [← HN.out]; exact hlt
              have e2 : l2[k]? = some l2[k] := List.getElem?_eq_getElem hlt2
              obtain ⟨x, hx⟩ : ∃ x, x = l1[k] := ⟨_, rfl⟩
              obtain ⟨y, hy⟩ : ∃ y, y = l2[k] := ⟨_, rfl⟩
              rw [← hx] at e1
              rw [← hy] at e2
              obtain ⟨p1, p2, p3⟩ := RdL.vAt H1.out e1
              obtain ⟨q1, q2, q3⟩ := RdL.vAt H2.out e2
              have hXb := Ext.of hX
              have p1' := (hXb.cell (p := ⟨b1, _, none⟩) hb1).trans p1
              have p2' := (hXb.cell (p := ⟨b1, _, none⟩) hb1).trans p2
              have p3' := (hXb.cell (p := ⟨b1, _, none⟩) hb1).trans p3
              have q1' := (hXb.cell (p := ⟨b2, _, none⟩) hb2).trans q1
              have q2' := (hXb.cell (p := ⟨b2, _, none⟩) hb2).trans q2
              have q3' := (hXb.cell (p := ⟨b2, _, none⟩) hb2).trans q3
              have E1 := Lib.hid e1
              have E2 := Lib.hid e2
              clear hx hy p1 p2 p3 q1 q2 q3 e1 e2
              by_cases hxy : x = y
              · subst hxy
                have hrun := eqV_yes x
                go_wp2
                go_quiet (fail)
                go_wp2
                go_roundw
                case rel => exact ⟨k + 1, by omega, by go_num, by unfold Ext at *; (repeat' (first | (with_reducible exact Below.refl _ _) | (with_reducible assumption) | (with_reducible refine Below.setCell ?_ ?_ _) | (with_reducible refine Below.alloc ?_ ?_ _) | (with_reducible refine Below.drew ?_) | (with_reducible refine below_drewN ?_ _) | (with_reducible refine below_next ?_ (by with_reducible assumption)) | omega | (dsimp only; omega) | (simp only [World.size_alloc, World.size_setCell, World.size_drew, World.heap_drewN]; omega))), Lib.hid (by rw [List.take_add_one, List.take_add_one, HT.out, E1.out, E2.out]), by simpa using hx1, by simpa using hx2⟩
                case measure => simp [intOf]; omega
              · have hrun := eqV_no x y hxy
                go_wp2
                go_quiet (fail)
                go_wp2
                go_returns
                exact ⟨false, rfl, by simp [SameE]; intro _ h; have e1 := E1.out; have e2 := E2.out; rw [h, e2] at e1; injection e1 with e1; exact absurd e1.symm hxy, by unfold Ext at *; (repeat' (first | (with_reducible exact Below.refl _ _) | (with_reducible assumption) | (with_reducible refine Below.setCell ?_ ?_ _) | (with_reducible refine Below.alloc ?_ ?_ _) | (with_reducible refine Below.drew ?_) | (with_reducible refine below_drewN ?_ _) | (with_reducible refine below_next ?_ (by with_reducible assumption)) | omega | (dsimp only; omega) | (simp only [World.size_alloc, World.size_setCell, World.size_drew, World.heap_drewN]; omega)))⟩
            · have hkn : k = l1.length := by omega
              subst hkn
              go_wp2
              go_returns
              refine ⟨true, rfl, ?_, by unfold Ext at *; (repeat' (first | (with_reducible exact Below.refl _ _) | (with_reducible assumption) | (with_reducible refine Below.setCell ?_ ?_ _) | (with_reducible refine Below.alloc ?_ ?_ _) | (with_reducible refine Below.drew ?_) | (with_reducible refine below_drewN ?_ _) | (with_reducible refine below_next ?_ (by with_reducible assumption)) | omega | (dsimp only; omega) | (simp only [World.size_alloc, World.size_setCell, World.size_drew, World.heap_drewN]; omega)))⟩
              have ht := HT.out
              have hn := HN.out
              rw [List.take_of_length_le (Nat.le_refl _), List.take_of_length_le (by omega)] at ht
              simp [SameE, C1.out, ht]
      · have hd : (((l1.length : Nat) : Int) != ((l2.length : Nat) : Int)) = true := by rw [bne_iff_ne]; omega
        have hne : ¬ l1 = l2 := fun h => hn (by rw [h])
        have HE := Lib.hid hne
        clear h1 h2 hn hne
        have hA1 := cell_alloc_if
        have hA2 := frozen_alloc_if
        have hA3 := cell_set_if
        go_enter Tryd.func9, Tryd.ntmps9
        go_wp2
        go_returns
        exact ⟨false, rfl, by simp [SameE, HE.out], by (repeat' (first | (with_reducible exact Below.refl _ _) | (with_reducible assumption) | (with_reducible refine Below.setCell ?_ ?_ _) | (with_reducible refine Below.alloc ?_ ?_ _) | (with_reducible refine Below.drew ?_) | (with_reducible refine below_drewN ?_ _) | (with_reducible refine below_next ?_ (by with_reducible assumption)) | omega | (dsimp only; omega) | (simp only [World.size_alloc, World.size_setCell, World.size_drew, World.heap_drewN]; omega)))⟩
    · have hr := eqV_no r1 r2 c2
      clear h1 h2
      have hA1 := cell_alloc_if
      have hA2 := frozen_alloc_if
      have hA3 := cell_set_if
      go_enter Tryd.func9, Tryd.ntmps9
      go_wp2
      go_returns
      exact ⟨false, rfl, by simp [SameE, c2], by (repeat' (first | (with_reducible exact Below.refl _ _) | (with_reducible assumption) | (with_reducible refine Below.setCell ?_ ?_ _) | (with_reducible refine Below.alloc ?_ ?_ _) | (with_reducible refine Below.drew ?_) | (with_reducible refine below_drewN ?_ _) | (with_reducible refine below_next ?_ (by with_reducible assumption)) | omega | (dsimp only; omega) | (simp only [World.size_alloc, World.size_setCell, World.size_drew, World.heap_drewN]; omega)))⟩
  · have hs : (n1.toList != n2.toList) = true := by simp [c1]
    clear h1 h2
    have hA1 := cell_alloc_if
    have hA2 := frozen_alloc_if
    have hA3 := cell_set_if
    go_enter Tryd.func9, Tryd.ntmps9
    go_wp2
    go_returns
    exact ⟨false, rfl, by simp [SameE, c1], by (repeat' (first | (with_reducible exact Below.refl _ _) | (with_reducible assumption) | (with_reducible refine Below.setCell ?_ ?_ _) | (with_reducible refine Below.alloc ?_ ?_ _) | (with_reducible refine Below.drew ?_) | (with_reducible refine below_drewN ?_ _) | (with_reducible refine below_next ?_ (by with_reducible assumption)) | omega | (dsimp only; omega) | (simp only [World.size_alloc, World.size_setCell, World.size_drew, World.heap_drewN]; omega)))⟩

set_option maxRecDepth 100000 in
set_option maxHeartbeats 4000000 in
theorem ref_answer_none (k n x : Int) (s : Value) (A : Option Addr) (m c : Nat) (hs : s = .slice A m c) (hm : m ≤ 9223372036854775807) (hn : ¬ (0 ≤ n ∧ n < m)) (hx : x = 0) (w : World) :
    Calls Tryd.prog 12 #[.int .i64 k, s, .int .i64 n] w fun e w' => e = .returned (.agg #[.int .i64 (answerV k x).k, .int .u64 (answerV k x).b, .int .i64 (answerV k x).l]) ∧ Below w.heap.size w w' := by
  subst hs hx
  have hA1 := cell_alloc_if
  have hA2 := frozen_alloc_if
  have hA3 := cell_set_if
  by_cases h0 : 0 ≤ n
  · have h1 : (m : Int) ≤ n := by omega
    clear hn
    go_enter Tryd.func12, Tryd.ntmps12
    go_wp2_with (first
      | (go_at_call 28; with_reducible refine (ref_int_any _ _).mono ?_; rintro e w' ⟨rfl, hbl⟩; obtain ⟨hc, hf, hz⟩ := cif hbl; (try simp only [World.size_alloc, World.size_setCell, World.size_drew, World.heap_drewN] at hz))
      | (go_at_call 29; with_reducible refine (ref_long_any _ _).mono ?_; rintro e w' ⟨rfl, hbl⟩; obtain ⟨hc, hf, hz⟩ := cif hbl; (try simp only [World.size_alloc, World.size_setCell, World.size_drew, World.heap_drewN] at hz))
      | (go_at_call 30; with_reducible refine (ref_dbl_any _ _).mono ?_; rintro e w' ⟨rfl, hbl⟩; obtain ⟨hc, hf, hz⟩ := cif hbl; (try simp only [World.size_alloc, World.size_setCell, World.size_drew, World.heap_drewN] at hz)))
    all_goals (((try simp only [Exit.inBlock, Exit.then]); go_light; refine bodyPost_ret (by simp [results, Tryd.results12, go_sem, *, ↓IntWalk.iteOmega]; try rfl) rfl ?_); refine ⟨congrArg Ending.returned ?_, by (repeat' (first | (with_reducible exact Below.refl _ _) | (with_reducible assumption) | (with_reducible refine Below.setCell ?_ ?_ _) | (with_reducible refine Below.alloc ?_ ?_ _) | (with_reducible refine Below.drew ?_) | (with_reducible refine below_drewN ?_ _) | (with_reducible refine below_next ?_ (by with_reducible assumption)) | omega | (dsimp only; omega) | (simp only [World.size_alloc, World.size_setCell, World.size_drew, World.heap_drewN]; omega)))⟩; go_light; simp at *; simp [answerV, intV, longV, undefV, wrap32_mod, *])
  · have h1 : n < 0 := by omega
    clear hn h0
    go_enter Tryd.func12, Tryd.ntmps12
    go_wp2_with (first
      | (go_at_call 28; with_reducible refine (ref_int_any _ _).mono ?_; rintro e w' ⟨rfl, hbl⟩; obtain ⟨hc, hf, hz⟩ := cif hbl; (try simp only [World.size_alloc, World.size_setCell, World.size_drew, World.heap_drewN] at hz))
      | (go_at_call 29; with_reducible refine (ref_long_any _ _).mono ?_; rintro e w' ⟨rfl, hbl⟩; obtain ⟨hc, hf, hz⟩ := cif hbl; (try simp only [World.size_alloc, World.size_setCell, World.size_drew, World.heap_drewN] at hz))
      | (go_at_call 30; with_reducible refine (ref_dbl_any _ _).mono ?_; rintro e w' ⟨rfl, hbl⟩; obtain ⟨hc, hf, hz⟩ := cif hbl; (try simp only [World.size_alloc, World.size_setCell, World.size_drew, World.heap_drewN] at hz)))
    all_goals (((try simp only [Exit.inBlock, Exit.then]); go_light; refine bodyPost_ret (by simp [results, Tryd.results12, go_sem, *, ↓IntWalk.iteOmega]; try rfl) rfl ?_); refine ⟨congrArg Ending.returned ?_, by (repeat' (first | (with_reducible exact Below.refl _ _) | (with_reducible assumption) | (with_reducible refine Below.setCell ?_ ?_ _) | (with_reducible refine Below.alloc ?_ ?_ _) | (with_reducible refine Below.drew ?_) | (with_reducible refine below_drewN ?_ _) | (with_reducible refine below_next ?_ (by with_reducible assumption)) | omega | (dsimp only; omega) | (simp only [World.size_alloc, World.size_setCell, World.size_drew, World.heap_drewN]; omega)))⟩; go_light; simp at *; simp [answerV, intV, longV, undefV, wrap32_mod, *])

set_option maxRecDepth 100000 in
set_option maxHeartbeats 4000000 in
theorem ref_answer_hit (k x : Int) (j : Nat) (s : Value) (b off m c : Nat) (n : Int) (hjn : n = (j : Int)) (hs : s = .slice (some ⟨b, off, none⟩) m c) (hm : m ≤ 9223372036854775807) (hj : j < m) (hx : I64 x) (w : World) (hb : b < w.heap.size) (hcell : w.cell? ⟨b, off + j, none⟩ = some (.int .i64 x)) :
    Calls Tryd.prog 12 #[.int .i64 k, s, .int .i64 n] w fun e w' => e = .returned (.agg #[.int .i64 (answerV k x).k, .int .u64 (answerV k x).b, .int .i64 (answerV k x).l]) ∧ Below w.heap.size w w' := by
  subst hs hjn
  obtain ⟨x1, x2⟩ := hx
  have hA1 := cell_alloc_if
  have hA2 := frozen_alloc_if
  have hA3 := cell_set_if
  go_enter Tryd.func12, Tryd.ntmps12
  go_wp2_with (first
    | (go_at_call 28; with_reducible refine (ref_int_any _ _).mono ?_; rintro e w' ⟨rfl, hbl⟩; obtain ⟨hc, hf, hz⟩ := cif hbl; (try simp only [World.size_alloc, World.size_setCell, World.size_drew, World.heap_drewN] at hz))
    | (go_at_call 29; with_reducible refine (ref_long_any _ _).mono ?_; rintro e w' ⟨rfl, hbl⟩; obtain ⟨hc, hf, hz⟩ := cif hbl; (try simp only [World.size_alloc, World.size_setCell, World.size_drew, World.heap_drewN] at hz))
    | (go_at_call 30; with_reducible refine (ref_dbl_any _ _).mono ?_; rintro e w' ⟨rfl, hbl⟩; obtain ⟨hc, hf, hz⟩ := cif hbl; (try simp only [World.size_alloc, World.size_setCell, World.size_drew, World.heap_drewN] at hz)))
  all_goals (((try simp only [Exit.inBlock, Exit.then]); go_light; refine bodyPost_ret (by simp [results, Tryd.results12, go_sem, *, ↓IntWalk.iteOmega]; try rfl) rfl ?_); refine ⟨congrArg Ending.returned ?_, by (repeat' (first | (with_reducible exact Below.refl _ _) | (with_reducible assumption) | (with_reducible refine Below.setCell ?_ ?_ _) | (with_reducible refine Below.alloc ?_ ?_ _) | (with_reducible refine Below.drew ?_) | (with_reducible refine below_drewN ?_ _) | (with_reducible refine below_next ?_ (by with_reducible assumption)) | omega | (dsimp only; omega) | (simp only [World.size_alloc, World.size_setCell, World.size_drew, World.heap_drewN]; omega)))⟩; go_light; simp at *; simp [answerV, intV, longV, undefV, wrap32_mod, *])

theorem ref_answer_any (k n : Int) (s : Value) (l : List Int) (w : World) (h : RdL longCells 1 w s l) (hl : ∀ x ∈ l, I64 x) :
    Calls Tryd.prog 12 #[.int .i64 k, s, .int .i64 n] w fun e w' => e = .returned (.agg #[.int .i64 (answerV k (scriptAt l n)).k, .int .u64 (answerV k (scriptAt l n)).b, .int .i64 (answerV k (scriptAt l n)).l]) ∧ Below w.heap.size w w' := by
  have hm := h.len
  unfold maxLen at hm
  by_cases c : 0 ≤ n ∧ n < l.length
  · obtain ⟨b, off, cp, rfl, _, _, hb, hc⟩ := h.some_ (by omega)
    obtain ⟨j, rfl⟩ := Int.eq_ofNat_of_zero_le c.1
    have hj : j < l.length := by omega
    have e : scriptAt l (j : Int) = l[j] := by
      unfold scriptAt
      rw [if_pos c, Int.toNat_natCast]
      simp [hj]
    have h1 := hc j _ (List.getElem?_eq_getElem hj) 0 _ rfl
    rw [Nat.mul_one, Nat.add_zero] at h1
    rw [e]
    exact ref_answer_hit k _ j _ b off _ cp _ rfl rfl (by omega) hj (hl _ (List.getElem_mem hj)) w hb h1
  · obtain ⟨A, cp, rfl⟩ := h.form
    have e : scriptAt l n = 0 := by unfold scriptAt; rw [if_neg c]
    rw [e]
    exact ref_answer_none k n 0 _ A _ cp rfl (by omega) c rfl w

/-- A row of the call's own is kept where only new memory is made. -/
theorem own_below {W W' : World} {base : Nat} {e : TypeId} {size n : Nat} {v : Value} {xs : List Value} (h : W.ownsRow base e size v n xs) (hb : Below W.heap.size W W') : W'.ownsRow base e size v n xs := by
  refine h.kept (row := none) ⟨hb.os, hb.tape, hb.output, hb.size, fun i hi _ => hb.block i hi⟩ ?_
  cases v.ownBlock with
  | none => exact .inl rfl
  | some k => exact .inr (by simp)

theorem own_form {W : World} {base : Nat} {e : TypeId} {size n : Nat} {v : Value} {xs : List Value} (h : W.ownsRow base e size v n xs) : ∃ A c, v = .slice A n c := by
  rcases h.2 with ⟨hv, h0⟩ | ⟨g, cap, cur, hv, _⟩
  · exact ⟨_, _, by rw [hv, h0]⟩
  · exact ⟨_, _, hv⟩

/-- What a call from outside gives: an event, or nothing. -/
def CallP (name : ByteArray) (l : List V) (ks : List Int) (v : V) (w : World) (e : Ending) (w' : World) : Prop :=
  (FitsAll l ks ∧ CallOk name l v w e w') ∨ (¬ FitsAll l ks ∧ CallNo w e w')

set_option maxRecDepth 100000 in
set_option maxHeartbeats 8000000 in
theorem ref_call_any (name : ByteArray) (sp sa ss : Value) (ks : List Int) (l : List V) (r n : Int) (v : V) (w : World) (h1 : RdL vCells 3 w sa l) (h2 : RdL intCells 1 w sp ks) (h3 : ∃ A n c, ss = .slice A n c) (hsz : l.length * 24 ≤ 140737488355328)
    (HA : Hid (∀ W, Ext w W → Calls Tryd.prog 12 #[.int .i64 r, ss, .int .i64 n] W fun e w' => e = .returned (.agg #[.int .i64 v.k, .int .u64 v.b, .int .i64 v.l]) ∧ Below W.heap.size W w')) :
    Calls Tryd.prog 8 #[.string name, .agg #[sp, .int .i64 r], sa, ss, .int .i64 n] w (CallP name l ks v w) := by
  obtain ⟨i0, hi0, hz0, hz1, hz2⟩ := info_parts v_info
  obtain ⟨A3, n3, c3, rfl⟩ := h3
  obtain ⟨A1, c1, rfl⟩ := h1.form
  obtain ⟨A2, c2, rfl⟩ := h2.form
  have m1 := h1.len
  have m2 := h2.len
  unfold maxLen at m1 m2
  by_cases hn : l.length = ks.length
  · have hd : (((l.length : Nat) : Int) != ((ks.length : Nat) : Int)) = false := by simp [hn]
    have HN := Lib.hid hn
    have H1 := Lib.hid h1
    have H2 := Lib.hid h2
    have HO : Hid (∀ u ∈ l.flatMap vCells, u.oneCell' = true) := Lib.hid (by
      intro u hu
      rw [List.mem_flatMap] at hu
      obtain ⟨a, _, hu⟩ := hu
      simp only [vCells, List.mem_cons, List.not_mem_nil, or_false] at hu
      rcases hu with rfl | rfl | rfl <;> rfl)
    clear h1 h2 hn
    have hA1 := cell_alloc_if
    have hA2 := frozen_alloc_if
    have hA3 := cell_set_if
    go_enter Tryd.func8, Tryd.ntmps8
    go_wp2
    go_loopw [12, 13] (fun i t wr => ∃ k : Nat, k ≤ l.length ∧ i = .int .i64 k ∧ Ext w wr ∧ w.heap.size + 2 ≤ wr.heap.size ∧ Hid (∀ (i : Nat) (x : V) (y : Int), i < k → l[i]? = some x → ks[i]? = some y → FitsV x y) ∧
      wr.cell? ⟨w.heap.size, 0, none⟩ = some (.slice A2 ks.length c2) ∧ wr.cell? ⟨w.heap.size, 1, none⟩ = some (.int .i64 r) ∧ wr.heap[w.heap.size + 1]? = some (.cells #[.string ⟨#[]⟩, .slice none 0 0, .int .i64 0, .int .u64 0, .int .i64 0] 32 (0, 0))) (fun i _ _ => l.length - (intOf i).toNat)
    case atStart => exact ⟨0, by omega, rfl, by unfold Ext; (repeat' (first | (with_reducible exact Below.refl _ _) | (with_reducible assumption) | (with_reducible refine Below.setCell ?_ ?_ _) | (with_reducible refine Below.alloc ?_ ?_ _) | (with_reducible refine Below.drew ?_) | (with_reducible refine below_drewN ?_ _) | (with_reducible refine below_next ?_ (by with_reducible assumption)) | omega | (dsimp only; omega) | (simp only [World.size_alloc, World.size_setCell, World.size_drew, World.heap_drewN]; omega))), by simp, Lib.hid (by intro i x y h; omega), by simp [*], by simp [*], by have h := fun o1 o2 => heap_alloc_new (w.alloc o1) o2; simp only [World.size_alloc] at h; exact h _ _⟩
    case round =>
      obtain ⟨k, hk, rfl, hX, hzr, HT, hx1, hx2, hx3⟩ := hrel
      have hXb := Ext.of hX
      have r0 : wr.cell? ⟨w.heap.size + 1, 0, none⟩ = some (.string ⟨#[]⟩) := by rw [Lib.cell_of_heap hx3]; rfl
      have r1 : wr.cell? ⟨w.heap.size + 1, 1, none⟩ = some (.slice none 0 0) := by rw [Lib.cell_of_heap hx3]; rfl
      have r2 : wr.cell? ⟨w.heap.size + 1, 2, none⟩ = some (.int .i64 0) := by rw [Lib.cell_of_heap hx3]; rfl
      have r3 : wr.cell? ⟨w.heap.size + 1, 3, none⟩ = some (.int .u64 0) := by rw [Lib.cell_of_heap hx3]; rfl
      have r4 : wr.cell? ⟨w.heap.size + 1, 4, none⟩ = some (.int .i64 0) := by rw [Lib.cell_of_heap hx3]; rfl
      have rf : ∀ o, wr.frozen? ⟨w.heap.size + 1, o, none⟩ = false := fun o => Lib.frozen_of_heap hx3 o
      by_cases hlt : k < l.length
      · have hlt2 : k < ks.length := by rw [← HN.out]; exact hlt
        obtain ⟨x, e1⟩ : ∃ x, l[k]? = some x := ⟨_, List.getElem?_eq_getElem hlt⟩
        obtain ⟨y, e2⟩ : ∃ y, ks[k]? = some y := ⟨_, List.getElem?_eq_getElem hlt2⟩
        obtain ⟨b1, o1, d1, f1, _, _, hb1, hc1⟩ := H1.out.some_ (by omega)
        obtain ⟨b2, o2, d2, f2, _, _, hb2, hc2⟩ := H2.out.some_ (by omega)
        injection f1 with f1 f1' f1''
        injection f2 with f2 f2' f2''
        subst f1 f2
        obtain ⟨p1, p2, p3⟩ := RdL.vAt hc1 e1
        have q1 := hc2 k y e2 0 _ rfl
        rw [Nat.mul_one, Nat.add_zero] at q1
        have p1' := (hXb.cell (p := ⟨b1, _, none⟩) hb1).trans p1
        have p2' := (hXb.cell (p := ⟨b1, _, none⟩) hb1).trans p2
        have p3' := (hXb.cell (p := ⟨b1, _, none⟩) hb1).trans p3
        have q1' := (hXb.cell (p := ⟨b2, _, none⟩) hb2).trans q1
        have E1 := Lib.hid e1
        have E2 := Lib.hid e2
        clear p1 p2 p3 q1 e1 e2 hc1 hc2 f1' f2' f1'' f2''
        have stop : ¬ FitsV x y → Hid (¬ FitsAll l ks) := fun h => Lib.hid fun g => h (g.2 k _ _ E1.out E2.out)
        have goes : FitsV x y → Hid (∀ (i : Nat) (x : V) (y : Int), i < k + 1 → l[i]? = some x → ks[i]? = some y → FitsV x y) := fun h => Lib.hid (FitsAll.snoc HT.out E1.out E2.out h)
        obtain ⟨x1, x2, x3⟩ := x
        dsimp only at p1' p2' p3'
        by_cases cy : x1 = y
        · subst cy
          by_cases cr : 1 ≤ x1 ∧ x1 ≤ 3
          · have G := goes ⟨rfl, cr⟩
            clear goes stop
            rcases (by omega : x1 = 1 ∨ x1 = 2 ∨ x1 = 3) with rfl | rfl | rfl
            all_goals
              go_wp2
              go_roundw
              case rel => exact ⟨k + 1, by omega, by go_num, by unfold Ext at *; (repeat' (first | (with_reducible exact Below.refl _ _) | (with_reducible assumption) | (with_reducible refine Below.setCell ?_ ?_ _) | (with_reducible refine Below.alloc ?_ ?_ _) | (with_reducible refine Below.drew ?_) | (with_reducible refine below_drewN ?_ _) | (with_reducible refine below_next ?_ (by with_reducible assumption)) | omega | (dsimp only; omega) | (simp only [World.size_alloc, World.size_setCell, World.size_drew, World.heap_drewN]; omega))), by simpa using hzr, G, by simpa using hx1, by simpa using hx2, by simpa using hx3⟩
              case measure => simp [intOf]; omega
          · have G := stop (fun h => cr h.2)
            have g1 : (x1 != 1) = true := by simp; omega
            have g2 : (x1 != 2) = true := by simp; omega
            have g3 : (x1 != 3) = true := by simp; omega
            clear goes stop
            go_wp2
            ((try simp only [Exit.inBlock, Exit.then]); go_light; refine bodyPost_ret (by simp [results, Tryd.results8, go_sem, *, ↓IntWalk.iteOmega]; try rfl) rfl ?_)
            exact .inr ⟨G.out, rfl, by unfold Ext at *; (repeat' (first | (with_reducible exact Below.refl _ _) | (with_reducible assumption) | (with_reducible refine Below.setCell ?_ ?_ _) | (with_reducible refine Below.alloc ?_ ?_ _) | (with_reducible refine Below.drew ?_) | (with_reducible refine below_drewN ?_ _) | (with_reducible refine below_next ?_ (by with_reducible assumption)) | omega | (dsimp only; omega) | (simp only [World.size_alloc, World.size_setCell, World.size_drew, World.heap_drewN]; omega)))⟩
        · have G := stop (fun h => cy h.1)
          have g1 : (x1 != y) = true := by simpa using cy
          clear goes stop
          go_wp2
          ((try simp only [Exit.inBlock, Exit.then]); go_light; refine bodyPost_ret (by simp [results, Tryd.results8, go_sem, *, ↓IntWalk.iteOmega]; try rfl) rfl ?_)
          exact .inr ⟨G.out, rfl, by unfold Ext at *; (repeat' (first | (with_reducible exact Below.refl _ _) | (with_reducible assumption) | (with_reducible refine Below.setCell ?_ ?_ _) | (with_reducible refine Below.alloc ?_ ?_ _) | (with_reducible refine Below.drew ?_) | (with_reducible refine below_drewN ?_ _) | (with_reducible refine below_next ?_ (by with_reducible assumption)) | omega | (dsimp only; omega) | (simp only [World.size_alloc, World.size_setCell, World.size_drew, World.heap_drewN]; omega)))⟩
      · have hkn : k = l.length := by omega
        subst hkn
        have G : FitsAll l ks := ⟨HN.out, fun i x y hx hy => HT.out i x y (by
          rcases Nat.lt_or_ge i l.length with h1 | h1
          · exact h1
          · rw [List.getElem?_eq_none h1] at hx; cases hx) hx hy⟩
        have HG := Lib.hid G
        obtain ⟨_, hr⟩ := (H1.out.next hXb).reads (fun _ => rfl)
        have HR := Lib.hid hr
        clear hr G
        go_wp2
        go_region_held3 (fun w' => Ext w w' ∧ w'.cell? ⟨w.heap.size, 1, none⟩ = some (.int .i64 r))
          (first | exact ⟨by unfold Ext at *; (repeat' (first | (with_reducible exact Below.refl _ _) | (with_reducible assumption) | (with_reducible refine Below.setCell ?_ ?_ _) | (with_reducible refine Below.alloc ?_ ?_ _) | (with_reducible refine Below.drew ?_) | (with_reducible refine below_drewN ?_ _) | (with_reducible refine below_next ?_ (by with_reducible assumption)) | omega | (dsimp only; omega) | (simp only [World.size_alloc, World.size_setCell, World.size_drew, World.heap_drewN]; omega))), by simp [*, ↓IntWalk.iteOmega]⟩)
          (first
            | (go_at_call 12; (with_reducible refine (HA.out _ (Ext.next hX (by unfold Ext at *; (repeat' (first | (with_reducible exact Below.refl _ _) | (with_reducible assumption) | (with_reducible refine Below.setCell ?_ ?_ _) | (with_reducible refine Below.alloc ?_ ?_ _) | (with_reducible refine Below.drew ?_) | (with_reducible refine below_drewN ?_ _) | (with_reducible refine below_next ?_ (by with_reducible assumption)) | omega | (dsimp only; omega) | (simp only [World.size_alloc, World.size_setCell, World.size_drew, World.heap_drewN]; omega)))))).mono ?_); rintro e w' ⟨rfl, hbl⟩; obtain ⟨hc, hf, hz⟩ := cif hbl; (try simp only [World.size_alloc, World.size_setCell, World.size_drew, World.heap_drewN] at hz))
            | (refine step_append_any _ rfl (.tmp 53) (.tmp 54) 25 rfl wr.heap.size 30 i0 _ 3 24 Tryd.underlying25 hi0 hz0 hz1 hz2 rfl (by omega) (.slice (some ⟨_, 0, none⟩) 0 0) 0 [] rfl
                 (by first | exact World.ownsRow_lit _ #[] 0 (by first | omega | (simp; done) | (simp; omega)) (by decide) rfl | exact own_below (World.ownsRow_lit _ #[] 0 (by first | omega | (simp; done) | (simp; omega)) (by decide) rfl) (by assumption))
                 wr.heap.size A1 l.length c1 (l.flatMap vCells) rfl (HR.out.below (by unfold Ext at *; (repeat' (first | (with_reducible exact Below.refl _ _) | (with_reducible assumption) | (with_reducible refine Below.setCell ?_ ?_ _) | (with_reducible refine Below.alloc ?_ ?_ _) | (with_reducible refine Below.drew ?_) | (with_reducible refine below_drewN ?_ _) | (with_reducible refine below_next ?_ (by with_reducible assumption)) | omega | (dsimp only; omega) | (simp only [World.size_alloc, World.size_setCell, World.size_drew, World.heap_drewN]; omega))))) HO.out (by unfold maxLen; omega) (by omega) (by first | omega | (simp; done) | (simp; omega)) ?_
               intro v1 w1 hown1 hg1 hat1
               have hba : Below wr.heap.size wr w1 := Below.grown (by (repeat' (first | (with_reducible exact Below.refl _ _) | (with_reducible assumption) | (with_reducible refine Below.setCell ?_ ?_ _) | (with_reducible refine Below.alloc ?_ ?_ _) | (with_reducible refine Below.drew ?_) | (with_reducible refine below_drewN ?_ _) | (with_reducible refine below_next ?_ (by with_reducible assumption)) | omega | (dsimp only; omega) | (simp only [World.size_alloc, World.size_setCell, World.size_drew, World.heap_drewN]; omega)))) hg1 (by first | exact Nat.le_refl _ | (simp; done) | (simp; omega)) (by simp [Value.ownBlock])
               obtain ⟨hc1, hf1, hz1⟩ := cif hba
               obtain ⟨A4, c4, rfl⟩ := own_form hown1
               rw [Nat.zero_add, List.nil_append] at hown1))
        go_wp2
        ((try simp only [Exit.inBlock, Exit.then]); go_light; refine bodyPost_ret (by simp [results, Tryd.results8, go_sem, *, ↓IntWalk.iteOmega]; try rfl) rfl ?_)
        refine .inl ⟨HG.out, _, rfl, ?_, by unfold Ext at *; (repeat' (first | (with_reducible exact Below.refl _ _) | (with_reducible assumption) | (with_reducible refine Below.setCell ?_ ?_ _) | (with_reducible refine Below.alloc ?_ ?_ _) | (with_reducible refine Below.drew ?_) | (with_reducible refine below_drewN ?_ _) | (with_reducible refine below_next ?_ (by with_reducible assumption)) | omega | (dsimp only; omega) | (simp only [World.size_alloc, World.size_setCell, World.size_drew, World.heap_drewN]; omega))), fun b hb => by have := (World.ownsRow.lt hown1 b hb).1; omega⟩
        have hrd : RdL vCells 3 w1 (.slice A4 l.length c4) l := RdL.of_own hown1 rfl (flat_at (f := vCells) (sz := 3) (fun _ => rfl) l)
        refine (hrd.next (by assumption)).keepB fun b hb hlt => ?_
        have h1 := (World.ownsRow.lt hown1 b hb).1
        simp only [World.size_alloc, World.size_setCell, World.size_drew, World.heap_drewN] at hlt ⊢
        refine ⟨hlt, fun o => ?_⟩
        rw [cell_set_if, if_neg (by omega), cell_set_if, if_neg (by omega), cell_set_if, if_neg (by omega), cell_set_if, if_neg (by omega), cell_set_if, if_neg (by omega)]
  · have hd : (((l.length : Nat) : Int) != ((ks.length : Nat) : Int)) = true := by rw [bne_iff_ne]; omega
    have hne : ¬ FitsAll l ks := fun h => hn h.1
    have HE := Lib.hid hne
    clear h1 h2 hne hn
    have hA1 := cell_alloc_if
    have hA2 := frozen_alloc_if
    have hA3 := cell_set_if
    go_enter Tryd.func8, Tryd.ntmps8
    go_wp2
    ((try simp only [Exit.inBlock, Exit.then]); go_light; refine bodyPost_ret (by simp [results, Tryd.results8, go_sem, *, ↓IntWalk.iteOmega]; try rfl) rfl ?_)
    exact .inr ⟨HE.out, rfl, by (repeat' (first | (with_reducible exact Below.refl _ _) | (with_reducible assumption) | (with_reducible refine Below.setCell ?_ ?_ _) | (with_reducible refine Below.alloc ?_ ?_ _) | (with_reducible refine Below.drew ?_) | (with_reducible refine below_drewN ?_ _) | (with_reducible refine below_next ?_ (by with_reducible assumption)) | omega | (dsimp only; omega) | (simp only [World.size_alloc, World.size_setCell, World.size_drew, World.heap_drewN]; omega)))⟩

end Go.Proofs.YteepjngkbjbheaaDoor
