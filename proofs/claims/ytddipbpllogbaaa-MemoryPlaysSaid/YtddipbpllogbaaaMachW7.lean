/-
  The reference's Eval2 and what it calls answer the same plain functions.
-/
import Derived.Test.YtddipbpllogbaaaMachW5
import Derived.Test.YtddipbpllogbaaaIf
import Derived.Test.YtddipbpllogbaaaRegion
import Derived.RegionTactic
import Derived.BigRegion
import Derived.ChangeAlike
namespace Go.Proofs.Ytddipbpllogbaaa
open Go.RowKit
set_option linter.unusedVariables false
set_option linter.unusedSimpArgs false

theorem alloc_V (o : Oper) (ρ : Operand → Value) (w : World) (h : o.op = .alloc 32) : (execOp ρ o).run Try.prog w = .ok (.value (.pointer (some ⟨w.heap.size, 0, none⟩))) (w.alloc (.cells #[.int .i64 0, .int .u64 0, .int .i64 0] 32)) := by
  obtain ⟨dst, op, ty, pos, after, guard⟩ := o
  subst h
  kernel_rfl


set_option maxRecDepth 100000 in
set_option maxHeartbeats 4000000 in
theorem ref_pp (op b1 l1 b2 l2 : Int) (ho : 3 ≤ op ∧ op ≤ 25) (hx : U64 b1) (hy : U64 b2) (r : V × Bool) (hv : pointersV op ⟨4, b1, l1⟩ ⟨4, b2, l2⟩ = r) (w : World) :
    Calls Try.prog 61 #[.int .i64 op, .agg #[.int .i64 4, .int .u64 b1, .int .i64 l1], .agg #[.int .i64 4, .int .u64 b2, .int .i64 l2]] w fun e w' =>
      e = .returned (.tuple #[.agg #[.int .i64 r.1.k, .int .u64 r.1.b, .int .i64 r.1.l], .bool r.2]) ∧ Below w.heap.size w w' := by
  obtain ⟨o1, o2⟩ := ho
  have eqd : (b1 == b2) = decide (b1 = b2) := by rw [Bool.eq_iff_iff]; simp
  have hA1 := cell_alloc_if
  have hA2 := frozen_alloc_if
  have hA3 := cell_set_if
  by_cases c1 : l1 = 0
  · subst c1
    have hv2 : r = (undefV, false) := by rw [← hv]; simp [pointersV]
    have HV := Lib.hid hv2
    clear hv hv2
    go_enter Try.func61, Try.ntmps61
    go_wp2_with (first | (go_at_call 64; with_reducible refine (ref_i64_any _ _ _ _).mono ?_; rintro e w' ⟨rfl, hbl⟩; obtain ⟨hc, hf, hz⟩ := cif hbl; (try simp only [World.size_alloc, World.size_setCell, World.size_drew, World.heap_drewN] at hz)) | (go_at_call 67; with_reducible refine (ref_yes_any _ _).mono ?_; rintro e w' ⟨rfl, hbl⟩; obtain ⟨hc, hf, hz⟩ := cif hbl; (try simp only [World.size_alloc, World.size_setCell, World.size_drew, World.heap_drewN] at hz)) | (go_at_call 68; with_reducible refine (compared_any _ _ _ _).mono ?_; rintro e w' ⟨rfl, rfl⟩))
    all_goals (((try simp only [Exit.inBlock, Exit.then]); go_light; refine bodyPost_ret (by simp [results, Try.results61, go_sem, *, ↓IntWalk.iteOmega]; try rfl) rfl ?_); refine ⟨?_, (by (repeat' (first | (with_reducible exact Below.refl _ _) | (with_reducible assumption) | (with_reducible refine Below.setCell ?_ ?_ _) | (with_reducible refine Below.alloc ?_ ?_ _) | (with_reducible refine Below.drew ?_) | (with_reducible refine below_drewN ?_ _) | (with_reducible refine below_next ?_ (by with_reducible assumption)) | omega | (dsimp only; omega) | (simp only [World.size_alloc, World.size_setCell, World.size_drew, World.heap_drewN]; omega))))⟩; simp [HV.out, undefV])
  · by_cases c6 : l2 = 0
    · subst c6
      have c3 : (l1 == 0) = false := beq_eq_false_iff_ne.2 c1
      have hv2 : r = (undefV, false) := by rw [← hv]; simp [pointersV]
      have HV := Lib.hid hv2
      clear hv hv2
      go_enter Try.func61, Try.ntmps61
      go_wp2_with (first | (go_at_call 64; with_reducible refine (ref_i64_any _ _ _ _).mono ?_; rintro e w' ⟨rfl, hbl⟩; obtain ⟨hc, hf, hz⟩ := cif hbl; (try simp only [World.size_alloc, World.size_setCell, World.size_drew, World.heap_drewN] at hz)) | (go_at_call 67; with_reducible refine (ref_yes_any _ _).mono ?_; rintro e w' ⟨rfl, hbl⟩; obtain ⟨hc, hf, hz⟩ := cif hbl; (try simp only [World.size_alloc, World.size_setCell, World.size_drew, World.heap_drewN] at hz)) | (go_at_call 68; with_reducible refine (compared_any _ _ _ _).mono ?_; rintro e w' ⟨rfl, rfl⟩))
      all_goals (((try simp only [Exit.inBlock, Exit.then]); go_light; refine bodyPost_ret (by simp [results, Try.results61, go_sem, *, ↓IntWalk.iteOmega]; try rfl) rfl ?_); refine ⟨?_, (by (repeat' (first | (with_reducible exact Below.refl _ _) | (with_reducible assumption) | (with_reducible refine Below.setCell ?_ ?_ _) | (with_reducible refine Below.alloc ?_ ?_ _) | (with_reducible refine Below.drew ?_) | (with_reducible refine below_drewN ?_ _) | (with_reducible refine below_next ?_ (by with_reducible assumption)) | omega | (dsimp only; omega) | (simp only [World.size_alloc, World.size_setCell, World.size_drew, World.heap_drewN]; omega))))⟩; simp [HV.out, undefV])
    · have c3 : (l1 == 0) = false := beq_eq_false_iff_ne.2 c1
      have c7 : (l2 == 0) = false := beq_eq_false_iff_ne.2 c6
      by_cases c2 : l1 = l2
      · subst c2
        have e1 : (l1 != l1) = false := by simp
        have hv2 : r = if op = 4 then (longV (wrap64 b1 - wrap64 b2), true)
          else if 22 ≤ op then (flagV (cmpd op (decide (b1 < b2)) (decide (b1 = b2))), true)
          else if 16 ≤ op then (flagV (cmpd op (decide (wrap64 b1 < wrap64 b2)) (decide (b1 = b2))), true)
          else (undefV, false) := by rw [← hv]; simp [pointersV, c1]
        clear hv
        by_cases c4 : op = 4
        · subst c4
          have hv3 := hv2
          simp at hv3
          have HV := Lib.hid hv3
          clear hv2 hv3
          go_enter Try.func61, Try.ntmps61
          go_wp2_with (first | (go_at_call 64; with_reducible refine (ref_i64_any _ _ _ _).mono ?_; rintro e w' ⟨rfl, hbl⟩; obtain ⟨hc, hf, hz⟩ := cif hbl; (try simp only [World.size_alloc, World.size_setCell, World.size_drew, World.heap_drewN] at hz)) | (go_at_call 67; with_reducible refine (ref_yes_any _ _).mono ?_; rintro e w' ⟨rfl, hbl⟩; obtain ⟨hc, hf, hz⟩ := cif hbl; (try simp only [World.size_alloc, World.size_setCell, World.size_drew, World.heap_drewN] at hz)) | (go_at_call 68; with_reducible refine (compared_any _ _ _ _).mono ?_; rintro e w' ⟨rfl, rfl⟩))
          refine wp_region_tail 6 (by intro c a d v w h; cases d <;> (simp [Exit.then, Exit.inBlock] at h ⊢; exact h)) (by kernel_rfl) (by kernel_rfl) (by kernel_rfl) (by kernel_rfl) ?_
          apply Exists.intro
          refine ⟨fun m hm => ?_, fun w' hw' => ?_⟩
          · simp only [List.map_cons, List.map_nil, List.take_succ_cons, List.take_zero, deAl]
            repeat (first | go_big_quiet_skip | (go_big_quiet_want; go_big_quiet_op; first | go_big_quiet_on | (apply Exists.intro; refine ⟨fun W hW => ?_, ?_⟩; (focus (first
              | (go_at_call 64; with_reducible refine (ref_i64_any _ _ _ _).mono ?_; rintro e w1 ⟨rfl, hb⟩; exact ⟨rfl, Ext.next hW hb⟩)
                | (go_at_call 38; with_reducible refine (ref_long_any _ _).mono ?_; rintro e w1 ⟨rfl, hb⟩; exact ⟨rfl, Ext.next hW hb⟩)
                | (go_at_call 84; with_reducible refine (ref_ptr_any _ _ _).mono ?_; rintro e w1 ⟨rfl, hb⟩; exact ⟨rfl, Ext.next hW hb⟩)
                | (go_at_call 67; with_reducible refine (ref_yes_any _ _).mono ?_; rintro e w1 ⟨rfl, hb⟩; exact ⟨rfl, Ext.next hW hb⟩)
                | (go_at_call 68; with_reducible refine (compared_any _ _ _ _).mono ?_; rintro e w1 ⟨rfl, rfl⟩; exact ⟨rfl, hW⟩)
              | exact rfl | (obtain ⟨hcW, hfW, hzW⟩ := cif (Ext.of (Ext.past hm hW)); (try simp only [World.size_alloc, World.size_setCell, World.size_drew, World.heap_drewN] at hzW); simp [go_sem, *, ↓IntWalk.iteOmega]; (try exact rfl)))); go_big_quiet_on)))
            exact wpQuiet_nil rfl
          rw [show als _ 0 6 = [] from by kernel_rfl]
          simp only [gEnd, List.drop_succ_cons, List.drop_zero]
          have hbl := Ext.of hw'
          obtain ⟨hc, hf, hz⟩ := cif hbl
          (try simp only [World.size_alloc, World.size_setCell, World.size_drew, World.heap_drewN] at hz)
          clear hw'
          go_wp2_with (first | (go_at_call 64; with_reducible refine (ref_i64_any _ _ _ _).mono ?_; rintro e w' ⟨rfl, hbl⟩; obtain ⟨hc, hf, hz⟩ := cif hbl; (try simp only [World.size_alloc, World.size_setCell, World.size_drew, World.heap_drewN] at hz)) | (go_at_call 67; with_reducible refine (ref_yes_any _ _).mono ?_; rintro e w' ⟨rfl, hbl⟩; obtain ⟨hc, hf, hz⟩ := cif hbl; (try simp only [World.size_alloc, World.size_setCell, World.size_drew, World.heap_drewN] at hz)) | (go_at_call 68; with_reducible refine (compared_any _ _ _ _).mono ?_; rintro e w' ⟨rfl, rfl⟩))
          all_goals (((try simp only [Exit.inBlock, Exit.then]); go_light; refine bodyPost_ret (by simp [results, Try.results61, go_sem, *, ↓IntWalk.iteOmega]; try rfl) rfl ?_); refine ⟨?_, (by clear hc hf; (repeat' (first | (with_reducible exact Below.refl _ _) | (with_reducible assumption) | (with_reducible refine Below.setCell ?_ ?_ _) | (with_reducible refine Below.alloc ?_ ?_ _) | (with_reducible refine Below.drew ?_) | (with_reducible refine below_drewN ?_ _) | (with_reducible refine below_next ?_ (by with_reducible assumption)) | omega | (dsimp only; omega) | (simp only [World.size_alloc, World.size_setCell, World.size_drew, World.heap_drewN]; omega))))⟩; simp [HV.out, longV, wrap64_mod])
        · have c5 : (op == 4) = false := beq_eq_false_iff_ne.2 c4
          rw [if_neg c4] at hv2
          by_cases c8 : 22 ≤ op
          · rw [if_pos c8] at hv2
            have HV := Lib.hid hv2
            clear hv2
            go_enter Try.func61, Try.ntmps61
            go_wp2_with (first | (go_at_call 64; with_reducible refine (ref_i64_any _ _ _ _).mono ?_; rintro e w' ⟨rfl, hbl⟩; obtain ⟨hc, hf, hz⟩ := cif hbl; (try simp only [World.size_alloc, World.size_setCell, World.size_drew, World.heap_drewN] at hz)) | (go_at_call 67; with_reducible refine (ref_yes_any _ _).mono ?_; rintro e w' ⟨rfl, hbl⟩; obtain ⟨hc, hf, hz⟩ := cif hbl; (try simp only [World.size_alloc, World.size_setCell, World.size_drew, World.heap_drewN] at hz)) | (go_at_call 68; with_reducible refine (compared_any _ _ _ _).mono ?_; rintro e w' ⟨rfl, rfl⟩))
            all_goals (((try simp only [Exit.inBlock, Exit.then]); go_light; refine bodyPost_ret (by simp [results, Try.results61, go_sem, *, ↓IntWalk.iteOmega]; try rfl) rfl ?_); refine ⟨?_, (by clear hc hf; (repeat' (first | (with_reducible exact Below.refl _ _) | (with_reducible assumption) | (with_reducible refine Below.setCell ?_ ?_ _) | (with_reducible refine Below.alloc ?_ ?_ _) | (with_reducible refine Below.drew ?_) | (with_reducible refine below_drewN ?_ _) | (with_reducible refine below_next ?_ (by with_reducible assumption)) | omega | (dsimp only; omega) | (simp only [World.size_alloc, World.size_setCell, World.size_drew, World.heap_drewN]; omega))))⟩; simp [HV.out, flagV_eq, eqd])
          · rw [if_neg c8] at hv2
            by_cases c9 : 16 ≤ op
            · rw [if_pos c9] at hv2
              have HV := Lib.hid hv2
              clear hv2
              go_enter Try.func61, Try.ntmps61
              go_wp2_with (first | (go_at_call 64; with_reducible refine (ref_i64_any _ _ _ _).mono ?_; rintro e w' ⟨rfl, hbl⟩; obtain ⟨hc, hf, hz⟩ := cif hbl; (try simp only [World.size_alloc, World.size_setCell, World.size_drew, World.heap_drewN] at hz)) | (go_at_call 67; with_reducible refine (ref_yes_any _ _).mono ?_; rintro e w' ⟨rfl, hbl⟩; obtain ⟨hc, hf, hz⟩ := cif hbl; (try simp only [World.size_alloc, World.size_setCell, World.size_drew, World.heap_drewN] at hz)) | (go_at_call 68; with_reducible refine (compared_any _ _ _ _).mono ?_; rintro e w' ⟨rfl, rfl⟩))
              refine wp_region_tail 13 (by intro c a d v w h; cases d <;> (simp [Exit.then, Exit.inBlock] at h ⊢; exact h)) (by kernel_rfl) (by kernel_rfl) (by kernel_rfl) (by kernel_rfl) ?_
              apply Exists.intro
              refine ⟨fun m hm => ?_, fun w' hw' => ?_⟩
              · simp only [List.map_cons, List.map_nil, List.take_succ_cons, List.take_zero, deAl]
                repeat (first | go_big_quiet_skip | (go_big_quiet_want; go_big_quiet_op; first | go_big_quiet_on | (apply Exists.intro; refine ⟨fun W hW => ?_, ?_⟩; (focus (first
                  | (go_at_call 64; with_reducible refine (ref_i64_any _ _ _ _).mono ?_; rintro e w1 ⟨rfl, hb⟩; exact ⟨rfl, Ext.next hW hb⟩)
                    | (go_at_call 38; with_reducible refine (ref_long_any _ _).mono ?_; rintro e w1 ⟨rfl, hb⟩; exact ⟨rfl, Ext.next hW hb⟩)
                    | (go_at_call 84; with_reducible refine (ref_ptr_any _ _ _).mono ?_; rintro e w1 ⟨rfl, hb⟩; exact ⟨rfl, Ext.next hW hb⟩)
                    | (go_at_call 67; with_reducible refine (ref_yes_any _ _).mono ?_; rintro e w1 ⟨rfl, hb⟩; exact ⟨rfl, Ext.next hW hb⟩)
                    | (go_at_call 68; with_reducible refine (compared_any _ _ _ _).mono ?_; rintro e w1 ⟨rfl, rfl⟩; exact ⟨rfl, hW⟩)
                  | exact rfl | (obtain ⟨hcW, hfW, hzW⟩ := cif (Ext.of (Ext.past hm hW)); (try simp only [World.size_alloc, World.size_setCell, World.size_drew, World.heap_drewN] at hzW); simp [go_sem, *, ↓IntWalk.iteOmega]; (try exact rfl)))); go_big_quiet_on)))
                exact wpQuiet_nil rfl
              rw [show als _ 0 13 = [] from by kernel_rfl]
              simp only [gEnd, List.drop_succ_cons, List.drop_zero]
              have hbl := Ext.of hw'
              obtain ⟨hc, hf, hz⟩ := cif hbl
              (try simp only [World.size_alloc, World.size_setCell, World.size_drew, World.heap_drewN] at hz)
              clear hw'
              go_wp2_with (first | (go_at_call 64; with_reducible refine (ref_i64_any _ _ _ _).mono ?_; rintro e w' ⟨rfl, hbl⟩; obtain ⟨hc, hf, hz⟩ := cif hbl; (try simp only [World.size_alloc, World.size_setCell, World.size_drew, World.heap_drewN] at hz)) | (go_at_call 67; with_reducible refine (ref_yes_any _ _).mono ?_; rintro e w' ⟨rfl, hbl⟩; obtain ⟨hc, hf, hz⟩ := cif hbl; (try simp only [World.size_alloc, World.size_setCell, World.size_drew, World.heap_drewN] at hz)) | (go_at_call 68; with_reducible refine (compared_any _ _ _ _).mono ?_; rintro e w' ⟨rfl, rfl⟩))
              all_goals (((try simp only [Exit.inBlock, Exit.then]); go_light; refine bodyPost_ret (by simp [results, Try.results61, go_sem, *, ↓IntWalk.iteOmega]; try rfl) rfl ?_); refine ⟨?_, (by clear hc hf; (repeat' (first | (with_reducible exact Below.refl _ _) | (with_reducible assumption) | (with_reducible refine Below.setCell ?_ ?_ _) | (with_reducible refine Below.alloc ?_ ?_ _) | (with_reducible refine Below.drew ?_) | (with_reducible refine below_drewN ?_ _) | (with_reducible refine below_next ?_ (by with_reducible assumption)) | omega | (dsimp only; omega) | (simp only [World.size_alloc, World.size_setCell, World.size_drew, World.heap_drewN]; omega))))⟩; simp [HV.out, flagV_eq, eqd])
            · rw [if_neg c9] at hv2
              have HV := Lib.hid hv2
              clear hv2
              go_enter Try.func61, Try.ntmps61
              go_wp2_with (first | (go_at_call 64; with_reducible refine (ref_i64_any _ _ _ _).mono ?_; rintro e w' ⟨rfl, hbl⟩; obtain ⟨hc, hf, hz⟩ := cif hbl; (try simp only [World.size_alloc, World.size_setCell, World.size_drew, World.heap_drewN] at hz)) | (go_at_call 67; with_reducible refine (ref_yes_any _ _).mono ?_; rintro e w' ⟨rfl, hbl⟩; obtain ⟨hc, hf, hz⟩ := cif hbl; (try simp only [World.size_alloc, World.size_setCell, World.size_drew, World.heap_drewN] at hz)) | (go_at_call 68; with_reducible refine (compared_any _ _ _ _).mono ?_; rintro e w' ⟨rfl, rfl⟩))
              all_goals (((try simp only [Exit.inBlock, Exit.then]); go_light; refine bodyPost_ret (by simp [results, Try.results61, go_sem, *, ↓IntWalk.iteOmega]; try rfl) rfl ?_); refine ⟨?_, (by (repeat' (first | (with_reducible exact Below.refl _ _) | (with_reducible assumption) | (with_reducible refine Below.setCell ?_ ?_ _) | (with_reducible refine Below.alloc ?_ ?_ _) | (with_reducible refine Below.drew ?_) | (with_reducible refine below_drewN ?_ _) | (with_reducible refine below_next ?_ (by with_reducible assumption)) | omega | (dsimp only; omega) | (simp only [World.size_alloc, World.size_setCell, World.size_drew, World.heap_drewN]; omega))))⟩; simp [HV.out, undefV])
      · have c4 : (l1 == l2) = false := beq_eq_false_iff_ne.2 c2
        have c5 : (l1 != l2) = true := by simp [c2]
        have hv2 : r = (undefV, false) := by rw [← hv]; simp [pointersV, c1, c2]
        have HV := Lib.hid hv2
        clear hv hv2
        go_enter Try.func61, Try.ntmps61
        go_wp2_with (first | (go_at_call 64; with_reducible refine (ref_i64_any _ _ _ _).mono ?_; rintro e w' ⟨rfl, hbl⟩; obtain ⟨hc, hf, hz⟩ := cif hbl; (try simp only [World.size_alloc, World.size_setCell, World.size_drew, World.heap_drewN] at hz)) | (go_at_call 67; with_reducible refine (ref_yes_any _ _).mono ?_; rintro e w' ⟨rfl, hbl⟩; obtain ⟨hc, hf, hz⟩ := cif hbl; (try simp only [World.size_alloc, World.size_setCell, World.size_drew, World.heap_drewN] at hz)) | (go_at_call 68; with_reducible refine (compared_any _ _ _ _).mono ?_; rintro e w' ⟨rfl, rfl⟩))
        all_goals (((try simp only [Exit.inBlock, Exit.then]); go_light; refine bodyPost_ret (by simp [results, Try.results61, go_sem, *, ↓IntWalk.iteOmega]; try rfl) rfl ?_); refine ⟨?_, (by (repeat' (first | (with_reducible exact Below.refl _ _) | (with_reducible assumption) | (with_reducible refine Below.setCell ?_ ?_ _) | (with_reducible refine Below.alloc ?_ ?_ _) | (with_reducible refine Below.drew ?_) | (with_reducible refine below_drewN ?_ _) | (with_reducible refine below_next ?_ (by with_reducible assumption)) | omega | (dsimp only; omega) | (simp only [World.size_alloc, World.size_setCell, World.size_drew, World.heap_drewN]; omega))))⟩; simp [HV.out, undefV])

theorem ptrV_eq (b o : Int) : ptrV b o = if b = 0 then ⟨0, 0, 0⟩ else ⟨4, o % 18446744073709551616, b⟩ := rfl
set_option maxRecDepth 100000 in
set_option maxHeartbeats 8000000 in
theorem ref_pl_3 (b1 l1 b2 l2 : Int) (c1 : ¬ l1 = 0) (c3 : (l1 == 0) = false) (hx : U64 b1) (hy : U64 b2) (r : V × Bool) (hv : pointersV 3 ⟨4, b1, l1⟩ ⟨2, b2, l2⟩ = r) (w : World) :
    Calls Try.prog 61 #[.int .i64 3, .agg #[.int .i64 4, .int .u64 b1, .int .i64 l1], .agg #[.int .i64 2, .int .u64 b2, .int .i64 l2]] w fun e w' =>
      e = .returned (.tuple #[.agg #[.int .i64 r.1.k, .int .u64 r.1.b, .int .i64 r.1.l], .bool r.2]) ∧ Below w.heap.size w w' := by
  have hA1 := cell_alloc_if
  have hA2 := frozen_alloc_if
  have hA3 := cell_set_if
  have hv2 := hv.symm
  skip
  simp [pointersV, flagV_eq, undefV, *] at hv2
  have HV := Lib.hid hv2
  clear hv hv2
  go_enter Try.func61, Try.ntmps61
  go_wp2_with (first | (go_at_call 64; with_reducible refine (ref_i64_any _ _ _ _).mono ?_; rintro e w' ⟨rfl, hbl⟩; obtain ⟨hc, hf, hz⟩ := cif hbl; (try simp only [World.size_alloc, World.size_setCell, World.size_drew, World.heap_drewN] at hz)) | (go_at_call 67; with_reducible refine (ref_yes_any _ _).mono ?_; rintro e w' ⟨rfl, hbl⟩; obtain ⟨hc, hf, hz⟩ := cif hbl; (try simp only [World.size_alloc, World.size_setCell, World.size_drew, World.heap_drewN] at hz)) | (go_at_call 68; with_reducible refine (compared_any _ _ _ _).mono ?_; rintro e w' ⟨rfl, rfl⟩))
  go_region
  all_goals (go_wp2_with (first | (go_at_call 64; with_reducible refine (ref_i64_any _ _ _ _).mono ?_; rintro e w' ⟨rfl, hbl⟩; obtain ⟨hc, hf, hz⟩ := cif hbl; (try simp only [World.size_alloc, World.size_setCell, World.size_drew, World.heap_drewN] at hz)) | (go_at_call 67; with_reducible refine (ref_yes_any _ _).mono ?_; rintro e w' ⟨rfl, hbl⟩; obtain ⟨hc, hf, hz⟩ := cif hbl; (try simp only [World.size_alloc, World.size_setCell, World.size_drew, World.heap_drewN] at hz)) | (go_at_call 68; with_reducible refine (compared_any _ _ _ _).mono ?_; rintro e w' ⟨rfl, rfl⟩)))
  all_goals
    refine wp_region_tail 8 (by intro c a d v w h; cases d <;> (simp [Exit.then, Exit.inBlock] at h ⊢; exact h)) (by kernel_rfl) (by kernel_rfl) (by kernel_rfl) (by kernel_rfl) ?_
    apply Exists.intro
    refine ⟨fun m hm => ?_, fun w' hw' => ?_⟩
    · simp only [List.map_cons, List.map_nil, List.take_succ_cons, List.take_zero, deAl]
      repeat (first | go_big_quiet_skip | (go_big_quiet_want; go_big_quiet_op; first | go_big_quiet_on | (apply Exists.intro; refine ⟨fun W hW => ?_, ?_⟩; (focus (first
        | (go_at_call 64; with_reducible refine (ref_i64_any _ _ _ _).mono ?_; rintro e w1 ⟨rfl, hb⟩; exact ⟨rfl, Ext.next hW hb⟩)
          | (go_at_call 38; with_reducible refine (ref_long_any _ _).mono ?_; rintro e w1 ⟨rfl, hb⟩; exact ⟨rfl, Ext.next hW hb⟩)
          | (go_at_call 84; with_reducible refine (ref_ptr_any _ _ _).mono ?_; rintro e w1 ⟨rfl, hb⟩; exact ⟨rfl, Ext.next hW hb⟩)
          | (go_at_call 67; with_reducible refine (ref_yes_any _ _).mono ?_; rintro e w1 ⟨rfl, hb⟩; exact ⟨rfl, Ext.next hW hb⟩)
          | (go_at_call 68; with_reducible refine (compared_any _ _ _ _).mono ?_; rintro e w1 ⟨rfl, rfl⟩; exact ⟨rfl, hW⟩)
        | exact rfl | (obtain ⟨hcW, hfW, hzW⟩ := cif (Ext.of (Ext.past hm hW)); (try simp only [World.size_alloc, World.size_setCell, World.size_drew, World.heap_drewN] at hzW); simp [go_sem, *, ↓IntWalk.iteOmega]; (try exact rfl)))); go_big_quiet_on)))
      exact wpQuiet_nil rfl
    rw [show als _ 0 8 = [] from by kernel_rfl]
    simp only [gEnd, List.drop_succ_cons, List.drop_zero]
    have hbl := Ext.of hw'
    obtain ⟨hc, hf, hz⟩ := cif hbl
    (try simp only [World.size_alloc, World.size_setCell, World.size_drew, World.heap_drewN] at hz)
    clear hw'
    go_wp2_with (first | (go_at_call 64; with_reducible refine (ref_i64_any _ _ _ _).mono ?_; rintro e w' ⟨rfl, hbl⟩; obtain ⟨hc, hf, hz⟩ := cif hbl; (try simp only [World.size_alloc, World.size_setCell, World.size_drew, World.heap_drewN] at hz)) | (go_at_call 67; with_reducible refine (ref_yes_any _ _).mono ?_; rintro e w' ⟨rfl, hbl⟩; obtain ⟨hc, hf, hz⟩ := cif hbl; (try simp only [World.size_alloc, World.size_setCell, World.size_drew, World.heap_drewN] at hz)) | (go_at_call 68; with_reducible refine (compared_any _ _ _ _).mono ?_; rintro e w' ⟨rfl, rfl⟩))
  all_goals (((try simp only [Exit.inBlock, Exit.then]); go_light; refine bodyPost_ret (by simp [results, Try.results61, go_sem, *, ↓IntWalk.iteOmega]; try rfl) rfl ?_); refine ⟨?_, (by (try clear hc hf); (repeat' (first | (with_reducible exact Below.refl _ _) | (with_reducible assumption) | (with_reducible refine Below.setCell ?_ ?_ _) | (with_reducible refine Below.alloc ?_ ?_ _) | (with_reducible refine Below.drew ?_) | (with_reducible refine below_drewN ?_ _) | (with_reducible refine below_next ?_ (by with_reducible assumption)) | omega | (dsimp only; omega) | (simp only [World.size_alloc, World.size_setCell, World.size_drew, World.heap_drewN]; omega))))⟩; first | (simp [HV.out, wrap64_mod, ptrV_eq, c1, Int.add_comm]; done) | (simp [HV.out]; done))
set_option maxRecDepth 100000 in
set_option maxHeartbeats 8000000 in
theorem ref_pl_4 (b1 l1 b2 l2 : Int) (c1 : ¬ l1 = 0) (c3 : (l1 == 0) = false) (hx : U64 b1) (hy : U64 b2) (r : V × Bool) (hv : pointersV 4 ⟨4, b1, l1⟩ ⟨2, b2, l2⟩ = r) (w : World) :
    Calls Try.prog 61 #[.int .i64 4, .agg #[.int .i64 4, .int .u64 b1, .int .i64 l1], .agg #[.int .i64 2, .int .u64 b2, .int .i64 l2]] w fun e w' =>
      e = .returned (.tuple #[.agg #[.int .i64 r.1.k, .int .u64 r.1.b, .int .i64 r.1.l], .bool r.2]) ∧ Below w.heap.size w w' := by
  have hA1 := cell_alloc_if
  have hA2 := frozen_alloc_if
  have hA3 := cell_set_if
  have hv2 := hv.symm
  skip
  simp [pointersV, flagV_eq, undefV, *] at hv2
  have HV := Lib.hid hv2
  clear hv hv2
  go_enter Try.func61, Try.ntmps61
  go_wp2_with (first | (go_at_call 64; with_reducible refine (ref_i64_any _ _ _ _).mono ?_; rintro e w' ⟨rfl, hbl⟩; obtain ⟨hc, hf, hz⟩ := cif hbl; (try simp only [World.size_alloc, World.size_setCell, World.size_drew, World.heap_drewN] at hz)) | (go_at_call 67; with_reducible refine (ref_yes_any _ _).mono ?_; rintro e w' ⟨rfl, hbl⟩; obtain ⟨hc, hf, hz⟩ := cif hbl; (try simp only [World.size_alloc, World.size_setCell, World.size_drew, World.heap_drewN] at hz)) | (go_at_call 68; with_reducible refine (compared_any _ _ _ _).mono ?_; rintro e w' ⟨rfl, rfl⟩))
  go_region
  all_goals (go_wp2_with (first | (go_at_call 64; with_reducible refine (ref_i64_any _ _ _ _).mono ?_; rintro e w' ⟨rfl, hbl⟩; obtain ⟨hc, hf, hz⟩ := cif hbl; (try simp only [World.size_alloc, World.size_setCell, World.size_drew, World.heap_drewN] at hz)) | (go_at_call 67; with_reducible refine (ref_yes_any _ _).mono ?_; rintro e w' ⟨rfl, hbl⟩; obtain ⟨hc, hf, hz⟩ := cif hbl; (try simp only [World.size_alloc, World.size_setCell, World.size_drew, World.heap_drewN] at hz)) | (go_at_call 68; with_reducible refine (compared_any _ _ _ _).mono ?_; rintro e w' ⟨rfl, rfl⟩)))
  all_goals
    refine wp_region_tail 8 (by intro c a d v w h; cases d <;> (simp [Exit.then, Exit.inBlock] at h ⊢; exact h)) (by kernel_rfl) (by kernel_rfl) (by kernel_rfl) (by kernel_rfl) ?_
    apply Exists.intro
    refine ⟨fun m hm => ?_, fun w' hw' => ?_⟩
    · simp only [List.map_cons, List.map_nil, List.take_succ_cons, List.take_zero, deAl]
      repeat (first | go_big_quiet_skip | (go_big_quiet_want; go_big_quiet_op; first | go_big_quiet_on | (apply Exists.intro; refine ⟨fun W hW => ?_, ?_⟩; (focus (first
        | (go_at_call 64; with_reducible refine (ref_i64_any _ _ _ _).mono ?_; rintro e w1 ⟨rfl, hb⟩; exact ⟨rfl, Ext.next hW hb⟩)
          | (go_at_call 38; with_reducible refine (ref_long_any _ _).mono ?_; rintro e w1 ⟨rfl, hb⟩; exact ⟨rfl, Ext.next hW hb⟩)
          | (go_at_call 84; with_reducible refine (ref_ptr_any _ _ _).mono ?_; rintro e w1 ⟨rfl, hb⟩; exact ⟨rfl, Ext.next hW hb⟩)
          | (go_at_call 67; with_reducible refine (ref_yes_any _ _).mono ?_; rintro e w1 ⟨rfl, hb⟩; exact ⟨rfl, Ext.next hW hb⟩)
          | (go_at_call 68; with_reducible refine (compared_any _ _ _ _).mono ?_; rintro e w1 ⟨rfl, rfl⟩; exact ⟨rfl, hW⟩)
        | exact rfl | (obtain ⟨hcW, hfW, hzW⟩ := cif (Ext.of (Ext.past hm hW)); (try simp only [World.size_alloc, World.size_setCell, World.size_drew, World.heap_drewN] at hzW); simp [go_sem, *, ↓IntWalk.iteOmega]; (try exact rfl)))); go_big_quiet_on)))
      exact wpQuiet_nil rfl
    rw [show als _ 0 8 = [] from by kernel_rfl]
    simp only [gEnd, List.drop_succ_cons, List.drop_zero]
    have hbl := Ext.of hw'
    obtain ⟨hc, hf, hz⟩ := cif hbl
    (try simp only [World.size_alloc, World.size_setCell, World.size_drew, World.heap_drewN] at hz)
    clear hw'
    go_wp2_with (first | (go_at_call 64; with_reducible refine (ref_i64_any _ _ _ _).mono ?_; rintro e w' ⟨rfl, hbl⟩; obtain ⟨hc, hf, hz⟩ := cif hbl; (try simp only [World.size_alloc, World.size_setCell, World.size_drew, World.heap_drewN] at hz)) | (go_at_call 67; with_reducible refine (ref_yes_any _ _).mono ?_; rintro e w' ⟨rfl, hbl⟩; obtain ⟨hc, hf, hz⟩ := cif hbl; (try simp only [World.size_alloc, World.size_setCell, World.size_drew, World.heap_drewN] at hz)) | (go_at_call 68; with_reducible refine (compared_any _ _ _ _).mono ?_; rintro e w' ⟨rfl, rfl⟩))
  all_goals (((try simp only [Exit.inBlock, Exit.then]); go_light; refine bodyPost_ret (by simp [results, Try.results61, go_sem, *, ↓IntWalk.iteOmega]; try rfl) rfl ?_); refine ⟨?_, (by (try clear hc hf); (repeat' (first | (with_reducible exact Below.refl _ _) | (with_reducible assumption) | (with_reducible refine Below.setCell ?_ ?_ _) | (with_reducible refine Below.alloc ?_ ?_ _) | (with_reducible refine Below.drew ?_) | (with_reducible refine below_drewN ?_ _) | (with_reducible refine below_next ?_ (by with_reducible assumption)) | omega | (dsimp only; omega) | (simp only [World.size_alloc, World.size_setCell, World.size_drew, World.heap_drewN]; omega))))⟩; first | (simp [HV.out, wrap64_mod, ptrV_eq, c1, Int.add_comm]; done) | (simp [HV.out]; done))
set_option maxRecDepth 100000 in
set_option maxHeartbeats 8000000 in
theorem ref_pl_16 (b1 l1 b2 l2 : Int) (c1 : ¬ l1 = 0) (c3 : (l1 == 0) = false) (c2 : b2 = 0) (hx : U64 b1) (hy : U64 b2) (r : V × Bool) (hv : pointersV 16 ⟨4, b1, l1⟩ ⟨2, b2, l2⟩ = r) (w : World) :
    Calls Try.prog 61 #[.int .i64 16, .agg #[.int .i64 4, .int .u64 b1, .int .i64 l1], .agg #[.int .i64 2, .int .u64 b2, .int .i64 l2]] w fun e w' =>
      e = .returned (.tuple #[.agg #[.int .i64 r.1.k, .int .u64 r.1.b, .int .i64 r.1.l], .bool r.2]) ∧ Below w.heap.size w w' := by
  have hA1 := cell_alloc_if
  have hA2 := frozen_alloc_if
  have hA3 := cell_set_if
  have hv2 := hv.symm
  subst c2
  simp [pointersV, flagV_eq, undefV, *] at hv2
  have HV := Lib.hid hv2
  clear hv hv2
  go_enter Try.func61, Try.ntmps61
  go_wp2_with (first | (go_at_call 64; with_reducible refine (ref_i64_any _ _ _ _).mono ?_; rintro e w' ⟨rfl, hbl⟩; obtain ⟨hc, hf, hz⟩ := cif hbl; (try simp only [World.size_alloc, World.size_setCell, World.size_drew, World.heap_drewN] at hz)) | (go_at_call 67; with_reducible refine (ref_yes_any _ _).mono ?_; rintro e w' ⟨rfl, hbl⟩; obtain ⟨hc, hf, hz⟩ := cif hbl; (try simp only [World.size_alloc, World.size_setCell, World.size_drew, World.heap_drewN] at hz)) | (go_at_call 68; with_reducible refine (compared_any _ _ _ _).mono ?_; rintro e w' ⟨rfl, rfl⟩))
  go_region
  all_goals (go_wp2_with (first | (go_at_call 64; with_reducible refine (ref_i64_any _ _ _ _).mono ?_; rintro e w' ⟨rfl, hbl⟩; obtain ⟨hc, hf, hz⟩ := cif hbl; (try simp only [World.size_alloc, World.size_setCell, World.size_drew, World.heap_drewN] at hz)) | (go_at_call 67; with_reducible refine (ref_yes_any _ _).mono ?_; rintro e w' ⟨rfl, hbl⟩; obtain ⟨hc, hf, hz⟩ := cif hbl; (try simp only [World.size_alloc, World.size_setCell, World.size_drew, World.heap_drewN] at hz)) | (go_at_call 68; with_reducible refine (compared_any _ _ _ _).mono ?_; rintro e w' ⟨rfl, rfl⟩)))
  skip
  all_goals (((try simp only [Exit.inBlock, Exit.then]); go_light; refine bodyPost_ret (by simp [results, Try.results61, go_sem, *, ↓IntWalk.iteOmega]; try rfl) rfl ?_); refine ⟨?_, (by (try clear hc hf); (repeat' (first | (with_reducible exact Below.refl _ _) | (with_reducible assumption) | (with_reducible refine Below.setCell ?_ ?_ _) | (with_reducible refine Below.alloc ?_ ?_ _) | (with_reducible refine Below.drew ?_) | (with_reducible refine below_drewN ?_ _) | (with_reducible refine below_next ?_ (by with_reducible assumption)) | omega | (dsimp only; omega) | (simp only [World.size_alloc, World.size_setCell, World.size_drew, World.heap_drewN]; omega))))⟩; first | (simp [HV.out, wrap64_mod, ptrV_eq, c1, Int.add_comm]; done) | (simp [HV.out]; done))
set_option maxRecDepth 100000 in
set_option maxHeartbeats 8000000 in
theorem ref_pl_17 (b1 l1 b2 l2 : Int) (c1 : ¬ l1 = 0) (c3 : (l1 == 0) = false) (c2 : b2 = 0) (hx : U64 b1) (hy : U64 b2) (r : V × Bool) (hv : pointersV 17 ⟨4, b1, l1⟩ ⟨2, b2, l2⟩ = r) (w : World) :
    Calls Try.prog 61 #[.int .i64 17, .agg #[.int .i64 4, .int .u64 b1, .int .i64 l1], .agg #[.int .i64 2, .int .u64 b2, .int .i64 l2]] w fun e w' =>
      e = .returned (.tuple #[.agg #[.int .i64 r.1.k, .int .u64 r.1.b, .int .i64 r.1.l], .bool r.2]) ∧ Below w.heap.size w w' := by
  have hA1 := cell_alloc_if
  have hA2 := frozen_alloc_if
  have hA3 := cell_set_if
  have hv2 := hv.symm
  subst c2
  simp [pointersV, flagV_eq, undefV, *] at hv2
  have HV := Lib.hid hv2
  clear hv hv2
  go_enter Try.func61, Try.ntmps61
  go_wp2_with (first | (go_at_call 64; with_reducible refine (ref_i64_any _ _ _ _).mono ?_; rintro e w' ⟨rfl, hbl⟩; obtain ⟨hc, hf, hz⟩ := cif hbl; (try simp only [World.size_alloc, World.size_setCell, World.size_drew, World.heap_drewN] at hz)) | (go_at_call 67; with_reducible refine (ref_yes_any _ _).mono ?_; rintro e w' ⟨rfl, hbl⟩; obtain ⟨hc, hf, hz⟩ := cif hbl; (try simp only [World.size_alloc, World.size_setCell, World.size_drew, World.heap_drewN] at hz)) | (go_at_call 68; with_reducible refine (compared_any _ _ _ _).mono ?_; rintro e w' ⟨rfl, rfl⟩))
  go_region
  all_goals (go_wp2_with (first | (go_at_call 64; with_reducible refine (ref_i64_any _ _ _ _).mono ?_; rintro e w' ⟨rfl, hbl⟩; obtain ⟨hc, hf, hz⟩ := cif hbl; (try simp only [World.size_alloc, World.size_setCell, World.size_drew, World.heap_drewN] at hz)) | (go_at_call 67; with_reducible refine (ref_yes_any _ _).mono ?_; rintro e w' ⟨rfl, hbl⟩; obtain ⟨hc, hf, hz⟩ := cif hbl; (try simp only [World.size_alloc, World.size_setCell, World.size_drew, World.heap_drewN] at hz)) | (go_at_call 68; with_reducible refine (compared_any _ _ _ _).mono ?_; rintro e w' ⟨rfl, rfl⟩)))
  skip
  all_goals (((try simp only [Exit.inBlock, Exit.then]); go_light; refine bodyPost_ret (by simp [results, Try.results61, go_sem, *, ↓IntWalk.iteOmega]; try rfl) rfl ?_); refine ⟨?_, (by (try clear hc hf); (repeat' (first | (with_reducible exact Below.refl _ _) | (with_reducible assumption) | (with_reducible refine Below.setCell ?_ ?_ _) | (with_reducible refine Below.alloc ?_ ?_ _) | (with_reducible refine Below.drew ?_) | (with_reducible refine below_drewN ?_ _) | (with_reducible refine below_next ?_ (by with_reducible assumption)) | omega | (dsimp only; omega) | (simp only [World.size_alloc, World.size_setCell, World.size_drew, World.heap_drewN]; omega))))⟩; first | (simp [HV.out, wrap64_mod, ptrV_eq, c1, Int.add_comm]; done) | (simp [HV.out]; done))
set_option maxRecDepth 100000 in
set_option maxHeartbeats 8000000 in
theorem ref_pl_16n (b1 l1 b2 l2 : Int) (c1 : ¬ l1 = 0) (c3 : (l1 == 0) = false) (c2 : ¬ b2 = 0) (c4 : (b2 == 0) = false) (hx : U64 b1) (hy : U64 b2) (r : V × Bool) (hv : pointersV 16 ⟨4, b1, l1⟩ ⟨2, b2, l2⟩ = r) (w : World) :
    Calls Try.prog 61 #[.int .i64 16, .agg #[.int .i64 4, .int .u64 b1, .int .i64 l1], .agg #[.int .i64 2, .int .u64 b2, .int .i64 l2]] w fun e w' =>
      e = .returned (.tuple #[.agg #[.int .i64 r.1.k, .int .u64 r.1.b, .int .i64 r.1.l], .bool r.2]) ∧ Below w.heap.size w w' := by
  have hA1 := cell_alloc_if
  have hA2 := frozen_alloc_if
  have hA3 := cell_set_if
  have hv2 := hv.symm
  skip
  simp [pointersV, flagV_eq, undefV, *] at hv2
  have HV := Lib.hid hv2
  clear hv hv2
  go_enter Try.func61, Try.ntmps61
  go_wp2_with (first | (go_at_call 64; with_reducible refine (ref_i64_any _ _ _ _).mono ?_; rintro e w' ⟨rfl, hbl⟩; obtain ⟨hc, hf, hz⟩ := cif hbl; (try simp only [World.size_alloc, World.size_setCell, World.size_drew, World.heap_drewN] at hz)) | (go_at_call 67; with_reducible refine (ref_yes_any _ _).mono ?_; rintro e w' ⟨rfl, hbl⟩; obtain ⟨hc, hf, hz⟩ := cif hbl; (try simp only [World.size_alloc, World.size_setCell, World.size_drew, World.heap_drewN] at hz)) | (go_at_call 68; with_reducible refine (compared_any _ _ _ _).mono ?_; rintro e w' ⟨rfl, rfl⟩))
  go_region
  all_goals (go_wp2_with (first | (go_at_call 64; with_reducible refine (ref_i64_any _ _ _ _).mono ?_; rintro e w' ⟨rfl, hbl⟩; obtain ⟨hc, hf, hz⟩ := cif hbl; (try simp only [World.size_alloc, World.size_setCell, World.size_drew, World.heap_drewN] at hz)) | (go_at_call 67; with_reducible refine (ref_yes_any _ _).mono ?_; rintro e w' ⟨rfl, hbl⟩; obtain ⟨hc, hf, hz⟩ := cif hbl; (try simp only [World.size_alloc, World.size_setCell, World.size_drew, World.heap_drewN] at hz)) | (go_at_call 68; with_reducible refine (compared_any _ _ _ _).mono ?_; rintro e w' ⟨rfl, rfl⟩)))
  skip
  all_goals (((try simp only [Exit.inBlock, Exit.then]); go_light; refine bodyPost_ret (by simp [results, Try.results61, go_sem, *, ↓IntWalk.iteOmega]; try rfl) rfl ?_); refine ⟨?_, (by (try clear hc hf); (repeat' (first | (with_reducible exact Below.refl _ _) | (with_reducible assumption) | (with_reducible refine Below.setCell ?_ ?_ _) | (with_reducible refine Below.alloc ?_ ?_ _) | (with_reducible refine Below.drew ?_) | (with_reducible refine below_drewN ?_ _) | (with_reducible refine below_next ?_ (by with_reducible assumption)) | omega | (dsimp only; omega) | (simp only [World.size_alloc, World.size_setCell, World.size_drew, World.heap_drewN]; omega))))⟩; first | (simp [HV.out, wrap64_mod, ptrV_eq, c1, Int.add_comm]; done) | (simp [HV.out]; done))
set_option maxRecDepth 100000 in
set_option maxHeartbeats 8000000 in
theorem ref_pl_17n (b1 l1 b2 l2 : Int) (c1 : ¬ l1 = 0) (c3 : (l1 == 0) = false) (c2 : ¬ b2 = 0) (c4 : (b2 == 0) = false) (hx : U64 b1) (hy : U64 b2) (r : V × Bool) (hv : pointersV 17 ⟨4, b1, l1⟩ ⟨2, b2, l2⟩ = r) (w : World) :
    Calls Try.prog 61 #[.int .i64 17, .agg #[.int .i64 4, .int .u64 b1, .int .i64 l1], .agg #[.int .i64 2, .int .u64 b2, .int .i64 l2]] w fun e w' =>
      e = .returned (.tuple #[.agg #[.int .i64 r.1.k, .int .u64 r.1.b, .int .i64 r.1.l], .bool r.2]) ∧ Below w.heap.size w w' := by
  have hA1 := cell_alloc_if
  have hA2 := frozen_alloc_if
  have hA3 := cell_set_if
  have hv2 := hv.symm
  skip
  simp [pointersV, flagV_eq, undefV, *] at hv2
  have HV := Lib.hid hv2
  clear hv hv2
  go_enter Try.func61, Try.ntmps61
  go_wp2_with (first | (go_at_call 64; with_reducible refine (ref_i64_any _ _ _ _).mono ?_; rintro e w' ⟨rfl, hbl⟩; obtain ⟨hc, hf, hz⟩ := cif hbl; (try simp only [World.size_alloc, World.size_setCell, World.size_drew, World.heap_drewN] at hz)) | (go_at_call 67; with_reducible refine (ref_yes_any _ _).mono ?_; rintro e w' ⟨rfl, hbl⟩; obtain ⟨hc, hf, hz⟩ := cif hbl; (try simp only [World.size_alloc, World.size_setCell, World.size_drew, World.heap_drewN] at hz)) | (go_at_call 68; with_reducible refine (compared_any _ _ _ _).mono ?_; rintro e w' ⟨rfl, rfl⟩))
  go_region
  all_goals (go_wp2_with (first | (go_at_call 64; with_reducible refine (ref_i64_any _ _ _ _).mono ?_; rintro e w' ⟨rfl, hbl⟩; obtain ⟨hc, hf, hz⟩ := cif hbl; (try simp only [World.size_alloc, World.size_setCell, World.size_drew, World.heap_drewN] at hz)) | (go_at_call 67; with_reducible refine (ref_yes_any _ _).mono ?_; rintro e w' ⟨rfl, hbl⟩; obtain ⟨hc, hf, hz⟩ := cif hbl; (try simp only [World.size_alloc, World.size_setCell, World.size_drew, World.heap_drewN] at hz)) | (go_at_call 68; with_reducible refine (compared_any _ _ _ _).mono ?_; rintro e w' ⟨rfl, rfl⟩)))
  skip
  all_goals (((try simp only [Exit.inBlock, Exit.then]); go_light; refine bodyPost_ret (by simp [results, Try.results61, go_sem, *, ↓IntWalk.iteOmega]; try rfl) rfl ?_); refine ⟨?_, (by (try clear hc hf); (repeat' (first | (with_reducible exact Below.refl _ _) | (with_reducible assumption) | (with_reducible refine Below.setCell ?_ ?_ _) | (with_reducible refine Below.alloc ?_ ?_ _) | (with_reducible refine Below.drew ?_) | (with_reducible refine below_drewN ?_ _) | (with_reducible refine below_next ?_ (by with_reducible assumption)) | omega | (dsimp only; omega) | (simp only [World.size_alloc, World.size_setCell, World.size_drew, World.heap_drewN]; omega))))⟩; first | (simp [HV.out, wrap64_mod, ptrV_eq, c1, Int.add_comm]; done) | (simp [HV.out]; done))
set_option maxRecDepth 100000 in
set_option maxHeartbeats 8000000 in
theorem ref_pl_n (op b1 l1 b2 l2 : Int) (c1 : ¬ l1 = 0) (c3 : (l1 == 0) = false) (o3 : ¬ op = 3) (o4 : ¬ op = 4) (o5 : ¬ op = 16) (o6 : ¬ op = 17) (o7 : (op == 3) = false) (o8 : (op == 4) = false) (o9 : (op == 16) = false) (o0 : (op == 17) = false) (hx : U64 b1) (hy : U64 b2) (r : V × Bool) (hv : pointersV op ⟨4, b1, l1⟩ ⟨2, b2, l2⟩ = r) (w : World) :
    Calls Try.prog 61 #[.int .i64 op, .agg #[.int .i64 4, .int .u64 b1, .int .i64 l1], .agg #[.int .i64 2, .int .u64 b2, .int .i64 l2]] w fun e w' =>
      e = .returned (.tuple #[.agg #[.int .i64 r.1.k, .int .u64 r.1.b, .int .i64 r.1.l], .bool r.2]) ∧ Below w.heap.size w w' := by
  have hA1 := cell_alloc_if
  have hA2 := frozen_alloc_if
  have hA3 := cell_set_if
  have hv2 := hv.symm
  skip
  simp [pointersV, flagV_eq, undefV, *] at hv2
  have HV := Lib.hid hv2
  clear hv hv2
  go_enter Try.func61, Try.ntmps61
  go_wp2_with (first | (go_at_call 64; with_reducible refine (ref_i64_any _ _ _ _).mono ?_; rintro e w' ⟨rfl, hbl⟩; obtain ⟨hc, hf, hz⟩ := cif hbl; (try simp only [World.size_alloc, World.size_setCell, World.size_drew, World.heap_drewN] at hz)) | (go_at_call 67; with_reducible refine (ref_yes_any _ _).mono ?_; rintro e w' ⟨rfl, hbl⟩; obtain ⟨hc, hf, hz⟩ := cif hbl; (try simp only [World.size_alloc, World.size_setCell, World.size_drew, World.heap_drewN] at hz)) | (go_at_call 68; with_reducible refine (compared_any _ _ _ _).mono ?_; rintro e w' ⟨rfl, rfl⟩))
  go_region
  all_goals (go_wp2_with (first | (go_at_call 64; with_reducible refine (ref_i64_any _ _ _ _).mono ?_; rintro e w' ⟨rfl, hbl⟩; obtain ⟨hc, hf, hz⟩ := cif hbl; (try simp only [World.size_alloc, World.size_setCell, World.size_drew, World.heap_drewN] at hz)) | (go_at_call 67; with_reducible refine (ref_yes_any _ _).mono ?_; rintro e w' ⟨rfl, hbl⟩; obtain ⟨hc, hf, hz⟩ := cif hbl; (try simp only [World.size_alloc, World.size_setCell, World.size_drew, World.heap_drewN] at hz)) | (go_at_call 68; with_reducible refine (compared_any _ _ _ _).mono ?_; rintro e w' ⟨rfl, rfl⟩)))
  skip
  all_goals (((try simp only [Exit.inBlock, Exit.then]); go_light; refine bodyPost_ret (by simp [results, Try.results61, go_sem, *, ↓IntWalk.iteOmega]; try rfl) rfl ?_); refine ⟨?_, (by (try clear hc hf); (repeat' (first | (with_reducible exact Below.refl _ _) | (with_reducible assumption) | (with_reducible refine Below.setCell ?_ ?_ _) | (with_reducible refine Below.alloc ?_ ?_ _) | (with_reducible refine Below.drew ?_) | (with_reducible refine below_drewN ?_ _) | (with_reducible refine below_next ?_ (by with_reducible assumption)) | omega | (dsimp only; omega) | (simp only [World.size_alloc, World.size_setCell, World.size_drew, World.heap_drewN]; omega))))⟩; first | (simp [HV.out, wrap64_mod, ptrV_eq, c1, Int.add_comm]; done) | (simp [HV.out]; done))
set_option maxRecDepth 100000 in
set_option maxHeartbeats 8000000 in
theorem ref_lp_3 (b1 l1 b2 l2 : Int) (c1 : ¬ l2 = 0) (c3 : (l2 == 0) = false) (hx : U64 b1) (hy : U64 b2) (r : V × Bool) (hv : pointersV 3 ⟨2, b1, l1⟩ ⟨4, b2, l2⟩ = r) (w : World) :
    Calls Try.prog 61 #[.int .i64 3, .agg #[.int .i64 2, .int .u64 b1, .int .i64 l1], .agg #[.int .i64 4, .int .u64 b2, .int .i64 l2]] w fun e w' =>
      e = .returned (.tuple #[.agg #[.int .i64 r.1.k, .int .u64 r.1.b, .int .i64 r.1.l], .bool r.2]) ∧ Below w.heap.size w w' := by
  have hA1 := cell_alloc_if
  have hA2 := frozen_alloc_if
  have hA3 := cell_set_if
  have hv2 := hv.symm
  skip
  simp [pointersV, flagV_eq, undefV, *] at hv2
  have HV := Lib.hid hv2
  clear hv hv2
  go_enter Try.func61, Try.ntmps61
  go_wp2_with (first | (go_at_call 64; with_reducible refine (ref_i64_any _ _ _ _).mono ?_; rintro e w' ⟨rfl, hbl⟩; obtain ⟨hc, hf, hz⟩ := cif hbl; (try simp only [World.size_alloc, World.size_setCell, World.size_drew, World.heap_drewN] at hz)) | (go_at_call 67; with_reducible refine (ref_yes_any _ _).mono ?_; rintro e w' ⟨rfl, hbl⟩; obtain ⟨hc, hf, hz⟩ := cif hbl; (try simp only [World.size_alloc, World.size_setCell, World.size_drew, World.heap_drewN] at hz)) | (go_at_call 68; with_reducible refine (compared_any _ _ _ _).mono ?_; rintro e w' ⟨rfl, rfl⟩))
  go_region
  all_goals (go_wp2_with (first | (go_at_call 64; with_reducible refine (ref_i64_any _ _ _ _).mono ?_; rintro e w' ⟨rfl, hbl⟩; obtain ⟨hc, hf, hz⟩ := cif hbl; (try simp only [World.size_alloc, World.size_setCell, World.size_drew, World.heap_drewN] at hz)) | (go_at_call 67; with_reducible refine (ref_yes_any _ _).mono ?_; rintro e w' ⟨rfl, hbl⟩; obtain ⟨hc, hf, hz⟩ := cif hbl; (try simp only [World.size_alloc, World.size_setCell, World.size_drew, World.heap_drewN] at hz)) | (go_at_call 68; with_reducible refine (compared_any _ _ _ _).mono ?_; rintro e w' ⟨rfl, rfl⟩)))
  all_goals (go_region)
  all_goals (go_wp2_with (first | (go_at_call 64; with_reducible refine (ref_i64_any _ _ _ _).mono ?_; rintro e w' ⟨rfl, hbl⟩; obtain ⟨hc, hf, hz⟩ := cif hbl; (try simp only [World.size_alloc, World.size_setCell, World.size_drew, World.heap_drewN] at hz)) | (go_at_call 67; with_reducible refine (ref_yes_any _ _).mono ?_; rintro e w' ⟨rfl, hbl⟩; obtain ⟨hc, hf, hz⟩ := cif hbl; (try simp only [World.size_alloc, World.size_setCell, World.size_drew, World.heap_drewN] at hz)) | (go_at_call 68; with_reducible refine (compared_any _ _ _ _).mono ?_; rintro e w' ⟨rfl, rfl⟩)))
  all_goals
    refine wp_region_tail 8 (by intro c a d v w h; cases d <;> (simp [Exit.then, Exit.inBlock] at h ⊢; exact h)) (by kernel_rfl) (by kernel_rfl) (by kernel_rfl) (by kernel_rfl) ?_
    apply Exists.intro
    refine ⟨fun m hm => ?_, fun w' hw' => ?_⟩
    · simp only [List.map_cons, List.map_nil, List.take_succ_cons, List.take_zero, deAl]
      repeat (first | go_big_quiet_skip | (go_big_quiet_want; go_big_quiet_op; first | go_big_quiet_on | (apply Exists.intro; refine ⟨fun W hW => ?_, ?_⟩; (focus (first
        | (go_at_call 64; with_reducible refine (ref_i64_any _ _ _ _).mono ?_; rintro e w1 ⟨rfl, hb⟩; exact ⟨rfl, Ext.next hW hb⟩)
          | (go_at_call 38; with_reducible refine (ref_long_any _ _).mono ?_; rintro e w1 ⟨rfl, hb⟩; exact ⟨rfl, Ext.next hW hb⟩)
          | (go_at_call 84; with_reducible refine (ref_ptr_any _ _ _).mono ?_; rintro e w1 ⟨rfl, hb⟩; exact ⟨rfl, Ext.next hW hb⟩)
          | (go_at_call 67; with_reducible refine (ref_yes_any _ _).mono ?_; rintro e w1 ⟨rfl, hb⟩; exact ⟨rfl, Ext.next hW hb⟩)
          | (go_at_call 68; with_reducible refine (compared_any _ _ _ _).mono ?_; rintro e w1 ⟨rfl, rfl⟩; exact ⟨rfl, hW⟩)
        | exact rfl | (obtain ⟨hcW, hfW, hzW⟩ := cif (Ext.of (Ext.past hm hW)); (try simp only [World.size_alloc, World.size_setCell, World.size_drew, World.heap_drewN] at hzW); simp [go_sem, *, ↓IntWalk.iteOmega]; (try exact rfl)))); go_big_quiet_on)))
      exact wpQuiet_nil rfl
    rw [show als _ 0 8 = [] from by kernel_rfl]
    simp only [gEnd, List.drop_succ_cons, List.drop_zero]
    have hbl := Ext.of hw'
    obtain ⟨hc, hf, hz⟩ := cif hbl
    (try simp only [World.size_alloc, World.size_setCell, World.size_drew, World.heap_drewN] at hz)
    clear hw'
    go_wp2_with (first | (go_at_call 64; with_reducible refine (ref_i64_any _ _ _ _).mono ?_; rintro e w' ⟨rfl, hbl⟩; obtain ⟨hc, hf, hz⟩ := cif hbl; (try simp only [World.size_alloc, World.size_setCell, World.size_drew, World.heap_drewN] at hz)) | (go_at_call 67; with_reducible refine (ref_yes_any _ _).mono ?_; rintro e w' ⟨rfl, hbl⟩; obtain ⟨hc, hf, hz⟩ := cif hbl; (try simp only [World.size_alloc, World.size_setCell, World.size_drew, World.heap_drewN] at hz)) | (go_at_call 68; with_reducible refine (compared_any _ _ _ _).mono ?_; rintro e w' ⟨rfl, rfl⟩))
  all_goals (((try simp only [Exit.inBlock, Exit.then]); go_light; refine bodyPost_ret (by simp [results, Try.results61, go_sem, *, ↓IntWalk.iteOmega]; try rfl) rfl ?_); refine ⟨?_, (by (try clear hc hf); (repeat' (first | (with_reducible exact Below.refl _ _) | (with_reducible assumption) | (with_reducible refine Below.setCell ?_ ?_ _) | (with_reducible refine Below.alloc ?_ ?_ _) | (with_reducible refine Below.drew ?_) | (with_reducible refine below_drewN ?_ _) | (with_reducible refine below_next ?_ (by with_reducible assumption)) | omega | (dsimp only; omega) | (simp only [World.size_alloc, World.size_setCell, World.size_drew, World.heap_drewN]; omega))))⟩; first | (simp [HV.out, wrap64_mod, ptrV_eq, c1, Int.add_comm]; done) | (simp [HV.out]; done))
set_option maxRecDepth 100000 in
set_option maxHeartbeats 8000000 in
theorem ref_lp_16 (b1 l1 b2 l2 : Int) (c1 : ¬ l2 = 0) (c3 : (l2 == 0) = false) (c2 : b1 = 0) (hx : U64 b1) (hy : U64 b2) (r : V × Bool) (hv : pointersV 16 ⟨2, b1, l1⟩ ⟨4, b2, l2⟩ = r) (w : World) :
    Calls Try.prog 61 #[.int .i64 16, .agg #[.int .i64 2, .int .u64 b1, .int .i64 l1], .agg #[.int .i64 4, .int .u64 b2, .int .i64 l2]] w fun e w' =>
      e = .returned (.tuple #[.agg #[.int .i64 r.1.k, .int .u64 r.1.b, .int .i64 r.1.l], .bool r.2]) ∧ Below w.heap.size w w' := by
  have hA1 := cell_alloc_if
  have hA2 := frozen_alloc_if
  have hA3 := cell_set_if
  have hv2 := hv.symm
  subst c2
  simp [pointersV, flagV_eq, undefV, *] at hv2
  have HV := Lib.hid hv2
  clear hv hv2
  go_enter Try.func61, Try.ntmps61
  go_wp2_with (first | (go_at_call 64; with_reducible refine (ref_i64_any _ _ _ _).mono ?_; rintro e w' ⟨rfl, hbl⟩; obtain ⟨hc, hf, hz⟩ := cif hbl; (try simp only [World.size_alloc, World.size_setCell, World.size_drew, World.heap_drewN] at hz)) | (go_at_call 67; with_reducible refine (ref_yes_any _ _).mono ?_; rintro e w' ⟨rfl, hbl⟩; obtain ⟨hc, hf, hz⟩ := cif hbl; (try simp only [World.size_alloc, World.size_setCell, World.size_drew, World.heap_drewN] at hz)) | (go_at_call 68; with_reducible refine (compared_any _ _ _ _).mono ?_; rintro e w' ⟨rfl, rfl⟩))
  go_region
  all_goals (go_wp2_with (first | (go_at_call 64; with_reducible refine (ref_i64_any _ _ _ _).mono ?_; rintro e w' ⟨rfl, hbl⟩; obtain ⟨hc, hf, hz⟩ := cif hbl; (try simp only [World.size_alloc, World.size_setCell, World.size_drew, World.heap_drewN] at hz)) | (go_at_call 67; with_reducible refine (ref_yes_any _ _).mono ?_; rintro e w' ⟨rfl, hbl⟩; obtain ⟨hc, hf, hz⟩ := cif hbl; (try simp only [World.size_alloc, World.size_setCell, World.size_drew, World.heap_drewN] at hz)) | (go_at_call 68; with_reducible refine (compared_any _ _ _ _).mono ?_; rintro e w' ⟨rfl, rfl⟩)))
  all_goals (go_region)
  all_goals (go_wp2_with (first | (go_at_call 64; with_reducible refine (ref_i64_any _ _ _ _).mono ?_; rintro e w' ⟨rfl, hbl⟩; obtain ⟨hc, hf, hz⟩ := cif hbl; (try simp only [World.size_alloc, World.size_setCell, World.size_drew, World.heap_drewN] at hz)) | (go_at_call 67; with_reducible refine (ref_yes_any _ _).mono ?_; rintro e w' ⟨rfl, hbl⟩; obtain ⟨hc, hf, hz⟩ := cif hbl; (try simp only [World.size_alloc, World.size_setCell, World.size_drew, World.heap_drewN] at hz)) | (go_at_call 68; with_reducible refine (compared_any _ _ _ _).mono ?_; rintro e w' ⟨rfl, rfl⟩)))
  skip
  all_goals (((try simp only [Exit.inBlock, Exit.then]); go_light; refine bodyPost_ret (by simp [results, Try.results61, go_sem, *, ↓IntWalk.iteOmega]; try rfl) rfl ?_); refine ⟨?_, (by (try clear hc hf); (repeat' (first | (with_reducible exact Below.refl _ _) | (with_reducible assumption) | (with_reducible refine Below.setCell ?_ ?_ _) | (with_reducible refine Below.alloc ?_ ?_ _) | (with_reducible refine Below.drew ?_) | (with_reducible refine below_drewN ?_ _) | (with_reducible refine below_next ?_ (by with_reducible assumption)) | omega | (dsimp only; omega) | (simp only [World.size_alloc, World.size_setCell, World.size_drew, World.heap_drewN]; omega))))⟩; first | (simp [HV.out, wrap64_mod, ptrV_eq, c1, Int.add_comm]; done) | (simp [HV.out]; done))
set_option maxRecDepth 100000 in
set_option maxHeartbeats 8000000 in
theorem ref_lp_17 (b1 l1 b2 l2 : Int) (c1 : ¬ l2 = 0) (c3 : (l2 == 0) = false) (c2 : b1 = 0) (hx : U64 b1) (hy : U64 b2) (r : V × Bool) (hv : pointersV 17 ⟨2, b1, l1⟩ ⟨4, b2, l2⟩ = r) (w : World) :
    Calls Try.prog 61 #[.int .i64 17, .agg #[.int .i64 2, .int .u64 b1, .int .i64 l1], .agg #[.int .i64 4, .int .u64 b2, .int .i64 l2]] w fun e w' =>
      e = .returned (.tuple #[.agg #[.int .i64 r.1.k, .int .u64 r.1.b, .int .i64 r.1.l], .bool r.2]) ∧ Below w.heap.size w w' := by
  have hA1 := cell_alloc_if
  have hA2 := frozen_alloc_if
  have hA3 := cell_set_if
  have hv2 := hv.symm
  subst c2
  simp [pointersV, flagV_eq, undefV, *] at hv2
  have HV := Lib.hid hv2
  clear hv hv2
  go_enter Try.func61, Try.ntmps61
  go_wp2_with (first | (go_at_call 64; with_reducible refine (ref_i64_any _ _ _ _).mono ?_; rintro e w' ⟨rfl, hbl⟩; obtain ⟨hc, hf, hz⟩ := cif hbl; (try simp only [World.size_alloc, World.size_setCell, World.size_drew, World.heap_drewN] at hz)) | (go_at_call 67; with_reducible refine (ref_yes_any _ _).mono ?_; rintro e w' ⟨rfl, hbl⟩; obtain ⟨hc, hf, hz⟩ := cif hbl; (try simp only [World.size_alloc, World.size_setCell, World.size_drew, World.heap_drewN] at hz)) | (go_at_call 68; with_reducible refine (compared_any _ _ _ _).mono ?_; rintro e w' ⟨rfl, rfl⟩))
  go_region
  all_goals (go_wp2_with (first | (go_at_call 64; with_reducible refine (ref_i64_any _ _ _ _).mono ?_; rintro e w' ⟨rfl, hbl⟩; obtain ⟨hc, hf, hz⟩ := cif hbl; (try simp only [World.size_alloc, World.size_setCell, World.size_drew, World.heap_drewN] at hz)) | (go_at_call 67; with_reducible refine (ref_yes_any _ _).mono ?_; rintro e w' ⟨rfl, hbl⟩; obtain ⟨hc, hf, hz⟩ := cif hbl; (try simp only [World.size_alloc, World.size_setCell, World.size_drew, World.heap_drewN] at hz)) | (go_at_call 68; with_reducible refine (compared_any _ _ _ _).mono ?_; rintro e w' ⟨rfl, rfl⟩)))
  all_goals (go_region)
  all_goals (go_wp2_with (first | (go_at_call 64; with_reducible refine (ref_i64_any _ _ _ _).mono ?_; rintro e w' ⟨rfl, hbl⟩; obtain ⟨hc, hf, hz⟩ := cif hbl; (try simp only [World.size_alloc, World.size_setCell, World.size_drew, World.heap_drewN] at hz)) | (go_at_call 67; with_reducible refine (ref_yes_any _ _).mono ?_; rintro e w' ⟨rfl, hbl⟩; obtain ⟨hc, hf, hz⟩ := cif hbl; (try simp only [World.size_alloc, World.size_setCell, World.size_drew, World.heap_drewN] at hz)) | (go_at_call 68; with_reducible refine (compared_any _ _ _ _).mono ?_; rintro e w' ⟨rfl, rfl⟩)))
  skip
  all_goals (((try simp only [Exit.inBlock, Exit.then]); go_light; refine bodyPost_ret (by simp [results, Try.results61, go_sem, *, ↓IntWalk.iteOmega]; try rfl) rfl ?_); refine ⟨?_, (by (try clear hc hf); (repeat' (first | (with_reducible exact Below.refl _ _) | (with_reducible assumption) | (with_reducible refine Below.setCell ?_ ?_ _) | (with_reducible refine Below.alloc ?_ ?_ _) | (with_reducible refine Below.drew ?_) | (with_reducible refine below_drewN ?_ _) | (with_reducible refine below_next ?_ (by with_reducible assumption)) | omega | (dsimp only; omega) | (simp only [World.size_alloc, World.size_setCell, World.size_drew, World.heap_drewN]; omega))))⟩; first | (simp [HV.out, wrap64_mod, ptrV_eq, c1, Int.add_comm]; done) | (simp [HV.out]; done))
set_option maxRecDepth 100000 in
set_option maxHeartbeats 8000000 in
theorem ref_lp_16n (b1 l1 b2 l2 : Int) (c1 : ¬ l2 = 0) (c3 : (l2 == 0) = false) (c2 : ¬ b1 = 0) (c4 : (b1 == 0) = false) (hx : U64 b1) (hy : U64 b2) (r : V × Bool) (hv : pointersV 16 ⟨2, b1, l1⟩ ⟨4, b2, l2⟩ = r) (w : World) :
    Calls Try.prog 61 #[.int .i64 16, .agg #[.int .i64 2, .int .u64 b1, .int .i64 l1], .agg #[.int .i64 4, .int .u64 b2, .int .i64 l2]] w fun e w' =>
      e = .returned (.tuple #[.agg #[.int .i64 r.1.k, .int .u64 r.1.b, .int .i64 r.1.l], .bool r.2]) ∧ Below w.heap.size w w' := by
  have hA1 := cell_alloc_if
  have hA2 := frozen_alloc_if
  have hA3 := cell_set_if
  have hv2 := hv.symm
  skip
  simp [pointersV, flagV_eq, undefV, *] at hv2
  have HV := Lib.hid hv2
  clear hv hv2
  go_enter Try.func61, Try.ntmps61
  go_wp2_with (first | (go_at_call 64; with_reducible refine (ref_i64_any _ _ _ _).mono ?_; rintro e w' ⟨rfl, hbl⟩; obtain ⟨hc, hf, hz⟩ := cif hbl; (try simp only [World.size_alloc, World.size_setCell, World.size_drew, World.heap_drewN] at hz)) | (go_at_call 67; with_reducible refine (ref_yes_any _ _).mono ?_; rintro e w' ⟨rfl, hbl⟩; obtain ⟨hc, hf, hz⟩ := cif hbl; (try simp only [World.size_alloc, World.size_setCell, World.size_drew, World.heap_drewN] at hz)) | (go_at_call 68; with_reducible refine (compared_any _ _ _ _).mono ?_; rintro e w' ⟨rfl, rfl⟩))
  go_region
  all_goals (go_wp2_with (first | (go_at_call 64; with_reducible refine (ref_i64_any _ _ _ _).mono ?_; rintro e w' ⟨rfl, hbl⟩; obtain ⟨hc, hf, hz⟩ := cif hbl; (try simp only [World.size_alloc, World.size_setCell, World.size_drew, World.heap_drewN] at hz)) | (go_at_call 67; with_reducible refine (ref_yes_any _ _).mono ?_; rintro e w' ⟨rfl, hbl⟩; obtain ⟨hc, hf, hz⟩ := cif hbl; (try simp only [World.size_alloc, World.size_setCell, World.size_drew, World.heap_drewN] at hz)) | (go_at_call 68; with_reducible refine (compared_any _ _ _ _).mono ?_; rintro e w' ⟨rfl, rfl⟩)))
  all_goals (go_region)
  all_goals (go_wp2_with (first | (go_at_call 64; with_reducible refine (ref_i64_any _ _ _ _).mono ?_; rintro e w' ⟨rfl, hbl⟩; obtain ⟨hc, hf, hz⟩ := cif hbl; (try simp only [World.size_alloc, World.size_setCell, World.size_drew, World.heap_drewN] at hz)) | (go_at_call 67; with_reducible refine (ref_yes_any _ _).mono ?_; rintro e w' ⟨rfl, hbl⟩; obtain ⟨hc, hf, hz⟩ := cif hbl; (try simp only [World.size_alloc, World.size_setCell, World.size_drew, World.heap_drewN] at hz)) | (go_at_call 68; with_reducible refine (compared_any _ _ _ _).mono ?_; rintro e w' ⟨rfl, rfl⟩)))
  skip
  all_goals (((try simp only [Exit.inBlock, Exit.then]); go_light; refine bodyPost_ret (by simp [results, Try.results61, go_sem, *, ↓IntWalk.iteOmega]; try rfl) rfl ?_); refine ⟨?_, (by (try clear hc hf); (repeat' (first | (with_reducible exact Below.refl _ _) | (with_reducible assumption) | (with_reducible refine Below.setCell ?_ ?_ _) | (with_reducible refine Below.alloc ?_ ?_ _) | (with_reducible refine Below.drew ?_) | (with_reducible refine below_drewN ?_ _) | (with_reducible refine below_next ?_ (by with_reducible assumption)) | omega | (dsimp only; omega) | (simp only [World.size_alloc, World.size_setCell, World.size_drew, World.heap_drewN]; omega))))⟩; first | (simp [HV.out, wrap64_mod, ptrV_eq, c1, Int.add_comm]; done) | (simp [HV.out]; done))
set_option maxRecDepth 100000 in
set_option maxHeartbeats 8000000 in
theorem ref_lp_17n (b1 l1 b2 l2 : Int) (c1 : ¬ l2 = 0) (c3 : (l2 == 0) = false) (c2 : ¬ b1 = 0) (c4 : (b1 == 0) = false) (hx : U64 b1) (hy : U64 b2) (r : V × Bool) (hv : pointersV 17 ⟨2, b1, l1⟩ ⟨4, b2, l2⟩ = r) (w : World) :
    Calls Try.prog 61 #[.int .i64 17, .agg #[.int .i64 2, .int .u64 b1, .int .i64 l1], .agg #[.int .i64 4, .int .u64 b2, .int .i64 l2]] w fun e w' =>
      e = .returned (.tuple #[.agg #[.int .i64 r.1.k, .int .u64 r.1.b, .int .i64 r.1.l], .bool r.2]) ∧ Below w.heap.size w w' := by
  have hA1 := cell_alloc_if
  have hA2 := frozen_alloc_if
  have hA3 := cell_set_if
  have hv2 := hv.symm
  skip
  simp [pointersV, flagV_eq, undefV, *] at hv2
  have HV := Lib.hid hv2
  clear hv hv2
  go_enter Try.func61, Try.ntmps61
  go_wp2_with (first | (go_at_call 64; with_reducible refine (ref_i64_any _ _ _ _).mono ?_; rintro e w' ⟨rfl, hbl⟩; obtain ⟨hc, hf, hz⟩ := cif hbl; (try simp only [World.size_alloc, World.size_setCell, World.size_drew, World.heap_drewN] at hz)) | (go_at_call 67; with_reducible refine (ref_yes_any _ _).mono ?_; rintro e w' ⟨rfl, hbl⟩; obtain ⟨hc, hf, hz⟩ := cif hbl; (try simp only [World.size_alloc, World.size_setCell, World.size_drew, World.heap_drewN] at hz)) | (go_at_call 68; with_reducible refine (compared_any _ _ _ _).mono ?_; rintro e w' ⟨rfl, rfl⟩))
  go_region
  all_goals (go_wp2_with (first | (go_at_call 64; with_reducible refine (ref_i64_any _ _ _ _).mono ?_; rintro e w' ⟨rfl, hbl⟩; obtain ⟨hc, hf, hz⟩ := cif hbl; (try simp only [World.size_alloc, World.size_setCell, World.size_drew, World.heap_drewN] at hz)) | (go_at_call 67; with_reducible refine (ref_yes_any _ _).mono ?_; rintro e w' ⟨rfl, hbl⟩; obtain ⟨hc, hf, hz⟩ := cif hbl; (try simp only [World.size_alloc, World.size_setCell, World.size_drew, World.heap_drewN] at hz)) | (go_at_call 68; with_reducible refine (compared_any _ _ _ _).mono ?_; rintro e w' ⟨rfl, rfl⟩)))
  all_goals (go_region)
  all_goals (go_wp2_with (first | (go_at_call 64; with_reducible refine (ref_i64_any _ _ _ _).mono ?_; rintro e w' ⟨rfl, hbl⟩; obtain ⟨hc, hf, hz⟩ := cif hbl; (try simp only [World.size_alloc, World.size_setCell, World.size_drew, World.heap_drewN] at hz)) | (go_at_call 67; with_reducible refine (ref_yes_any _ _).mono ?_; rintro e w' ⟨rfl, hbl⟩; obtain ⟨hc, hf, hz⟩ := cif hbl; (try simp only [World.size_alloc, World.size_setCell, World.size_drew, World.heap_drewN] at hz)) | (go_at_call 68; with_reducible refine (compared_any _ _ _ _).mono ?_; rintro e w' ⟨rfl, rfl⟩)))
  skip
  all_goals (((try simp only [Exit.inBlock, Exit.then]); go_light; refine bodyPost_ret (by simp [results, Try.results61, go_sem, *, ↓IntWalk.iteOmega]; try rfl) rfl ?_); refine ⟨?_, (by (try clear hc hf); (repeat' (first | (with_reducible exact Below.refl _ _) | (with_reducible assumption) | (with_reducible refine Below.setCell ?_ ?_ _) | (with_reducible refine Below.alloc ?_ ?_ _) | (with_reducible refine Below.drew ?_) | (with_reducible refine below_drewN ?_ _) | (with_reducible refine below_next ?_ (by with_reducible assumption)) | omega | (dsimp only; omega) | (simp only [World.size_alloc, World.size_setCell, World.size_drew, World.heap_drewN]; omega))))⟩; first | (simp [HV.out, wrap64_mod, ptrV_eq, c1, Int.add_comm]; done) | (simp [HV.out]; done))
set_option maxRecDepth 100000 in
set_option maxHeartbeats 8000000 in
theorem ref_lp_n (op b1 l1 b2 l2 : Int) (c1 : ¬ l2 = 0) (c3 : (l2 == 0) = false) (o3 : ¬ op = 3) (o5 : ¬ op = 16) (o6 : ¬ op = 17) (o7 : (op == 3) = false) (o9 : (op == 16) = false) (o0 : (op == 17) = false) (hx : U64 b1) (hy : U64 b2) (r : V × Bool) (hv : pointersV op ⟨2, b1, l1⟩ ⟨4, b2, l2⟩ = r) (w : World) :
    Calls Try.prog 61 #[.int .i64 op, .agg #[.int .i64 2, .int .u64 b1, .int .i64 l1], .agg #[.int .i64 4, .int .u64 b2, .int .i64 l2]] w fun e w' =>
      e = .returned (.tuple #[.agg #[.int .i64 r.1.k, .int .u64 r.1.b, .int .i64 r.1.l], .bool r.2]) ∧ Below w.heap.size w w' := by
  have hA1 := cell_alloc_if
  have hA2 := frozen_alloc_if
  have hA3 := cell_set_if
  have hv2 := hv.symm
  skip
  simp [pointersV, flagV_eq, undefV, *] at hv2
  have HV := Lib.hid hv2
  clear hv hv2
  go_enter Try.func61, Try.ntmps61
  go_wp2_with (first | (go_at_call 64; with_reducible refine (ref_i64_any _ _ _ _).mono ?_; rintro e w' ⟨rfl, hbl⟩; obtain ⟨hc, hf, hz⟩ := cif hbl; (try simp only [World.size_alloc, World.size_setCell, World.size_drew, World.heap_drewN] at hz)) | (go_at_call 67; with_reducible refine (ref_yes_any _ _).mono ?_; rintro e w' ⟨rfl, hbl⟩; obtain ⟨hc, hf, hz⟩ := cif hbl; (try simp only [World.size_alloc, World.size_setCell, World.size_drew, World.heap_drewN] at hz)) | (go_at_call 68; with_reducible refine (compared_any _ _ _ _).mono ?_; rintro e w' ⟨rfl, rfl⟩))
  go_region
  all_goals (go_wp2_with (first | (go_at_call 64; with_reducible refine (ref_i64_any _ _ _ _).mono ?_; rintro e w' ⟨rfl, hbl⟩; obtain ⟨hc, hf, hz⟩ := cif hbl; (try simp only [World.size_alloc, World.size_setCell, World.size_drew, World.heap_drewN] at hz)) | (go_at_call 67; with_reducible refine (ref_yes_any _ _).mono ?_; rintro e w' ⟨rfl, hbl⟩; obtain ⟨hc, hf, hz⟩ := cif hbl; (try simp only [World.size_alloc, World.size_setCell, World.size_drew, World.heap_drewN] at hz)) | (go_at_call 68; with_reducible refine (compared_any _ _ _ _).mono ?_; rintro e w' ⟨rfl, rfl⟩)))
  all_goals (go_region)
  all_goals (go_wp2_with (first | (go_at_call 64; with_reducible refine (ref_i64_any _ _ _ _).mono ?_; rintro e w' ⟨rfl, hbl⟩; obtain ⟨hc, hf, hz⟩ := cif hbl; (try simp only [World.size_alloc, World.size_setCell, World.size_drew, World.heap_drewN] at hz)) | (go_at_call 67; with_reducible refine (ref_yes_any _ _).mono ?_; rintro e w' ⟨rfl, hbl⟩; obtain ⟨hc, hf, hz⟩ := cif hbl; (try simp only [World.size_alloc, World.size_setCell, World.size_drew, World.heap_drewN] at hz)) | (go_at_call 68; with_reducible refine (compared_any _ _ _ _).mono ?_; rintro e w' ⟨rfl, rfl⟩)))
  skip
  all_goals (((try simp only [Exit.inBlock, Exit.then]); go_light; refine bodyPost_ret (by simp [results, Try.results61, go_sem, *, ↓IntWalk.iteOmega]; try rfl) rfl ?_); refine ⟨?_, (by (try clear hc hf); (repeat' (first | (with_reducible exact Below.refl _ _) | (with_reducible assumption) | (with_reducible refine Below.setCell ?_ ?_ _) | (with_reducible refine Below.alloc ?_ ?_ _) | (with_reducible refine Below.drew ?_) | (with_reducible refine below_drewN ?_ _) | (with_reducible refine below_next ?_ (by with_reducible assumption)) | omega | (dsimp only; omega) | (simp only [World.size_alloc, World.size_setCell, World.size_drew, World.heap_drewN]; omega))))⟩; first | (simp [HV.out, wrap64_mod, ptrV_eq, c1, Int.add_comm]; done) | (simp [HV.out]; done))
set_option maxRecDepth 100000 in
set_option maxHeartbeats 8000000 in
theorem ref_po (op k b1 l1 b2 l2 : Int) (c1 : ¬ l1 = 0) (c3 : (l1 == 0) = false) (k2 : ¬ k = 2) (k4 : ¬ k = 4) (k5 : (k == 2) = false) (k6 : (k != 2) = true) (k7 : (k == 4) = false) (hx : U64 b1) (hy : U64 b2) (r : V × Bool) (hv : pointersV op ⟨4, b1, l1⟩ ⟨k, b2, l2⟩ = r) (w : World) :
    Calls Try.prog 61 #[.int .i64 op, .agg #[.int .i64 4, .int .u64 b1, .int .i64 l1], .agg #[.int .i64 k, .int .u64 b2, .int .i64 l2]] w fun e w' =>
      e = .returned (.tuple #[.agg #[.int .i64 r.1.k, .int .u64 r.1.b, .int .i64 r.1.l], .bool r.2]) ∧ Below w.heap.size w w' := by
  have hA1 := cell_alloc_if
  have hA2 := frozen_alloc_if
  have hA3 := cell_set_if
  have hv2 := hv.symm
  skip
  simp [pointersV, flagV_eq, undefV, *] at hv2
  have HV := Lib.hid hv2
  clear hv hv2
  go_enter Try.func61, Try.ntmps61
  go_wp2_with (first | (go_at_call 64; with_reducible refine (ref_i64_any _ _ _ _).mono ?_; rintro e w' ⟨rfl, hbl⟩; obtain ⟨hc, hf, hz⟩ := cif hbl; (try simp only [World.size_alloc, World.size_setCell, World.size_drew, World.heap_drewN] at hz)) | (go_at_call 67; with_reducible refine (ref_yes_any _ _).mono ?_; rintro e w' ⟨rfl, hbl⟩; obtain ⟨hc, hf, hz⟩ := cif hbl; (try simp only [World.size_alloc, World.size_setCell, World.size_drew, World.heap_drewN] at hz)) | (go_at_call 68; with_reducible refine (compared_any _ _ _ _).mono ?_; rintro e w' ⟨rfl, rfl⟩))
  go_region
  all_goals (go_wp2_with (first | (go_at_call 64; with_reducible refine (ref_i64_any _ _ _ _).mono ?_; rintro e w' ⟨rfl, hbl⟩; obtain ⟨hc, hf, hz⟩ := cif hbl; (try simp only [World.size_alloc, World.size_setCell, World.size_drew, World.heap_drewN] at hz)) | (go_at_call 67; with_reducible refine (ref_yes_any _ _).mono ?_; rintro e w' ⟨rfl, hbl⟩; obtain ⟨hc, hf, hz⟩ := cif hbl; (try simp only [World.size_alloc, World.size_setCell, World.size_drew, World.heap_drewN] at hz)) | (go_at_call 68; with_reducible refine (compared_any _ _ _ _).mono ?_; rintro e w' ⟨rfl, rfl⟩)))
  skip
  all_goals (((try simp only [Exit.inBlock, Exit.then]); go_light; refine bodyPost_ret (by simp [results, Try.results61, go_sem, *, ↓IntWalk.iteOmega]; try rfl) rfl ?_); refine ⟨?_, (by (try clear hc hf); (repeat' (first | (with_reducible exact Below.refl _ _) | (with_reducible assumption) | (with_reducible refine Below.setCell ?_ ?_ _) | (with_reducible refine Below.alloc ?_ ?_ _) | (with_reducible refine Below.drew ?_) | (with_reducible refine below_drewN ?_ _) | (with_reducible refine below_next ?_ (by with_reducible assumption)) | omega | (dsimp only; omega) | (simp only [World.size_alloc, World.size_setCell, World.size_drew, World.heap_drewN]; omega))))⟩; first | (simp [HV.out, wrap64_mod, ptrV_eq, c1, Int.add_comm]; done) | (simp [HV.out]; done))
set_option maxRecDepth 100000 in
set_option maxHeartbeats 8000000 in
theorem ref_op (op k b1 l1 b2 l2 : Int) (c1 : ¬ l2 = 0) (c3 : (l2 == 0) = false) (k2 : ¬ k = 2) (k4 : ¬ k = 4) (k5 : (k == 2) = false) (k6 : (k != 2) = true) (k7 : (k == 4) = false) (hx : U64 b1) (hy : U64 b2) (r : V × Bool) (hv : pointersV op ⟨k, b1, l1⟩ ⟨4, b2, l2⟩ = r) (w : World) :
    Calls Try.prog 61 #[.int .i64 op, .agg #[.int .i64 k, .int .u64 b1, .int .i64 l1], .agg #[.int .i64 4, .int .u64 b2, .int .i64 l2]] w fun e w' =>
      e = .returned (.tuple #[.agg #[.int .i64 r.1.k, .int .u64 r.1.b, .int .i64 r.1.l], .bool r.2]) ∧ Below w.heap.size w w' := by
  have hA1 := cell_alloc_if
  have hA2 := frozen_alloc_if
  have hA3 := cell_set_if
  have hv2 := hv.symm
  skip
  simp [pointersV, flagV_eq, undefV, *] at hv2
  have HV := Lib.hid hv2
  clear hv hv2
  go_enter Try.func61, Try.ntmps61
  go_wp2_with (first | (go_at_call 64; with_reducible refine (ref_i64_any _ _ _ _).mono ?_; rintro e w' ⟨rfl, hbl⟩; obtain ⟨hc, hf, hz⟩ := cif hbl; (try simp only [World.size_alloc, World.size_setCell, World.size_drew, World.heap_drewN] at hz)) | (go_at_call 67; with_reducible refine (ref_yes_any _ _).mono ?_; rintro e w' ⟨rfl, hbl⟩; obtain ⟨hc, hf, hz⟩ := cif hbl; (try simp only [World.size_alloc, World.size_setCell, World.size_drew, World.heap_drewN] at hz)) | (go_at_call 68; with_reducible refine (compared_any _ _ _ _).mono ?_; rintro e w' ⟨rfl, rfl⟩))
  go_region
  all_goals (go_wp2_with (first | (go_at_call 64; with_reducible refine (ref_i64_any _ _ _ _).mono ?_; rintro e w' ⟨rfl, hbl⟩; obtain ⟨hc, hf, hz⟩ := cif hbl; (try simp only [World.size_alloc, World.size_setCell, World.size_drew, World.heap_drewN] at hz)) | (go_at_call 67; with_reducible refine (ref_yes_any _ _).mono ?_; rintro e w' ⟨rfl, hbl⟩; obtain ⟨hc, hf, hz⟩ := cif hbl; (try simp only [World.size_alloc, World.size_setCell, World.size_drew, World.heap_drewN] at hz)) | (go_at_call 68; with_reducible refine (compared_any _ _ _ _).mono ?_; rintro e w' ⟨rfl, rfl⟩)))
  all_goals (go_region)
  all_goals (go_wp2_with (first | (go_at_call 64; with_reducible refine (ref_i64_any _ _ _ _).mono ?_; rintro e w' ⟨rfl, hbl⟩; obtain ⟨hc, hf, hz⟩ := cif hbl; (try simp only [World.size_alloc, World.size_setCell, World.size_drew, World.heap_drewN] at hz)) | (go_at_call 67; with_reducible refine (ref_yes_any _ _).mono ?_; rintro e w' ⟨rfl, hbl⟩; obtain ⟨hc, hf, hz⟩ := cif hbl; (try simp only [World.size_alloc, World.size_setCell, World.size_drew, World.heap_drewN] at hz)) | (go_at_call 68; with_reducible refine (compared_any _ _ _ _).mono ?_; rintro e w' ⟨rfl, rfl⟩)))
  skip
  all_goals (((try simp only [Exit.inBlock, Exit.then]); go_light; refine bodyPost_ret (by simp [results, Try.results61, go_sem, *, ↓IntWalk.iteOmega]; try rfl) rfl ?_); refine ⟨?_, (by (try clear hc hf); (repeat' (first | (with_reducible exact Below.refl _ _) | (with_reducible assumption) | (with_reducible refine Below.setCell ?_ ?_ _) | (with_reducible refine Below.alloc ?_ ?_ _) | (with_reducible refine Below.drew ?_) | (with_reducible refine below_drewN ?_ _) | (with_reducible refine below_next ?_ (by with_reducible assumption)) | omega | (dsimp only; omega) | (simp only [World.size_alloc, World.size_setCell, World.size_drew, World.heap_drewN]; omega))))⟩; first | (simp [HV.out, wrap64_mod, ptrV_eq, c1, Int.add_comm]; done) | (simp [HV.out]; done))
set_option maxRecDepth 100000 in
set_option maxHeartbeats 8000000 in
theorem ref_p0 (op k b1 l1 b2 l2 : Int) (c1 : l1 = 0) (hx : U64 b1) (hy : U64 b2) (r : V × Bool) (hv : pointersV op ⟨4, b1, l1⟩ ⟨k, b2, l2⟩ = r) (w : World) :
    Calls Try.prog 61 #[.int .i64 op, .agg #[.int .i64 4, .int .u64 b1, .int .i64 l1], .agg #[.int .i64 k, .int .u64 b2, .int .i64 l2]] w fun e w' =>
      e = .returned (.tuple #[.agg #[.int .i64 r.1.k, .int .u64 r.1.b, .int .i64 r.1.l], .bool r.2]) ∧ Below w.heap.size w w' := by
  have hA1 := cell_alloc_if
  have hA2 := frozen_alloc_if
  have hA3 := cell_set_if
  have hv2 := hv.symm
  subst c1
  simp [pointersV, flagV_eq, undefV, *] at hv2
  have HV := Lib.hid hv2
  clear hv hv2
  go_enter Try.func61, Try.ntmps61
  go_wp2_with (first | (go_at_call 64; with_reducible refine (ref_i64_any _ _ _ _).mono ?_; rintro e w' ⟨rfl, hbl⟩; obtain ⟨hc, hf, hz⟩ := cif hbl; (try simp only [World.size_alloc, World.size_setCell, World.size_drew, World.heap_drewN] at hz)) | (go_at_call 67; with_reducible refine (ref_yes_any _ _).mono ?_; rintro e w' ⟨rfl, hbl⟩; obtain ⟨hc, hf, hz⟩ := cif hbl; (try simp only [World.size_alloc, World.size_setCell, World.size_drew, World.heap_drewN] at hz)) | (go_at_call 68; with_reducible refine (compared_any _ _ _ _).mono ?_; rintro e w' ⟨rfl, rfl⟩))
  skip
  skip
  all_goals (((try simp only [Exit.inBlock, Exit.then]); go_light; refine bodyPost_ret (by simp [results, Try.results61, go_sem, *, ↓IntWalk.iteOmega]; try rfl) rfl ?_); refine ⟨?_, (by (try clear hc hf); (repeat' (first | (with_reducible exact Below.refl _ _) | (with_reducible assumption) | (with_reducible refine Below.setCell ?_ ?_ _) | (with_reducible refine Below.alloc ?_ ?_ _) | (with_reducible refine Below.drew ?_) | (with_reducible refine below_drewN ?_ _) | (with_reducible refine below_next ?_ (by with_reducible assumption)) | omega | (dsimp only; omega) | (simp only [World.size_alloc, World.size_setCell, World.size_drew, World.heap_drewN]; omega))))⟩; first | (simp [HV.out, wrap64_mod, ptrV_eq, c1, Int.add_comm]; done) | (simp [HV.out]; done))
set_option maxRecDepth 100000 in
set_option maxHeartbeats 8000000 in
theorem ref_0p (op k b1 l1 b2 l2 : Int) (c1 : l2 = 0) (k4 : ¬ k = 4) (k7 : (k == 4) = false) (hx : U64 b1) (hy : U64 b2) (r : V × Bool) (hv : pointersV op ⟨k, b1, l1⟩ ⟨4, b2, l2⟩ = r) (w : World) :
    Calls Try.prog 61 #[.int .i64 op, .agg #[.int .i64 k, .int .u64 b1, .int .i64 l1], .agg #[.int .i64 4, .int .u64 b2, .int .i64 l2]] w fun e w' =>
      e = .returned (.tuple #[.agg #[.int .i64 r.1.k, .int .u64 r.1.b, .int .i64 r.1.l], .bool r.2]) ∧ Below w.heap.size w w' := by
  have hA1 := cell_alloc_if
  have hA2 := frozen_alloc_if
  have hA3 := cell_set_if
  have hv2 := hv.symm
  subst c1
  simp [pointersV, flagV_eq, undefV, *] at hv2
  have HV := Lib.hid hv2
  clear hv hv2
  go_enter Try.func61, Try.ntmps61
  go_wp2_with (first | (go_at_call 64; with_reducible refine (ref_i64_any _ _ _ _).mono ?_; rintro e w' ⟨rfl, hbl⟩; obtain ⟨hc, hf, hz⟩ := cif hbl; (try simp only [World.size_alloc, World.size_setCell, World.size_drew, World.heap_drewN] at hz)) | (go_at_call 67; with_reducible refine (ref_yes_any _ _).mono ?_; rintro e w' ⟨rfl, hbl⟩; obtain ⟨hc, hf, hz⟩ := cif hbl; (try simp only [World.size_alloc, World.size_setCell, World.size_drew, World.heap_drewN] at hz)) | (go_at_call 68; with_reducible refine (compared_any _ _ _ _).mono ?_; rintro e w' ⟨rfl, rfl⟩))
  skip
  skip
  all_goals (((try simp only [Exit.inBlock, Exit.then]); go_light; refine bodyPost_ret (by simp [results, Try.results61, go_sem, *, ↓IntWalk.iteOmega]; try rfl) rfl ?_); refine ⟨?_, (by (try clear hc hf); (repeat' (first | (with_reducible exact Below.refl _ _) | (with_reducible assumption) | (with_reducible refine Below.setCell ?_ ?_ _) | (with_reducible refine Below.alloc ?_ ?_ _) | (with_reducible refine Below.drew ?_) | (with_reducible refine below_drewN ?_ _) | (with_reducible refine below_next ?_ (by with_reducible assumption)) | omega | (dsimp only; omega) | (simp only [World.size_alloc, World.size_setCell, World.size_drew, World.heap_drewN]; omega))))⟩; first | (simp [HV.out, wrap64_mod, ptrV_eq, c1, Int.add_comm]; done) | (simp [HV.out]; done))

end Go.Proofs.Ytddipbpllogbaaa
