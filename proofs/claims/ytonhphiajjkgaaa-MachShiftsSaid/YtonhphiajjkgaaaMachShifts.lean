/-
  The walk of the statement MachShifts.
-/
import Derived.Test.YtonhphiajjkgaaaMachW6
import Derived.Test.YtonhphiajjkgaaaRegion
namespace Go.Proofs.Ytonhphiajjkgaaa
open Go.RowKit
set_option linter.unusedVariables false
set_option linter.unusedSimpArgs false

theorem alloc_V (o : Oper) (ρ : Operand → Value) (w : World) (h : o.op = .alloc 24) : (execOp ρ o).run Try.prog w = .ok (.value (.pointer (some ⟨w.heap.size, 0, none⟩))) (w.alloc (.cells #[.int .i64 0, .int .u64 0, .int .i64 0] 24)) := by
  obtain ⟨dst, op, ty, pos, after, guard⟩ := o
  subst h
  kernel_rfl

set_option maxRecDepth 100000 in
set_option maxHeartbeats 4000000 in
theorem shifts_core (m n k X p A B S T R : Int) (hk : 0 ≤ k ∧ k ≤ 30) (hn : wrap64 ((IntKind.u64.wrap n).tmod 31) = k) (hp : 1 ≤ p ∧ p ≤ 1073741824) (hpk : (2 : Int) ^ k.toNat = p)
    (hR : R % 4294967296 < p)
    (I1 : Hid (∀ w, Calls Try.prog 13 #[.int .i32 (wrap32 m)] w fun e w' => e = .returned (.agg #[.int .i64 1, .int .u64 X, .int .i64 0]) ∧ Below w.heap.size w w'))
    (I2 : Hid (∀ w, Calls Try.prog 13 #[.int .i32 p] w fun e w' => e = .returned (.agg #[.int .i64 1, .int .u64 p, .int .i64 0]) ∧ Below w.heap.size w w'))
    (I3 : Hid (∀ w, Calls Try.prog 13 #[.int .i32 k] w fun e w' => e = .returned (.agg #[.int .i64 1, .int .u64 k, .int .i64 0]) ∧ Below w.heap.size w w'))
    (G1 : Hid (∀ w, Calls Try.prog 11 #[.int .i64 13, .agg #[.int .i64 1, .int .u64 X, .int .i64 0], .agg #[.int .i64 1, .int .u64 k, .int .i64 0]] w fun e w' => e = .returned (.tuple #[.agg #[.int .i64 1, .int .u64 A, .int .i64 0], .bool true]) ∧ Below w.heap.size w w'))
    (G2 : Hid (∀ w, Calls Try.prog 11 #[.int .i64 5, .agg #[.int .i64 1, .int .u64 X, .int .i64 0], .agg #[.int .i64 1, .int .u64 p, .int .i64 0]] w fun e w' => e = .returned (.tuple #[.agg #[.int .i64 1, .int .u64 A, .int .i64 0], .bool true]) ∧ Below w.heap.size w w'))
    (G3 : Hid (∀ w, Calls Try.prog 11 #[.int .i64 15, .agg #[.int .i64 1, .int .u64 X, .int .i64 0], .agg #[.int .i64 1, .int .u64 k, .int .i64 0]] w fun e w' => e = .returned (.tuple #[.agg #[.int .i64 1, .int .u64 B, .int .i64 0], .bool true]) ∧ Below w.heap.size w w'))
    (G4 : Hid (∀ w, Calls Try.prog 11 #[.int .i64 7, .agg #[.int .i64 1, .int .u64 X, .int .i64 0], .agg #[.int .i64 1, .int .u64 p, .int .i64 0]] w fun e w' => e = .returned (.tuple #[.agg #[.int .i64 1, .int .u64 B, .int .i64 0], .bool true]) ∧ Below w.heap.size w w'))
    (G5 : Hid (∀ w, Calls Try.prog 11 #[.int .i64 14, .agg #[.int .i64 1, .int .u64 X, .int .i64 0], .agg #[.int .i64 1, .int .u64 k, .int .i64 0]] w fun e w' => e = .returned (.tuple #[.agg #[.int .i64 1, .int .u64 S, .int .i64 0], .bool true]) ∧ Below w.heap.size w w'))
    (G6 : Hid (∀ w, Calls Try.prog 11 #[.int .i64 5, .agg #[.int .i64 1, .int .u64 S, .int .i64 0], .agg #[.int .i64 1, .int .u64 p, .int .i64 0]] w fun e w' => e = .returned (.tuple #[.agg #[.int .i64 1, .int .u64 T, .int .i64 0], .bool true]) ∧ Below w.heap.size w w'))
    (G7 : Hid (∀ w, Calls Try.prog 11 #[.int .i64 4, .agg #[.int .i64 1, .int .u64 X, .int .i64 0], .agg #[.int .i64 1, .int .u64 T, .int .i64 0]] w fun e w' => e = .returned (.tuple #[.agg #[.int .i64 1, .int .u64 R, .int .i64 0], .bool true]) ∧ Below w.heap.size w w'))
    (w : World) :
    Calls Try.prog 5 #[.int .i64 m, .int .i64 n] w fun e w' => e = .returned (.bool true) ∧ Below w.heap.size w w' := by
  have hA1 := cell_alloc_if
  have hA2 := frozen_alloc_if
  have hA3 := cell_set_if
  obtain ⟨k1, k2⟩ := hk
  obtain ⟨p1, p2⟩ := hp
  go_enter Try.func5, Try.ntmps5
  go_wp2_with (first
    | (go_at_call 10; with_reducible refine (fixed_any _).mono ?_; rintro e w' ⟨rfl, hbl⟩; obtain ⟨hc, hf, hz⟩ := cif hbl; (try simp only [World.size_alloc, World.size_setCell, World.size_drew, World.heap_drewN] at hz))
    | (go_at_call 11; with_reducible refine (G2.out _).mono ?_; rintro e w' ⟨rfl, hbl⟩; obtain ⟨hc, hf, hz⟩ := cif hbl; (try simp only [World.size_alloc, World.size_setCell, World.size_drew, World.heap_drewN] at hz))
    | (go_at_call 11; with_reducible refine (G4.out _).mono ?_; rintro e w' ⟨rfl, hbl⟩; obtain ⟨hc, hf, hz⟩ := cif hbl; (try simp only [World.size_alloc, World.size_setCell, World.size_drew, World.heap_drewN] at hz))
    | (go_at_call 11; with_reducible refine (G6.out _).mono ?_; rintro e w' ⟨rfl, hbl⟩; obtain ⟨hc, hf, hz⟩ := cif hbl; (try simp only [World.size_alloc, World.size_setCell, World.size_drew, World.heap_drewN] at hz))
    | (go_at_call 11; with_reducible refine (G7.out _).mono ?_; rintro e w' ⟨rfl, hbl⟩; obtain ⟨hc, hf, hz⟩ := cif hbl; (try simp only [World.size_alloc, World.size_setCell, World.size_drew, World.heap_drewN] at hz)))
  refine wp_region_new 8 24 (.cells #[.int .i64 0, .int .u64 0, .int .i64 0] 24) (by intro c a d v w h; cases d <;> (simp [Exit.then, Exit.inBlock] at h ⊢; exact h)) (by kernel_rfl) (by kernel_rfl) (by kernel_rfl) (by kernel_rfl) alloc_V ?_
  apply Exists.intro
  refine ⟨fun m hm => ?_, fun w' hw' => ?_⟩
  · simp only [List.map_cons, List.map_nil, List.take_succ_cons, List.take_zero, deAl]
    repeat (first | go_big_quiet_skip | (go_big_quiet_want; go_big_quiet_op; first | go_big_quiet_on | (apply Exists.intro; refine ⟨fun W hW => ?_, ?_⟩; (focus (first
      | (go_at_call 13; with_reducible refine (I1.out _).mono ?_; rintro e w1 ⟨rfl, hb⟩; exact ⟨rfl, Ext.next hW hb⟩)
        | (go_at_call 13; with_reducible refine (I2.out _).mono ?_; rintro e w1 ⟨rfl, hb⟩; exact ⟨rfl, Ext.next hW hb⟩)
        | (go_at_call 13; with_reducible refine (I3.out _).mono ?_; rintro e w1 ⟨rfl, hb⟩; exact ⟨rfl, Ext.next hW hb⟩)
        | (go_at_call 11; with_reducible refine (G1.out _).mono ?_; rintro e w1 ⟨rfl, hb⟩; exact ⟨rfl, Ext.next hW hb⟩)
        | (go_at_call 11; with_reducible refine (G3.out _).mono ?_; rintro e w1 ⟨rfl, hb⟩; exact ⟨rfl, Ext.next hW hb⟩)
        | (go_at_call 11; with_reducible refine (G5.out _).mono ?_; rintro e w1 ⟨rfl, hb⟩; exact ⟨rfl, Ext.next hW hb⟩)
      | exact rfl | (obtain ⟨hcW, hfW, hzW⟩ := cif (Ext.of (Ext.past hm hW)); (try simp only [World.size_alloc, World.size_setCell, World.size_drew, World.heap_drewN] at hzW); simp [go_sem, *, ↓IntWalk.iteOmega]; (try exact rfl)))); go_big_quiet_on)))
    exact wpQuiet_nil rfl
  rw [show als _ 0 8 = [(6, 5), (7, 6)] from by kernel_rfl]
  simp only [gEnd, List.drop_succ_cons, List.drop_zero]
  have hbl := Ext.of hw'
  obtain ⟨hc, hf, hz⟩ := cif hbl
  (try simp only [World.size_alloc, World.size_setCell, World.size_drew, World.heap_drewN] at hz)
  clear hw'
  intro b1 hlob1 hhib1 hkb1 hnb1
  obtain ⟨hcb1, hfb1⟩ := else_of_block hkb1
  (try simp only [World.size_alloc, World.size_setCell, World.size_drew, World.heap_drewN] at hlob1)
  clear hkb1
  intro b2 hlob2 hhib2 hkb2 hnb2
  obtain ⟨hcb2, hfb2⟩ := else_of_block hkb2
  (try simp only [World.size_alloc, World.size_setCell, World.size_drew, World.heap_drewN] at hlob2)
  clear hkb2
  have hne : b2 ≠ b1 := hnb2 b1 (by simp)
  clear hnb1 hnb2
  go_wp2_with (first
    | (go_at_call 10; with_reducible refine (fixed_any _).mono ?_; rintro e w' ⟨rfl, hbl⟩; obtain ⟨hc, hf, hz⟩ := cif hbl; (try simp only [World.size_alloc, World.size_setCell, World.size_drew, World.heap_drewN] at hz))
    | (go_at_call 11; with_reducible refine (G2.out _).mono ?_; rintro e w' ⟨rfl, hbl⟩; obtain ⟨hc, hf, hz⟩ := cif hbl; (try simp only [World.size_alloc, World.size_setCell, World.size_drew, World.heap_drewN] at hz))
    | (go_at_call 11; with_reducible refine (G4.out _).mono ?_; rintro e w' ⟨rfl, hbl⟩; obtain ⟨hc, hf, hz⟩ := cif hbl; (try simp only [World.size_alloc, World.size_setCell, World.size_drew, World.heap_drewN] at hz))
    | (go_at_call 11; with_reducible refine (G6.out _).mono ?_; rintro e w' ⟨rfl, hbl⟩; obtain ⟨hc, hf, hz⟩ := cif hbl; (try simp only [World.size_alloc, World.size_setCell, World.size_drew, World.heap_drewN] at hz))
    | (go_at_call 11; with_reducible refine (G7.out _).mono ?_; rintro e w' ⟨rfl, hbl⟩; obtain ⟨hc, hf, hz⟩ := cif hbl; (try simp only [World.size_alloc, World.size_setCell, World.size_drew, World.heap_drewN] at hz)))
  refine wp_region_new 9 24 (.cells #[.int .i64 0, .int .u64 0, .int .i64 0] 24) (by intro c a d v w h; cases d <;> (simp [Exit.then, Exit.inBlock] at h ⊢; exact h)) (by kernel_rfl) (by kernel_rfl) (by kernel_rfl) (by kernel_rfl) alloc_V ?_
  apply Exists.intro
  refine ⟨fun m hm => ?_, fun w' hw' => ?_⟩
  · simp only [List.map_cons, List.map_nil, List.take_succ_cons, List.take_zero, deAl]
    repeat (first | go_big_quiet_skip | (go_big_quiet_want; go_big_quiet_op; first | go_big_quiet_on | (apply Exists.intro; refine ⟨fun W hW => ?_, ?_⟩; (focus (first
      | (go_at_call 13; with_reducible refine (I1.out _).mono ?_; rintro e w1 ⟨rfl, hb⟩; exact ⟨rfl, Ext.next hW hb⟩)
        | (go_at_call 13; with_reducible refine (I2.out _).mono ?_; rintro e w1 ⟨rfl, hb⟩; exact ⟨rfl, Ext.next hW hb⟩)
        | (go_at_call 13; with_reducible refine (I3.out _).mono ?_; rintro e w1 ⟨rfl, hb⟩; exact ⟨rfl, Ext.next hW hb⟩)
        | (go_at_call 11; with_reducible refine (G1.out _).mono ?_; rintro e w1 ⟨rfl, hb⟩; exact ⟨rfl, Ext.next hW hb⟩)
        | (go_at_call 11; with_reducible refine (G3.out _).mono ?_; rintro e w1 ⟨rfl, hb⟩; exact ⟨rfl, Ext.next hW hb⟩)
        | (go_at_call 11; with_reducible refine (G5.out _).mono ?_; rintro e w1 ⟨rfl, hb⟩; exact ⟨rfl, Ext.next hW hb⟩)
      | exact rfl | (obtain ⟨hcW, hfW, hzW⟩ := cif (Ext.of (Ext.past hm hW)); (try simp only [World.size_alloc, World.size_setCell, World.size_drew, World.heap_drewN] at hzW); simp [go_sem, *, ↓IntWalk.iteOmega]; (try exact rfl)))); go_big_quiet_on)))
    exact wpQuiet_nil rfl
  rw [show als _ 0 9 = [(8, 7)] from by kernel_rfl]
  simp only [gEnd, List.drop_succ_cons, List.drop_zero]
  have hbl := Ext.of hw'
  obtain ⟨hc, hf, hz⟩ := cif hbl
  (try simp only [World.size_alloc, World.size_setCell, World.size_drew, World.heap_drewN] at hz)
  clear hw'
  intro b3 hlob3 hhib3 hkb3 hnb3
  obtain ⟨hcb3, hfb3⟩ := else_of_block hkb3
  (try simp only [World.size_alloc, World.size_setCell, World.size_drew, World.heap_drewN] at hlob3)
  clear hkb3
  clear hnb3
  go_wp2_with (first
    | (go_at_call 10; with_reducible refine (fixed_any _).mono ?_; rintro e w' ⟨rfl, hbl⟩; obtain ⟨hc, hf, hz⟩ := cif hbl; (try simp only [World.size_alloc, World.size_setCell, World.size_drew, World.heap_drewN] at hz))
    | (go_at_call 11; with_reducible refine (G2.out _).mono ?_; rintro e w' ⟨rfl, hbl⟩; obtain ⟨hc, hf, hz⟩ := cif hbl; (try simp only [World.size_alloc, World.size_setCell, World.size_drew, World.heap_drewN] at hz))
    | (go_at_call 11; with_reducible refine (G4.out _).mono ?_; rintro e w' ⟨rfl, hbl⟩; obtain ⟨hc, hf, hz⟩ := cif hbl; (try simp only [World.size_alloc, World.size_setCell, World.size_drew, World.heap_drewN] at hz))
    | (go_at_call 11; with_reducible refine (G6.out _).mono ?_; rintro e w' ⟨rfl, hbl⟩; obtain ⟨hc, hf, hz⟩ := cif hbl; (try simp only [World.size_alloc, World.size_setCell, World.size_drew, World.heap_drewN] at hz))
    | (go_at_call 11; with_reducible refine (G7.out _).mono ?_; rintro e w' ⟨rfl, hbl⟩; obtain ⟨hc, hf, hz⟩ := cif hbl; (try simp only [World.size_alloc, World.size_setCell, World.size_drew, World.heap_drewN] at hz)))
  refine wp_region_new 9 24 (.cells #[.int .i64 0, .int .u64 0, .int .i64 0] 24) (by intro c a d v w h; cases d <;> (simp [Exit.then, Exit.inBlock] at h ⊢; exact h)) (by kernel_rfl) (by kernel_rfl) (by kernel_rfl) (by kernel_rfl) alloc_V ?_
  apply Exists.intro
  refine ⟨fun m hm => ?_, fun w' hw' => ?_⟩
  · simp only [List.map_cons, List.map_nil, List.take_succ_cons, List.take_zero, deAl]
    repeat (first | go_big_quiet_skip | (go_big_quiet_want; go_big_quiet_op; first | go_big_quiet_on | (apply Exists.intro; refine ⟨fun W hW => ?_, ?_⟩; (focus (first
      | (go_at_call 13; with_reducible refine (I1.out _).mono ?_; rintro e w1 ⟨rfl, hb⟩; exact ⟨rfl, Ext.next hW hb⟩)
        | (go_at_call 13; with_reducible refine (I2.out _).mono ?_; rintro e w1 ⟨rfl, hb⟩; exact ⟨rfl, Ext.next hW hb⟩)
        | (go_at_call 13; with_reducible refine (I3.out _).mono ?_; rintro e w1 ⟨rfl, hb⟩; exact ⟨rfl, Ext.next hW hb⟩)
        | (go_at_call 11; with_reducible refine (G1.out _).mono ?_; rintro e w1 ⟨rfl, hb⟩; exact ⟨rfl, Ext.next hW hb⟩)
        | (go_at_call 11; with_reducible refine (G3.out _).mono ?_; rintro e w1 ⟨rfl, hb⟩; exact ⟨rfl, Ext.next hW hb⟩)
        | (go_at_call 11; with_reducible refine (G5.out _).mono ?_; rintro e w1 ⟨rfl, hb⟩; exact ⟨rfl, Ext.next hW hb⟩)
      | exact rfl | (obtain ⟨hcW, hfW, hzW⟩ := cif (Ext.of (Ext.past hm hW)); (try simp only [World.size_alloc, World.size_setCell, World.size_drew, World.heap_drewN] at hzW); simp [go_sem, *, ↓IntWalk.iteOmega]; (try exact rfl)))); go_big_quiet_on)))
    exact wpQuiet_nil rfl
  rw [show als _ 0 9 = [(8, 11)] from by kernel_rfl]
  simp only [gEnd, List.drop_succ_cons, List.drop_zero]
  have hbl := Ext.of hw'
  obtain ⟨hc, hf, hz⟩ := cif hbl
  (try simp only [World.size_alloc, World.size_setCell, World.size_drew, World.heap_drewN] at hz)
  clear hw'
  intro b4 hlob4 hhib4 hkb4 hnb4
  obtain ⟨hcb4, hfb4⟩ := else_of_block hkb4
  (try simp only [World.size_alloc, World.size_setCell, World.size_drew, World.heap_drewN] at hlob4)
  clear hkb4
  clear hnb4
  go_wp2_with (first
    | (go_at_call 10; with_reducible refine (fixed_any _).mono ?_; rintro e w' ⟨rfl, hbl⟩; obtain ⟨hc, hf, hz⟩ := cif hbl; (try simp only [World.size_alloc, World.size_setCell, World.size_drew, World.heap_drewN] at hz))
    | (go_at_call 11; with_reducible refine (G2.out _).mono ?_; rintro e w' ⟨rfl, hbl⟩; obtain ⟨hc, hf, hz⟩ := cif hbl; (try simp only [World.size_alloc, World.size_setCell, World.size_drew, World.heap_drewN] at hz))
    | (go_at_call 11; with_reducible refine (G4.out _).mono ?_; rintro e w' ⟨rfl, hbl⟩; obtain ⟨hc, hf, hz⟩ := cif hbl; (try simp only [World.size_alloc, World.size_setCell, World.size_drew, World.heap_drewN] at hz))
    | (go_at_call 11; with_reducible refine (G6.out _).mono ?_; rintro e w' ⟨rfl, hbl⟩; obtain ⟨hc, hf, hz⟩ := cif hbl; (try simp only [World.size_alloc, World.size_setCell, World.size_drew, World.heap_drewN] at hz))
    | (go_at_call 11; with_reducible refine (G7.out _).mono ?_; rintro e w' ⟨rfl, hbl⟩; obtain ⟨hc, hf, hz⟩ := cif hbl; (try simp only [World.size_alloc, World.size_setCell, World.size_drew, World.heap_drewN] at hz)))
  refine wp_region_new 9 24 (.cells #[.int .i64 0, .int .u64 0, .int .i64 0] 24) (by intro c a d v w h; cases d <;> (simp [Exit.then, Exit.inBlock] at h ⊢; exact h)) (by kernel_rfl) (by kernel_rfl) (by kernel_rfl) (by kernel_rfl) alloc_V ?_
  apply Exists.intro
  refine ⟨fun m hm => ?_, fun w' hw' => ?_⟩
  · simp only [List.map_cons, List.map_nil, List.take_succ_cons, List.take_zero, deAl]
    repeat (first | go_big_quiet_skip | (go_big_quiet_want; go_big_quiet_op; first | go_big_quiet_on | (apply Exists.intro; refine ⟨fun W hW => ?_, ?_⟩; (focus (first
      | (go_at_call 13; with_reducible refine (I1.out _).mono ?_; rintro e w1 ⟨rfl, hb⟩; exact ⟨rfl, Ext.next hW hb⟩)
        | (go_at_call 13; with_reducible refine (I2.out _).mono ?_; rintro e w1 ⟨rfl, hb⟩; exact ⟨rfl, Ext.next hW hb⟩)
        | (go_at_call 13; with_reducible refine (I3.out _).mono ?_; rintro e w1 ⟨rfl, hb⟩; exact ⟨rfl, Ext.next hW hb⟩)
        | (go_at_call 11; with_reducible refine (G1.out _).mono ?_; rintro e w1 ⟨rfl, hb⟩; exact ⟨rfl, Ext.next hW hb⟩)
        | (go_at_call 11; with_reducible refine (G3.out _).mono ?_; rintro e w1 ⟨rfl, hb⟩; exact ⟨rfl, Ext.next hW hb⟩)
        | (go_at_call 11; with_reducible refine (G5.out _).mono ?_; rintro e w1 ⟨rfl, hb⟩; exact ⟨rfl, Ext.next hW hb⟩)
      | exact rfl | (obtain ⟨hcW, hfW, hzW⟩ := cif (Ext.of (Ext.past hm hW)); (try simp only [World.size_alloc, World.size_setCell, World.size_drew, World.heap_drewN] at hzW); simp [go_sem, *, ↓IntWalk.iteOmega]; (try exact rfl)))); go_big_quiet_on)))
    exact wpQuiet_nil rfl
  rw [show als _ 0 9 = [(8, 15)] from by kernel_rfl]
  simp only [gEnd, List.drop_succ_cons, List.drop_zero]
  have hbl := Ext.of hw'
  obtain ⟨hc, hf, hz⟩ := cif hbl
  (try simp only [World.size_alloc, World.size_setCell, World.size_drew, World.heap_drewN] at hz)
  clear hw'
  intro b5 hlob5 hhib5 hkb5 hnb5
  obtain ⟨hcb5, hfb5⟩ := else_of_block hkb5
  (try simp only [World.size_alloc, World.size_setCell, World.size_drew, World.heap_drewN] at hlob5)
  clear hkb5
  clear hnb5
  go_wp2_with (first
    | (go_at_call 10; with_reducible refine (fixed_any _).mono ?_; rintro e w' ⟨rfl, hbl⟩; obtain ⟨hc, hf, hz⟩ := cif hbl; (try simp only [World.size_alloc, World.size_setCell, World.size_drew, World.heap_drewN] at hz))
    | (go_at_call 11; with_reducible refine (G2.out _).mono ?_; rintro e w' ⟨rfl, hbl⟩; obtain ⟨hc, hf, hz⟩ := cif hbl; (try simp only [World.size_alloc, World.size_setCell, World.size_drew, World.heap_drewN] at hz))
    | (go_at_call 11; with_reducible refine (G4.out _).mono ?_; rintro e w' ⟨rfl, hbl⟩; obtain ⟨hc, hf, hz⟩ := cif hbl; (try simp only [World.size_alloc, World.size_setCell, World.size_drew, World.heap_drewN] at hz))
    | (go_at_call 11; with_reducible refine (G6.out _).mono ?_; rintro e w' ⟨rfl, hbl⟩; obtain ⟨hc, hf, hz⟩ := cif hbl; (try simp only [World.size_alloc, World.size_setCell, World.size_drew, World.heap_drewN] at hz))
    | (go_at_call 11; with_reducible refine (G7.out _).mono ?_; rintro e w' ⟨rfl, hbl⟩; obtain ⟨hc, hf, hz⟩ := cif hbl; (try simp only [World.size_alloc, World.size_setCell, World.size_drew, World.heap_drewN] at hz)))
  refine wp_region_ext (by kernel_rfl) (by kernel_rfl) ?_
  repeat (first | go_big_quiet_skip | (go_big_quiet_want; go_big_quiet_op; first | go_big_quiet_on | (apply Exists.intro; refine ⟨fun W hW => ?_, ?_⟩; (focus (first
    | exact rfl | (obtain ⟨hcW, hfW, hzW⟩ := cif (Ext.of hW); (try simp only [World.size_alloc, World.size_setCell, World.size_drew, World.heap_drewN] at hzW); simp [go_sem, *, ↓IntWalk.iteOmega]; (try exact rfl)))); go_big_quiet_on)))
  refine wpQuiet_nil ?_
  intro w' hw'
  have hbl := Ext.of hw'
  obtain ⟨hc, hf, hz⟩ := cif hbl
  (try simp only [World.size_alloc, World.size_setCell, World.size_drew, World.heap_drewN] at hz)
  go_wp2
  go_returns
  refine ⟨rfl, ?_⟩
  clear hc hf
  (repeat' (first | (with_reducible exact Below.refl _ _) | (with_reducible assumption) | (with_reducible refine Below.setCell ?_ ?_ _) | (with_reducible refine Below.alloc ?_ ?_ _) | (with_reducible refine Below.drew ?_) | (with_reducible refine below_drewN ?_ _) | (with_reducible refine below_next ?_ (by with_reducible assumption)) | omega | (dsimp only; omega) | (simp only [World.size_alloc, World.size_setCell, World.size_drew, World.heap_drewN]; omega)))

theorem shift_div (x p : Int) (k : Nat) (hp : (2 : Int) ^ k = p) : x / 2 ^ k = x / p := by rw [hp]

theorem rest_lt (X sx p : Int) (hp : 1 ≤ p ∧ p ≤ 1073741824) (hX : X % 4294967296 = sx % 4294967296) : (X - sx / p % 4294967296 * p) % 4294967296 < p ∧ 0 ≤ (X - sx / p % 4294967296 * p) % 4294967296 := by
  have h1 := Int.emod_nonneg sx (b := p) (by omega)
  have h2 := Int.emod_lt_of_pos sx (b := p) (by omega)
  have h3 := Int.mul_ediv_add_emod sx p
  have e : (X - sx / p % 4294967296 * p) % 4294967296 = sx % p := by
    have e1 : (X - sx / p % 4294967296 * p) % 4294967296 = (sx - sx / p * p) % 4294967296 := by
      rw [Int.sub_emod, Int.mul_emod, Int.emod_emod, ← Int.mul_emod, hX, ← Int.sub_emod]
    rw [e1]
    have e2 : sx - sx / p * p = sx % p := by rw [Int.mul_comm]; omega
    rw [e2]
    exact Int.emod_eq_of_lt h1 (by omega)
  omega

theorem pow_le (k : Int) (hk : 0 ≤ k ∧ k ≤ 30) : 1 ≤ (2 : Int) ^ k.toNat ∧ (2 : Int) ^ k.toNat ≤ 1073741824 := by
  obtain ⟨j, rfl⟩ := Int.eq_ofNat_of_zero_le hk.1
  have hj : j ≤ 30 := by omega
  rw [Int.toNat_natCast]
  have h1 : (2 : Nat) ^ j ≤ 2 ^ 30 := Nat.pow_le_pow_right (by omega) hj
  have h2 : 1 ≤ (2 : Nat) ^ j := Nat.one_le_two_pow
  have e : ((2 ^ j : Nat) : Int) = (2 : Int) ^ j := by simp
  omega

theorem shifts_walk (m n : Int) (hm : I64 m) (hn : I64 n) (w : World) :
    Calls Try.prog 5 #[.int .i64 m, .int .i64 n] w fun e w' => e = .returned (.bool true) ∧ Below w.heap.size w w' := by
  obtain ⟨k, hk⟩ : ∃ k, wrap64 ((IntKind.u64.wrap n).tmod 31) = k := ⟨_, rfl⟩
  have hk0 : 0 ≤ k ∧ k ≤ 30 := by
    rw [IntKind.wrap_u64, Int.tmod_eq_emod_of_nonneg (by omega)] at hk
    have : wrap64 (n % 18446744073709551616 % 31) = n % 18446744073709551616 % 31 := by unfold wrap64; omega
    omega
  obtain ⟨p, hp⟩ : ∃ p, (2 : Int) ^ k.toNat = p := ⟨_, rfl⟩
  have hp0 := pow_le k hk0
  rw [hp] at hp0
  obtain ⟨X, hX⟩ : ∃ X, wrap32 m % 4294967296 = X := ⟨_, rfl⟩
  have hX0 : 0 ≤ X ∧ X < 4294967296 := by omega
  have hU : U64 X := by unfold U64; omega
  have hUp : U64 p := by unfold U64; omega
  have hUk : U64 k := by unfold U64; omega
  have hXX : X % 4294967296 = X := by omega
  have hkk : k % 4294967296 = k := by omega
  have hpp : p % 4294967296 = p := by omega
  have sh : ∀ op, 13 ≤ op → op ≤ 15 → shape op = (1, 1, 1) := fun op h1 h2 => by
    have : op = 13 ∨ op = 14 ∨ op = 15 := by omega
    rcases this with rfl | rfl | rfl <;> rfl
  have two : ∀ op a b, 3 ≤ op → op ≤ 15 → eval2 op ⟨1, a, 0⟩ ⟨1, b, 0⟩ = intsV op (a % 4294967296) (b % 4294967296) := fun op a b h1 h2 => by
    have e1 : (split op).1 = op := by unfold split; rw [if_neg (by omega)]
    have e2 : shape op = (1, 1, 1) := by
      unfold shape
      simp only [e1]
      have e3 : (split op).2 = 1 := by unfold split; rw [if_neg (by omega)]
      rw [e3]
      rw [if_neg (by omega), if_neg (by omega)]
      by_cases h13 : op < 13
      · rw [if_pos h13]
      · rw [if_neg h13, if_pos (by omega)]
    rw [eval2.eq_1, e2, e1]
    rfl
  have sX := wrap32_I32 X
  have q1 : eval2 13 ⟨1, X, 0⟩ ⟨1, k, 0⟩ = (⟨1, X * p % 4294967296, 0⟩, true) := by
    rw [two 13 X k (by omega) (by omega), hXX, hkk]
    simp [intsV, show ¬ 31 < k by omega, shiftU, hp, intV]
  have q2 : eval2 5 ⟨1, X, 0⟩ ⟨1, p, 0⟩ = (⟨1, X * p % 4294967296, 0⟩, true) := by
    rw [two 5 X p (by omega) (by omega), hXX, hpp]
    simp [intsV, wholeU, intV]
  have hdiv : X / p % 4294967296 = X / p := by
    have h1 := Int.ediv_nonneg hX0.1 (b := p) (by omega)
    have h2 := Int.ediv_le_self p hX0.1
    omega
  have q3 : eval2 15 ⟨1, X, 0⟩ ⟨1, k, 0⟩ = (⟨1, X / p, 0⟩, true) := by
    rw [two 15 X k (by omega) (by omega), hXX, hkk]
    simp [intsV, show ¬ 31 < k by omega, shiftU, hp, intV, hdiv]
  have q4 : eval2 7 ⟨1, X, 0⟩ ⟨1, p, 0⟩ = (⟨1, X / p, 0⟩, true) := by
    rw [two 7 X p (by omega) (by omega), hXX, hpp]
    simp [intsV, wholeU, udiv, show p ≠ 0 by omega, intV, hdiv]
  have q5 : eval2 14 ⟨1, X, 0⟩ ⟨1, k, 0⟩ = (⟨1, wrap32 X / p % 4294967296, 0⟩, true) := by
    rw [two 14 X k (by omega) (by omega), hXX, hkk]
    simp [intsV, show ¬ 31 < k by omega, shiftU, hp, intV]
  obtain ⟨S, hS⟩ : ∃ S, wrap32 X / p % 4294967296 = S := ⟨_, rfl⟩
  have hS0 : 0 ≤ S ∧ S < 4294967296 := by omega
  have hSS : S % 4294967296 = S := by omega
  rw [hS] at q5
  have q6 : eval2 5 ⟨1, S, 0⟩ ⟨1, p, 0⟩ = (⟨1, S * p % 4294967296, 0⟩, true) := by
    rw [two 5 S p (by omega) (by omega), hSS, hpp]
    simp [intsV, wholeU, intV]
  obtain ⟨T, hT⟩ : ∃ T, S * p % 4294967296 = T := ⟨_, rfl⟩
  have hT0 : 0 ≤ T ∧ T < 4294967296 := by omega
  have hTT : T % 4294967296 = T := by omega
  rw [hT] at q6
  have q7 : eval2 4 ⟨1, X, 0⟩ ⟨1, T, 0⟩ = (⟨1, (X - T) % 4294967296, 0⟩, true) := by
    rw [two 4 X T (by omega) (by omega), hXX, hTT]
    simp [intsV, wholeU, intV]
  have hR : (X - T) % 4294967296 < p := by
    have h := rest_lt X (wrap32 X) p hp0 (by rw [wrap32_mod])
    rw [hS] at h
    have : (X - T) % 4294967296 = (X - S * p) % 4294967296 := by rw [← hT]; omega
    omega
  obtain ⟨R, hRR⟩ : ∃ R, (X - T) % 4294967296 = R := ⟨_, rfl⟩
  have hR0 : 0 ≤ R ∧ R < 4294967296 := by omega
  rw [hRR] at q7 hR
  have iop : ∀ op, 0 ≤ op → op ≤ 100 → I64 op := fun op h1 h2 => by unfold I64; omega
  have uu : ∀ a, 0 ≤ a → a < 4294967296 → U64 a := fun a h1 h2 => by unfold U64; omega
  have G1 := eval2_any 13 1 X 0 1 k 0 (iop _ (by omega) (by omega)) hU hUk
  have G2 := eval2_any 5 1 X 0 1 p 0 (iop _ (by omega) (by omega)) hU hUp
  have G3 := eval2_any 15 1 X 0 1 k 0 (iop _ (by omega) (by omega)) hU hUk
  have G4 := eval2_any 7 1 X 0 1 p 0 (iop _ (by omega) (by omega)) hU hUp
  have G5 := eval2_any 14 1 X 0 1 k 0 (iop _ (by omega) (by omega)) hU hUk
  have G6 := eval2_any 5 1 S 0 1 p 0 (iop _ (by omega) (by omega)) (uu S hS0.1 hS0.2) hUp
  have G7 := eval2_any 4 1 X 0 1 T 0 (iop _ (by omega) (by omega)) hU (uu T hT0.1 hT0.2)
  have I1 := intOf_any (wrap32 m)
  have I2 := intOf_any p
  have I3 := intOf_any k
  rw [hX] at I1
  rw [hpp] at I2
  rw [hkk] at I3
  simp only [q1] at G1
  simp only [q2] at G2
  simp only [q3] at G3
  simp only [q4] at G4
  simp only [q5] at G5
  simp only [q6] at G6
  simp only [q7] at G7
  exact shifts_core m n k X p (X * p % 4294967296) (X / p) S T R hk0 hk hp0 hp (by omega) I1 I2 I3 G1 G2 G3 G4 G5 G6 G7 w

end Go.Proofs.Ytonhphiajjkgaaa
