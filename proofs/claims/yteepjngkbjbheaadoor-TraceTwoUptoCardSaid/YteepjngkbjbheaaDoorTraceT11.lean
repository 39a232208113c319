/-
  TraceTwo: the walk.
-/
import Derived.Test.YteepjngkbjbheaaDoorTraceW7
import Derived.Test.YteepjngkbjbheaaDoorTraceR3
import Derived.Test.YteepjngkbjbheaaDoorTraceT7
import Derived.Test.YteepjngkbjbheaaDoorTraceT9
namespace Go.Proofs.YteepjngkbjbheaaDoor
open Go.RowKit
set_option linter.unusedVariables false
set_option linter.unusedSimpArgs false

set_option maxRecDepth 100000 in
set_option maxHeartbeats 16000000 in
theorem two_core (A1 A2 : Option Addr) (n1 n2 c1 c2 : Nat) (x1 x2 y1 y2 z1 z2 : Int) (b s r : Bool) (t : ByteArray) (w : World)
    (B1 : Hid (Beg w (.slice A1 n1 c1) (.slice A2 n2 c2) b)) (B2 : Hid (RBeg w (.slice A1 n1 c1) (.slice A2 n2 c2) b))
    (S1 : Hid (∀ W, Ext w W → Calls Tryd.prog 15 #[.agg #[.slice A1 n1 c1, .int .i64 x1, .int .i32 y1, .int .i64 z1], .agg #[.slice A2 n2 c2, .int .i64 x2, .int .i32 y2, .int .i64 z2]] W fun e w' => e = .returned (.bool s) ∧ Below W.heap.size W w')) (S2 : Hid (∀ W, Ext w W → Calls Tryd.prog 16 #[.agg #[.slice A1 n1 c1, .int .i64 x1, .int .i32 y1, .int .i64 z1], .agg #[.slice A2 n2 c2, .int .i64 x2, .int .i32 y2, .int .i64 z2]] W fun e w' => e = .returned (.bool s) ∧ Below W.heap.size W w'))
    (R1 : Hid (∀ W, Ext w W → Calls Tryd.prog 17 #[.agg #[.slice A1 n1 c1, .int .i64 x1, .int .i32 y1, .int .i64 z1], .agg #[.slice A2 n2 c2, .int .i64 x2, .int .i32 y2, .int .i64 z2]] W fun e w' => e = .returned (.bool r) ∧ Below W.heap.size W w')) (R2 : Hid (∀ W, Ext w W → Calls Tryd.prog 18 #[.agg #[.slice A1 n1 c1, .int .i64 x1, .int .i32 y1, .int .i64 z1], .agg #[.slice A2 n2 c2, .int .i64 x2, .int .i32 y2, .int .i64 z2]] W fun e w' => e = .returned (.bool r) ∧ Below W.heap.size W w'))
    (T1 : Hid (∀ W, Ext w W → Calls Tryd.prog 19 #[.agg #[.slice A1 n1 c1, .int .i64 x1, .int .i32 y1, .int .i64 z1]] W fun e w' => e = .returned (.string t) ∧ Below W.heap.size W w'))
    (T2 : Hid (∀ W, Ext w W → Calls Tryd.prog 20 #[.agg #[.slice A1 n1 c1, .int .i64 x1, .int .i32 y1, .int .i64 z1]] W fun e w' => e = .returned (.string t) ∧ Below W.heap.size W w')) :
    Calls Tryd.prog 4 #[.agg #[.slice A1 n1 c1, .int .i64 x1, .int .i32 y1, .int .i64 z1], .agg #[.slice A2 n2 c2, .int .i64 x2, .int .i32 y2, .int .i64 z2]] w fun e w' => e = .returned (.bool true) ∧ Below w.heap.size w w' := by
  have hA1 := cell_alloc_if
  have hA2 := frozen_alloc_if
  have hA3 := cell_set_if
  have k1 : (b == b) = true := by simp
  have k2 : (s == s) = true := by simp
  have k3 : (r == r) = true := by simp
  have k4 : (t.toList == t.toList) = true := by simp
  go_enter Tryd.func4, Tryd.ntmps4
  go_wp2_with (go_at_call 6; (with_reducible refine (fixed_any _).mono ?_); rintro e w' ⟨rfl, hbl⟩; obtain ⟨hc, hf, hz⟩ := cif hbl; (try simp only [World.size_alloc, World.size_setCell, World.size_drew, World.heap_drewN] at hz))
  refine wp_region_ext (by kernel_rfl) (by kernel_rfl) ?_
  repeat (first | go_big_quiet_skip | (go_big_quiet_want; go_big_quiet_op; first | go_big_quiet_on | (apply Exists.intro; refine ⟨fun W hW => ?_, ?_⟩; (focus (first
    | (go_at_call 13; (with_reducible refine (B1.out _ (by (try unfold Ext at *); (repeat' (first | (with_reducible exact Below.refl _ _) | (with_reducible assumption) | (with_reducible refine Below.setCell ?_ ?_ _) | (with_reducible refine Below.alloc ?_ ?_ _) | (with_reducible refine Below.drew ?_) | (with_reducible refine below_drewN ?_ _) | (with_reducible refine below_next ?_ (by with_reducible assumption)) | omega | (dsimp only; omega) | (simp only [World.size_alloc, World.size_setCell, World.size_drew, World.heap_drewN]; omega))))).mono ?_); rintro e w1 ⟨rfl, hb⟩; exact ⟨rfl, Ext.next hW hb⟩)
      | (go_at_call 14; (with_reducible refine (B2.out _ (by (try unfold Ext at *); (repeat' (first | (with_reducible exact Below.refl _ _) | (with_reducible assumption) | (with_reducible refine Below.setCell ?_ ?_ _) | (with_reducible refine Below.alloc ?_ ?_ _) | (with_reducible refine Below.drew ?_) | (with_reducible refine below_drewN ?_ _) | (with_reducible refine below_next ?_ (by with_reducible assumption)) | omega | (dsimp only; omega) | (simp only [World.size_alloc, World.size_setCell, World.size_drew, World.heap_drewN]; omega))))).mono ?_); rintro e w1 ⟨rfl, hb⟩; exact ⟨rfl, Ext.next hW hb⟩)
      | (go_at_call 15; (with_reducible refine (S1.out _ (by (try unfold Ext at *); (repeat' (first | (with_reducible exact Below.refl _ _) | (with_reducible assumption) | (with_reducible refine Below.setCell ?_ ?_ _) | (with_reducible refine Below.alloc ?_ ?_ _) | (with_reducible refine Below.drew ?_) | (with_reducible refine below_drewN ?_ _) | (with_reducible refine below_next ?_ (by with_reducible assumption)) | omega | (dsimp only; omega) | (simp only [World.size_alloc, World.size_setCell, World.size_drew, World.heap_drewN]; omega))))).mono ?_); rintro e w1 ⟨rfl, hb⟩; exact ⟨rfl, Ext.next hW hb⟩)
      | (go_at_call 16; (with_reducible refine (S2.out _ (by (try unfold Ext at *); (repeat' (first | (with_reducible exact Below.refl _ _) | (with_reducible assumption) | (with_reducible refine Below.setCell ?_ ?_ _) | (with_reducible refine Below.alloc ?_ ?_ _) | (with_reducible refine Below.drew ?_) | (with_reducible refine below_drewN ?_ _) | (with_reducible refine below_next ?_ (by with_reducible assumption)) | omega | (dsimp only; omega) | (simp only [World.size_alloc, World.size_setCell, World.size_drew, World.heap_drewN]; omega))))).mono ?_); rintro e w1 ⟨rfl, hb⟩; exact ⟨rfl, Ext.next hW hb⟩)
      | (go_at_call 17; (with_reducible refine (R1.out _ (by (try unfold Ext at *); (repeat' (first | (with_reducible exact Below.refl _ _) | (with_reducible assumption) | (with_reducible refine Below.setCell ?_ ?_ _) | (with_reducible refine Below.alloc ?_ ?_ _) | (with_reducible refine Below.drew ?_) | (with_reducible refine below_drewN ?_ _) | (with_reducible refine below_next ?_ (by with_reducible assumption)) | omega | (dsimp only; omega) | (simp only [World.size_alloc, World.size_setCell, World.size_drew, World.heap_drewN]; omega))))).mono ?_); rintro e w1 ⟨rfl, hb⟩; exact ⟨rfl, Ext.next hW hb⟩)
      | (go_at_call 18; (with_reducible refine (R2.out _ (by (try unfold Ext at *); (repeat' (first | (with_reducible exact Below.refl _ _) | (with_reducible assumption) | (with_reducible refine Below.setCell ?_ ?_ _) | (with_reducible refine Below.alloc ?_ ?_ _) | (with_reducible refine Below.drew ?_) | (with_reducible refine below_drewN ?_ _) | (with_reducible refine below_next ?_ (by with_reducible assumption)) | omega | (dsimp only; omega) | (simp only [World.size_alloc, World.size_setCell, World.size_drew, World.heap_drewN]; omega))))).mono ?_); rintro e w1 ⟨rfl, hb⟩; exact ⟨rfl, Ext.next hW hb⟩)
      | (go_at_call 19; (with_reducible refine (T1.out _ (by (try unfold Ext at *); (repeat' (first | (with_reducible exact Below.refl _ _) | (with_reducible assumption) | (with_reducible refine Below.setCell ?_ ?_ _) | (with_reducible refine Below.alloc ?_ ?_ _) | (with_reducible refine Below.drew ?_) | (with_reducible refine below_drewN ?_ _) | (with_reducible refine below_next ?_ (by with_reducible assumption)) | omega | (dsimp only; omega) | (simp only [World.size_alloc, World.size_setCell, World.size_drew, World.heap_drewN]; omega))))).mono ?_); rintro e w1 ⟨rfl, hb⟩; exact ⟨rfl, Ext.next hW hb⟩)
      | (go_at_call 20; (with_reducible refine (T2.out _ (by (try unfold Ext at *); (repeat' (first | (with_reducible exact Below.refl _ _) | (with_reducible assumption) | (with_reducible refine Below.setCell ?_ ?_ _) | (with_reducible refine Below.alloc ?_ ?_ _) | (with_reducible refine Below.drew ?_) | (with_reducible refine below_drewN ?_ _) | (with_reducible refine below_next ?_ (by with_reducible assumption)) | omega | (dsimp only; omega) | (simp only [World.size_alloc, World.size_setCell, World.size_drew, World.heap_drewN]; omega))))).mono ?_); rintro e w1 ⟨rfl, hb⟩; exact ⟨rfl, Ext.next hW hb⟩)
    | exact rfl | (obtain ⟨hcW, hfW, hzW⟩ := cif (Ext.of hW); (try simp only [World.size_alloc, World.size_setCell, World.size_drew, World.heap_drewN] at hzW); simp [go_sem, *, ↓IntWalk.iteOmega]; (try exact rfl)))); go_big_quiet_on)))
  refine wpQuiet_nil ?_
  intro w' hw'
  have hbl := Ext.of hw'
  obtain ⟨hc, hf, hz⟩ := cif hbl
  (try simp only [World.size_alloc, World.size_setCell, World.size_drew, World.heap_drewN] at hz)
  clear hw'
  go_wp2
  all_goals (go_returns; exact ⟨rfl, by (try unfold Ext at *); clear hc hf; (repeat' (first | (with_reducible exact Below.refl _ _) | (with_reducible assumption) | (with_reducible refine Below.setCell ?_ ?_ _) | (with_reducible refine Below.alloc ?_ ?_ _) | (with_reducible refine Below.drew ?_) | (with_reducible refine below_drewN ?_ _) | (with_reducible refine below_next ?_ (by with_reducible assumption)) | omega | (dsimp only; omega) | (simp only [World.size_alloc, World.size_setCell, World.size_drew, World.heap_drewN]; omega)))⟩)

end Go.Proofs.YteepjngkbjbheaaDoor
