/-
  A double as a whole number: the reference's; an operation of one: the program's and the reference's.
-/
import Derived.Test.YtonhphiajjkgaaaMachE2
namespace Go.Proofs.Ytonhphiajjkgaaa
open Go.RowKit
set_option linter.unusedVariables false
set_option linter.unusedSimpArgs false
set_option exponentiation.threshold 4096

set_option maxRecDepth 100000 in
set_option maxHeartbeats 4000000 in
theorem rw_91_yes (x : Nat) (T : Int) (hT : wholeOf x = some T) (hr : -2147483648 ≤ T ∧ T < 2147483648) (w : World) :
    Calls Try.prog 53 #[.int .i64 91, .float .f64 x] w fun e w' => e = .returned (.tuple #[.agg #[.int .i64 (intV T).k, .int .u64 (intV T).b, .int .i64 (intV T).l], .bool true]) ∧ Below w.heap.size w w' := by
  have hok : okT (wholeOf x) (-2147483648) (2147483648) = true := by rw [hT]; simp [okT]; exact hr
  have HIN : Hid (∀ w : World, Calls Try.prog 67 #[.float .f64 x, .float .f64 13970166044105375744, .float .f64 4746794007248502784] w fun e w' => ∃ y, e = .returned (.tuple #[.float .f64 y, .bool true]) ∧ TruncOf x y ∧ Below w.heap.size w w') := Lib.hid fun w => by
    have g := ref_trunc_any x 13970166044105375744 4746794007248502784 w
    have g2 : ((Ieee.double.order x 13970166044105375744 == some .gt) && (Ieee.double.order x 4746794007248502784 == some .lt)) = true := by rw [← hok]; exact in_self (by omega) (by omega) c_m31b c_p31
    rw [g2] at g
    exact g
  have HCV : Hid (∀ y, TruncOf x y → ∀ w : World, (convert 53 2 (.float .f64 y)).run Try.prog w = .ok (.int .i64 T) w) := Lib.hid fun y h w => conv_y hT (by exact Try.underlying2) (by simp only [show IntKind.i64.min = -9223372036854775808 from by decide, show IntKind.u64.min = 0 from by decide, show IntKind.i64.max = 9223372036854775807 from by decide, show IntKind.u64.max = 18446744073709551615 from by decide]; omega) h w
  obtain ⟨r1, r2⟩ := hr
  clear hok hT
  have hA1 := cell_alloc_if
  have hA2 := frozen_alloc_if
  have hA3 := cell_set_if
  go_enter Try.func53, Try.ntmps53
  go_wp2_with (first
    | (go_at_call 67; (with_reducible refine (HIN.out _).mono ?_); rintro e w1 ⟨y, rfl, hy, hbl⟩; have hcv := HCV.out y hy; obtain ⟨hc, hf, hz⟩ := cif hbl; (try simp only [World.size_alloc, World.size_setCell, World.size_drew, World.heap_drewN] at hz))
    | (go_at_call 23; with_reducible refine (ref_int_any _ _).mono ?_; rintro e w' ⟨rfl, hbl⟩; obtain ⟨hc, hf, hz⟩ := cif hbl; (try simp only [World.size_alloc, World.size_setCell, World.size_drew, World.heap_drewN] at hz))
    | (go_at_call 22; with_reducible refine (ref_long_any _ _).mono ?_; rintro e w' ⟨rfl, hbl⟩; obtain ⟨hc, hf, hz⟩ := cif hbl; (try simp only [World.size_alloc, World.size_setCell, World.size_drew, World.heap_drewN] at hz)))
  all_goals (((try simp only [Exit.inBlock, Exit.then]); go_light; refine bodyPost_ret (by simp [results, Try.results53, go_sem, *, ↓IntWalk.iteOmega]; try rfl) rfl ?_); refine ⟨congrArg Ending.returned ?_, by (repeat' (first | (with_reducible exact Below.refl _ _) | (with_reducible assumption) | (with_reducible refine Below.setCell ?_ ?_ _) | (with_reducible refine Below.alloc ?_ ?_ _) | (with_reducible refine Below.drew ?_) | (with_reducible refine below_drewN ?_ _) | (with_reducible refine below_next ?_ (by with_reducible assumption)) | omega | (dsimp only; omega) | (simp only [World.size_alloc, World.size_setCell, World.size_drew, World.heap_drewN]; omega)))⟩; simp [intV, longV, IntKind.wrap_u64, wrap32_mod, wrap64_mod])
set_option maxRecDepth 100000 in
set_option maxHeartbeats 4000000 in
theorem rw_92_yes (x : Nat) (T : Int) (hT : wholeOf x = some T) (hr : 0 ≤ T ∧ T < 4294967296) (w : World) :
    Calls Try.prog 53 #[.int .i64 92, .float .f64 x] w fun e w' => e = .returned (.tuple #[.agg #[.int .i64 (intV T).k, .int .u64 (intV T).b, .int .i64 (intV T).l], .bool true]) ∧ Below w.heap.size w w' := by
  have hok : okT (wholeOf x) (0) (4294967296) = true := by rw [hT]; simp [okT]; exact hr
  have HIN : Hid (∀ w : World, Calls Try.prog 67 #[.float .f64 x, .float .f64 13830554455654793216, .float .f64 4751297606875873280] w fun e w' => ∃ y, e = .returned (.tuple #[.float .f64 y, .bool true]) ∧ TruncOf x y ∧ Below w.heap.size w w') := Lib.hid fun w => by
    have g := ref_trunc_any x 13830554455654793216 4751297606875873280 w
    have g2 : ((Ieee.double.order x 13830554455654793216 == some .gt) && (Ieee.double.order x 4751297606875873280 == some .lt)) = true := by rw [← hok]; exact in_self (by omega) (by omega) c_m1 c_p32
    rw [g2] at g
    exact g
  have HCV : Hid (∀ y, TruncOf x y → ∀ w : World, (convert 53 2 (.float .f64 y)).run Try.prog w = .ok (.int .i64 T) w) := Lib.hid fun y h w => conv_y hT (by exact Try.underlying2) (by simp only [show IntKind.i64.min = -9223372036854775808 from by decide, show IntKind.u64.min = 0 from by decide, show IntKind.i64.max = 9223372036854775807 from by decide, show IntKind.u64.max = 18446744073709551615 from by decide]; omega) h w
  obtain ⟨r1, r2⟩ := hr
  clear hok hT
  have hA1 := cell_alloc_if
  have hA2 := frozen_alloc_if
  have hA3 := cell_set_if
  go_enter Try.func53, Try.ntmps53
  go_wp2_with (first
    | (go_at_call 67; (with_reducible refine (HIN.out _).mono ?_); rintro e w1 ⟨y, rfl, hy, hbl⟩; have hcv := HCV.out y hy; obtain ⟨hc, hf, hz⟩ := cif hbl; (try simp only [World.size_alloc, World.size_setCell, World.size_drew, World.heap_drewN] at hz))
    | (go_at_call 23; with_reducible refine (ref_int_any _ _).mono ?_; rintro e w' ⟨rfl, hbl⟩; obtain ⟨hc, hf, hz⟩ := cif hbl; (try simp only [World.size_alloc, World.size_setCell, World.size_drew, World.heap_drewN] at hz))
    | (go_at_call 22; with_reducible refine (ref_long_any _ _).mono ?_; rintro e w' ⟨rfl, hbl⟩; obtain ⟨hc, hf, hz⟩ := cif hbl; (try simp only [World.size_alloc, World.size_setCell, World.size_drew, World.heap_drewN] at hz)))
  all_goals (((try simp only [Exit.inBlock, Exit.then]); go_light; refine bodyPost_ret (by simp [results, Try.results53, go_sem, *, ↓IntWalk.iteOmega]; try rfl) rfl ?_); refine ⟨congrArg Ending.returned ?_, by (repeat' (first | (with_reducible exact Below.refl _ _) | (with_reducible assumption) | (with_reducible refine Below.setCell ?_ ?_ _) | (with_reducible refine Below.alloc ?_ ?_ _) | (with_reducible refine Below.drew ?_) | (with_reducible refine below_drewN ?_ _) | (with_reducible refine below_next ?_ (by with_reducible assumption)) | omega | (dsimp only; omega) | (simp only [World.size_alloc, World.size_setCell, World.size_drew, World.heap_drewN]; omega)))⟩; simp [intV, longV, IntKind.wrap_u64, wrap32_mod, wrap64_mod])
set_option maxRecDepth 100000 in
set_option maxHeartbeats 4000000 in
theorem rw_93_yes (x : Nat) (T : Int) (hT : wholeOf x = some T) (hr : -9223372036854775808 ≤ T ∧ T < 9223372036854775808) (w : World) :
    Calls Try.prog 53 #[.int .i64 93, .float .f64 x] w fun e w' => e = .returned (.tuple #[.agg #[.int .i64 (longV T).k, .int .u64 (longV T).b, .int .i64 (longV T).l], .bool true]) ∧ Below w.heap.size w w' := by
  have hok : okT (wholeOf x) (-9223372036854775808) (9223372036854775808) = true := by rw [hT]; simp [okT]; exact hr
  have HIN : Hid (∀ w : World, Calls Try.prog 67 #[.float .f64 x, .float .f64 14114281232179134465, .float .f64 4890909195324358656] w fun e w' => ∃ y, e = .returned (.tuple #[.float .f64 y, .bool true]) ∧ TruncOf x y ∧ Below w.heap.size w w') := Lib.hid fun w => by
    have g := ref_trunc_any x 14114281232179134465 4890909195324358656 w
    have g2 : ((Ieee.double.order x 14114281232179134465 == some .gt) && (Ieee.double.order x 4890909195324358656 == some .lt)) = true := by rw [← hok]; exact in_self63 (by omega) c_m63b c_p63
    rw [g2] at g
    exact g
  have HCV : Hid (∀ y, TruncOf x y → ∀ w : World, (convert 53 2 (.float .f64 y)).run Try.prog w = .ok (.int .i64 T) w) := Lib.hid fun y h w => conv_y hT (by exact Try.underlying2) (by simp only [show IntKind.i64.min = -9223372036854775808 from by decide, show IntKind.u64.min = 0 from by decide, show IntKind.i64.max = 9223372036854775807 from by decide, show IntKind.u64.max = 18446744073709551615 from by decide]; omega) h w
  obtain ⟨r1, r2⟩ := hr
  clear hok hT
  have hA1 := cell_alloc_if
  have hA2 := frozen_alloc_if
  have hA3 := cell_set_if
  go_enter Try.func53, Try.ntmps53
  go_wp2_with (first
    | (go_at_call 67; (with_reducible refine (HIN.out _).mono ?_); rintro e w1 ⟨y, rfl, hy, hbl⟩; have hcv := HCV.out y hy; obtain ⟨hc, hf, hz⟩ := cif hbl; (try simp only [World.size_alloc, World.size_setCell, World.size_drew, World.heap_drewN] at hz))
    | (go_at_call 23; with_reducible refine (ref_int_any _ _).mono ?_; rintro e w' ⟨rfl, hbl⟩; obtain ⟨hc, hf, hz⟩ := cif hbl; (try simp only [World.size_alloc, World.size_setCell, World.size_drew, World.heap_drewN] at hz))
    | (go_at_call 22; with_reducible refine (ref_long_any _ _).mono ?_; rintro e w' ⟨rfl, hbl⟩; obtain ⟨hc, hf, hz⟩ := cif hbl; (try simp only [World.size_alloc, World.size_setCell, World.size_drew, World.heap_drewN] at hz)))
  all_goals (((try simp only [Exit.inBlock, Exit.then]); go_light; refine bodyPost_ret (by simp [results, Try.results53, go_sem, *, ↓IntWalk.iteOmega]; try rfl) rfl ?_); refine ⟨congrArg Ending.returned ?_, by (repeat' (first | (with_reducible exact Below.refl _ _) | (with_reducible assumption) | (with_reducible refine Below.setCell ?_ ?_ _) | (with_reducible refine Below.alloc ?_ ?_ _) | (with_reducible refine Below.drew ?_) | (with_reducible refine below_drewN ?_ _) | (with_reducible refine below_next ?_ (by with_reducible assumption)) | omega | (dsimp only; omega) | (simp only [World.size_alloc, World.size_setCell, World.size_drew, World.heap_drewN]; omega)))⟩; simp [intV, longV, IntKind.wrap_u64, wrap32_mod, wrap64_mod])
set_option maxRecDepth 100000 in
set_option maxHeartbeats 4000000 in
theorem rw_94_yes (x : Nat) (T : Int) (hT : wholeOf x = some T) (hr : 0 ≤ T ∧ T < 18446744073709551616) (w : World) :
    Calls Try.prog 53 #[.int .i64 94, .float .f64 x] w fun e w' => e = .returned (.tuple #[.agg #[.int .i64 (longV T).k, .int .u64 (longV T).b, .int .i64 (longV T).l], .bool true]) ∧ Below w.heap.size w w' := by
  have hok : okT (wholeOf x) (0) (18446744073709551616) = true := by rw [hT]; simp [okT]; exact hr
  have HIN : Hid (∀ w : World, Calls Try.prog 67 #[.float .f64 x, .float .f64 13830554455654793216, .float .f64 4895412794951729152] w fun e w' => ∃ y, e = .returned (.tuple #[.float .f64 y, .bool true]) ∧ TruncOf x y ∧ Below w.heap.size w w') := Lib.hid fun w => by
    have g := ref_trunc_any x 13830554455654793216 4895412794951729152 w
    have g2 : ((Ieee.double.order x 13830554455654793216 == some .gt) && (Ieee.double.order x 4895412794951729152 == some .lt)) = true := by rw [← hok]; exact in_self (by omega) (by omega) c_m1 c_p64
    rw [g2] at g
    exact g
  have HCV : Hid (∀ y, TruncOf x y → ∀ w : World, (convert 53 22 (.float .f64 y)).run Try.prog w = .ok (.int .u64 T) w) := Lib.hid fun y h w => conv_y hT (by exact Try.underlying22) (by simp only [show IntKind.i64.min = -9223372036854775808 from by decide, show IntKind.u64.min = 0 from by decide, show IntKind.i64.max = 9223372036854775807 from by decide, show IntKind.u64.max = 18446744073709551615 from by decide]; omega) h w
  obtain ⟨r1, r2⟩ := hr
  clear hok hT
  have hA1 := cell_alloc_if
  have hA2 := frozen_alloc_if
  have hA3 := cell_set_if
  go_enter Try.func53, Try.ntmps53
  go_wp2_with (first
    | (go_at_call 67; (with_reducible refine (HIN.out _).mono ?_); rintro e w1 ⟨y, rfl, hy, hbl⟩; have hcv := HCV.out y hy; obtain ⟨hc, hf, hz⟩ := cif hbl; (try simp only [World.size_alloc, World.size_setCell, World.size_drew, World.heap_drewN] at hz))
    | (go_at_call 23; with_reducible refine (ref_int_any _ _).mono ?_; rintro e w' ⟨rfl, hbl⟩; obtain ⟨hc, hf, hz⟩ := cif hbl; (try simp only [World.size_alloc, World.size_setCell, World.size_drew, World.heap_drewN] at hz))
    | (go_at_call 22; with_reducible refine (ref_long_any _ _).mono ?_; rintro e w' ⟨rfl, hbl⟩; obtain ⟨hc, hf, hz⟩ := cif hbl; (try simp only [World.size_alloc, World.size_setCell, World.size_drew, World.heap_drewN] at hz)))
  all_goals (((try simp only [Exit.inBlock, Exit.then]); go_light; refine bodyPost_ret (by simp [results, Try.results53, go_sem, *, ↓IntWalk.iteOmega]; try rfl) rfl ?_); refine ⟨congrArg Ending.returned ?_, by (repeat' (first | (with_reducible exact Below.refl _ _) | (with_reducible assumption) | (with_reducible refine Below.setCell ?_ ?_ _) | (with_reducible refine Below.alloc ?_ ?_ _) | (with_reducible refine Below.drew ?_) | (with_reducible refine below_drewN ?_ _) | (with_reducible refine below_next ?_ (by with_reducible assumption)) | omega | (dsimp only; omega) | (simp only [World.size_alloc, World.size_setCell, World.size_drew, World.heap_drewN]; omega)))⟩; simp [intV, longV, IntKind.wrap_u64, wrap32_mod, wrap64_mod])
set_option maxRecDepth 100000 in
set_option maxHeartbeats 4000000 in
theorem rw_91_no (x : Nat) (hok : okT (wholeOf x) (-2147483648) (2147483648) = false) (w : World) :
    Calls Try.prog 53 #[.int .i64 91, .float .f64 x] w fun e w' => e = .returned (.tuple #[.agg #[.int .i64 0, .int .u64 0, .int .i64 0], .bool false]) ∧ Below w.heap.size w w' := by
  have HIN : Hid (∀ w : World, Calls Try.prog 67 #[.float .f64 x, .float .f64 13970166044105375744, .float .f64 4746794007248502784] w fun e w' => ∃ y, e = .returned (.tuple #[.float .f64 y, .bool false]) ∧ TruncOf x y ∧ Below w.heap.size w w') := Lib.hid fun w => by
    have g := ref_trunc_any x 13970166044105375744 4746794007248502784 w
    have g2 : ((Ieee.double.order x 13970166044105375744 == some .gt) && (Ieee.double.order x 4746794007248502784 == some .lt)) = false := by rw [← hok]; exact in_self (by omega) (by omega) c_m31b c_p31
    rw [g2] at g
    exact g
  clear hok
  have hA1 := cell_alloc_if
  have hA2 := frozen_alloc_if
  have hA3 := cell_set_if
  go_enter Try.func53, Try.ntmps53
  go_wp2_with (first
    | (go_at_call 67; (with_reducible refine (HIN.out _).mono ?_); rintro e w1 ⟨y, rfl, hy, hbl⟩; obtain ⟨hc, hf, hz⟩ := cif hbl; (try simp only [World.size_alloc, World.size_setCell, World.size_drew, World.heap_drewN] at hz)))
  all_goals (((try simp only [Exit.inBlock, Exit.then]); go_light; refine bodyPost_ret (by simp [results, Try.results53, go_sem, *, ↓IntWalk.iteOmega]; try rfl) rfl ?_); exact ⟨rfl, by (repeat' (first | (with_reducible exact Below.refl _ _) | (with_reducible assumption) | (with_reducible refine Below.setCell ?_ ?_ _) | (with_reducible refine Below.alloc ?_ ?_ _) | (with_reducible refine Below.drew ?_) | (with_reducible refine below_drewN ?_ _) | (with_reducible refine below_next ?_ (by with_reducible assumption)) | omega | (dsimp only; omega) | (simp only [World.size_alloc, World.size_setCell, World.size_drew, World.heap_drewN]; omega)))⟩)
set_option maxRecDepth 100000 in
set_option maxHeartbeats 4000000 in
theorem rw_92_no (x : Nat) (hok : okT (wholeOf x) (0) (4294967296) = false) (w : World) :
    Calls Try.prog 53 #[.int .i64 92, .float .f64 x] w fun e w' => e = .returned (.tuple #[.agg #[.int .i64 0, .int .u64 0, .int .i64 0], .bool false]) ∧ Below w.heap.size w w' := by
  have HIN : Hid (∀ w : World, Calls Try.prog 67 #[.float .f64 x, .float .f64 13830554455654793216, .float .f64 4751297606875873280] w fun e w' => ∃ y, e = .returned (.tuple #[.float .f64 y, .bool false]) ∧ TruncOf x y ∧ Below w.heap.size w w') := Lib.hid fun w => by
    have g := ref_trunc_any x 13830554455654793216 4751297606875873280 w
    have g2 : ((Ieee.double.order x 13830554455654793216 == some .gt) && (Ieee.double.order x 4751297606875873280 == some .lt)) = false := by rw [← hok]; exact in_self (by omega) (by omega) c_m1 c_p32
    rw [g2] at g
    exact g
  clear hok
  have hA1 := cell_alloc_if
  have hA2 := frozen_alloc_if
  have hA3 := cell_set_if
  go_enter Try.func53, Try.ntmps53
  go_wp2_with (first
    | (go_at_call 67; (with_reducible refine (HIN.out _).mono ?_); rintro e w1 ⟨y, rfl, hy, hbl⟩; obtain ⟨hc, hf, hz⟩ := cif hbl; (try simp only [World.size_alloc, World.size_setCell, World.size_drew, World.heap_drewN] at hz)))
  all_goals (((try simp only [Exit.inBlock, Exit.then]); go_light; refine bodyPost_ret (by simp [results, Try.results53, go_sem, *, ↓IntWalk.iteOmega]; try rfl) rfl ?_); exact ⟨rfl, by (repeat' (first | (with_reducible exact Below.refl _ _) | (with_reducible assumption) | (with_reducible refine Below.setCell ?_ ?_ _) | (with_reducible refine Below.alloc ?_ ?_ _) | (with_reducible refine Below.drew ?_) | (with_reducible refine below_drewN ?_ _) | (with_reducible refine below_next ?_ (by with_reducible assumption)) | omega | (dsimp only; omega) | (simp only [World.size_alloc, World.size_setCell, World.size_drew, World.heap_drewN]; omega)))⟩)
set_option maxRecDepth 100000 in
set_option maxHeartbeats 4000000 in
theorem rw_93_no (x : Nat) (hok : okT (wholeOf x) (-9223372036854775808) (9223372036854775808) = false) (w : World) :
    Calls Try.prog 53 #[.int .i64 93, .float .f64 x] w fun e w' => e = .returned (.tuple #[.agg #[.int .i64 0, .int .u64 0, .int .i64 0], .bool false]) ∧ Below w.heap.size w w' := by
  have HIN : Hid (∀ w : World, Calls Try.prog 67 #[.float .f64 x, .float .f64 14114281232179134465, .float .f64 4890909195324358656] w fun e w' => ∃ y, e = .returned (.tuple #[.float .f64 y, .bool false]) ∧ TruncOf x y ∧ Below w.heap.size w w') := Lib.hid fun w => by
    have g := ref_trunc_any x 14114281232179134465 4890909195324358656 w
    have g2 : ((Ieee.double.order x 14114281232179134465 == some .gt) && (Ieee.double.order x 4890909195324358656 == some .lt)) = false := by rw [← hok]; exact in_self63 (by omega) c_m63b c_p63
    rw [g2] at g
    exact g
  clear hok
  have hA1 := cell_alloc_if
  have hA2 := frozen_alloc_if
  have hA3 := cell_set_if
  go_enter Try.func53, Try.ntmps53
  go_wp2_with (first
    | (go_at_call 67; (with_reducible refine (HIN.out _).mono ?_); rintro e w1 ⟨y, rfl, hy, hbl⟩; obtain ⟨hc, hf, hz⟩ := cif hbl; (try simp only [World.size_alloc, World.size_setCell, World.size_drew, World.heap_drewN] at hz)))
  all_goals (((try simp only [Exit.inBlock, Exit.then]); go_light; refine bodyPost_ret (by simp [results, Try.results53, go_sem, *, ↓IntWalk.iteOmega]; try rfl) rfl ?_); exact ⟨rfl, by (repeat' (first | (with_reducible exact Below.refl _ _) | (with_reducible assumption) | (with_reducible refine Below.setCell ?_ ?_ _) | (with_reducible refine Below.alloc ?_ ?_ _) | (with_reducible refine Below.drew ?_) | (with_reducible refine below_drewN ?_ _) | (with_reducible refine below_next ?_ (by with_reducible assumption)) | omega | (dsimp only; omega) | (simp only [World.size_alloc, World.size_setCell, World.size_drew, World.heap_drewN]; omega)))⟩)
set_option maxRecDepth 100000 in
set_option maxHeartbeats 4000000 in
theorem rw_94_no (x : Nat) (hok : okT (wholeOf x) (0) (18446744073709551616) = false) (w : World) :
    Calls Try.prog 53 #[.int .i64 94, .float .f64 x] w fun e w' => e = .returned (.tuple #[.agg #[.int .i64 0, .int .u64 0, .int .i64 0], .bool false]) ∧ Below w.heap.size w w' := by
  have HIN : Hid (∀ w : World, Calls Try.prog 67 #[.float .f64 x, .float .f64 13830554455654793216, .float .f64 4895412794951729152] w fun e w' => ∃ y, e = .returned (.tuple #[.float .f64 y, .bool false]) ∧ TruncOf x y ∧ Below w.heap.size w w') := Lib.hid fun w => by
    have g := ref_trunc_any x 13830554455654793216 4895412794951729152 w
    have g2 : ((Ieee.double.order x 13830554455654793216 == some .gt) && (Ieee.double.order x 4895412794951729152 == some .lt)) = false := by rw [← hok]; exact in_self (by omega) (by omega) c_m1 c_p64
    rw [g2] at g
    exact g
  clear hok
  have hA1 := cell_alloc_if
  have hA2 := frozen_alloc_if
  have hA3 := cell_set_if
  go_enter Try.func53, Try.ntmps53
  go_wp2_with (first
    | (go_at_call 67; (with_reducible refine (HIN.out _).mono ?_); rintro e w1 ⟨y, rfl, hy, hbl⟩; obtain ⟨hc, hf, hz⟩ := cif hbl; (try simp only [World.size_alloc, World.size_setCell, World.size_drew, World.heap_drewN] at hz)))
  all_goals (((try simp only [Exit.inBlock, Exit.then]); go_light; refine bodyPost_ret (by simp [results, Try.results53, go_sem, *, ↓IntWalk.iteOmega]; try rfl) rfl ?_); exact ⟨rfl, by (repeat' (first | (with_reducible exact Below.refl _ _) | (with_reducible assumption) | (with_reducible refine Below.setCell ?_ ?_ _) | (with_reducible refine Below.alloc ?_ ?_ _) | (with_reducible refine Below.drew ?_) | (with_reducible refine below_drewN ?_ _) | (with_reducible refine below_next ?_ (by with_reducible assumption)) | omega | (dsimp only; omega) | (simp only [World.size_alloc, World.size_setCell, World.size_drew, World.heap_drewN]; omega)))⟩)
/-- fromDouble, of each of its operations. -/
theorem fromDouble_any (op : Int) (x : Nat) (ho : op = 91 ∨ op = 92 ∨ op = 93 ∨ op = 94) (w : World) :
    Calls Try.prog 53 #[.int .i64 op, .float .f64 x] w fun e w' => e = .returned (.tuple #[.agg #[.int .i64 (toWholeV op x).1.k, .int .u64 (toWholeV op x).1.b, .int .i64 (toWholeV op x).1.l], .bool (toWholeV op x).2]) ∧ Below w.heap.size w w' := by
  cases hT : wholeOf x with
  | none =>
    have e : toWholeV op x = (undefV, false) := by unfold toWholeV; rw [hT]
    rw [e]
    have ok : ∀ L H, okT (wholeOf x) L H = false := fun L H => by rw [hT]; rfl
    rcases ho with rfl | rfl | rfl | rfl
    · exact rw_91_no x (ok _ _) w
    · exact rw_92_no x (ok _ _) w
    · exact rw_93_no x (ok _ _) w
    · exact rw_94_no x (ok _ _) w
  | some T =>
    have ok : ∀ L H, ¬ (L ≤ T ∧ T < H) → okT (wholeOf x) L H = false := fun L H h => by rw [hT]; simp only [okT]; rw [Bool.and_eq_false_iff]; simp only [decide_eq_false_iff_not]; omega
    unfold toWholeV
    rw [hT]
    dsimp only
    rcases ho with rfl | rfl | rfl | rfl
    · by_cases h : -2147483648 ≤ T ∧ T < 2147483648
      · rw [if_pos rfl, if_pos h]; exact rw_91_yes x T hT h w
      · rw [if_pos rfl, if_neg h]; exact rw_91_no x (ok _ _ h) w
    · by_cases h : 0 ≤ T ∧ T < 4294967296
      · rw [if_neg (by omega), if_pos rfl, if_pos h]; exact rw_92_yes x T hT h w
      · rw [if_neg (by omega), if_pos rfl, if_neg h]; exact rw_92_no x (ok _ _ h) w
    · by_cases h : -9223372036854775808 ≤ T ∧ T < 9223372036854775808
      · rw [if_neg (by omega), if_neg (by omega), if_pos rfl, if_pos h]; exact rw_93_yes x T hT h w
      · rw [if_neg (by omega), if_neg (by omega), if_pos rfl, if_neg h]; exact rw_93_no x (ok _ _ h) w
    · by_cases h : 0 ≤ T ∧ T < 18446744073709551616
      · rw [if_neg (by omega), if_neg (by omega), if_neg (by omega), if_pos h]; exact rw_94_yes x T hT h w
      · rw [if_neg (by omega), if_neg (by omega), if_neg (by omega), if_neg h]; exact rw_94_no x (ok _ _ h) w

end Go.Proofs.Ytonhphiajjkgaaa
