/-
  What MemoryKeeps needs of layer 1: four operations of one; Right.
-/
import Derived.Test.YtddipbpllogbaaaMemKeepsA
import Derived.Test.YtddipbpllogbaaaMachW1
import Derived.Deep.Light
import Derived.Deep.QuietTactic
import Derived.BigQuiet
namespace Go.Proofs.Ytddipbpllogbaaa
open Go.RowKit
set_option linter.unusedVariables false
set_option linter.unusedSimpArgs false

def rightV (k b l : Int) : Bool :=
  if k = 0 then decide (b = 0 ∧ l = 0) else if k = 1 then decide (b < 4294967296 ∧ l = 0) else if k = 2 ∨ k = 3 then decide (l = 0) else decide (k = 4 ∧ l ≠ 0)
set_option maxHeartbeats 1000000 in
theorem ref_right_any (k b l : Int) (hb : U64 b) (w : World) :
    Calls Try.prog 29 #[.agg #[.int .i64 k, .int .u64 b, .int .i64 l]] w fun e w' => e = .returned (.bool (rightV k b l)) ∧ Below w.heap.size w w' := by
  obtain ⟨hb1, hb2⟩ := hb
  go_enter Try.func29, Try.ntmps29
  go_wp2
  all_goals (go_returns; refine ⟨?_, by (repeat' (first | (with_reducible exact Below.refl _ _) | (with_reducible assumption) | (with_reducible refine Below.setCell ?_ ?_ _) | (with_reducible refine Below.alloc ?_ ?_ _) | (with_reducible refine Below.drew ?_) | (with_reducible refine below_drewN ?_ _) | (with_reducible refine below_next ?_ (by with_reducible assumption)) | omega | (dsimp only; omega) | (simp only [World.size_alloc, World.size_setCell, World.size_drew, World.heap_drewN]; omega)))⟩; go_light; simp; grind [rightV])

theorem wr_i8 (n : Int) : IntKind.i8.wrap n = (n + 128) % 256 - 128 := by simp [IntKind.wrap, IntKind.bits, IntKind.signed]; try omega
theorem wr_i16 (n : Int) : IntKind.i16.wrap n = (n + 32768) % 65536 - 32768 := by simp [IntKind.wrap, IntKind.bits, IntKind.signed]; try omega
theorem i8_w (b : Int) : IntKind.i8.wrap (wrap32 b) = IntKind.i8.wrap b := by rw [wr_i8, wr_i8]; unfold wrap32; omega
theorem i8_m (b : Int) : IntKind.i8.wrap (b % 4294967296) = IntKind.i8.wrap b := by rw [wr_i8, wr_i8]; omega
theorem i16_w (b : Int) : IntKind.i16.wrap (wrap32 b) = IntKind.i16.wrap b := by rw [wr_i16, wr_i16]; unfold wrap32; omega
theorem i16_m (b : Int) : IntKind.i16.wrap (b % 4294967296) = IntKind.i16.wrap b := by rw [wr_i16, wr_i16]; omega
theorem wrap32_mod' (b : Int) : wrap32 (b % 4294967296) = wrap32 b := by unfold wrap32; omega
/-- A number cut to a chunk's bytes. -/
def cut (op b : Int) : Int := if op = 80 then (IntKind.i8.wrap b) % 4294967296 else if op = 81 then b % 256 else if op = 82 then (IntKind.i16.wrap b) % 4294967296 else b % 65536

set_option maxRecDepth 100000 in
set_option maxHeartbeats 4000000 in
theorem ev_80 (b l : Int) (hb : U64 b) (w : World) :
    Calls Try.prog 30 #[.int .i64 80, .agg #[.int .i64 1, .int .u64 b, .int .i64 l]] w fun e w' => e = .returned (.tuple #[.agg #[.int .i64 1, .int .u64 (cut 80 b), .int .i64 0], .bool true]) ∧ Below w.heap.size w w' := by
  have hsh := shape_any 80 (by unfold I64; omega)
  rw [show shape 80 = (1, 0, 1) from by kernel_rfl] at hsh
  have HS := Lib.hid hsh
  clear hsh
  obtain ⟨b1, b2⟩ := hb
  have hA1 := cell_alloc_if
  have hA2 := frozen_alloc_if
  have hA3 := cell_set_if
  go_enter Try.func30, Try.ntmps30
  go_wp2_with (first
    | (go_at_call 51; with_reducible refine (HS.out _).mono ?_; rintro e w' ⟨rfl, rfl⟩)
    | (go_at_call 25; with_reducible refine (intOf_any _ _).mono ?_; rintro e w' ⟨rfl, hbl⟩; obtain ⟨hc, hf, hz⟩ := cif hbl; (try simp only [World.size_alloc, World.size_setCell, World.size_drew, World.heap_drewN] at hz)))
  go_quiet (fail)
  go_wp2_with (first
    | (go_at_call 51; with_reducible refine (HS.out _).mono ?_; rintro e w' ⟨rfl, rfl⟩)
    | (go_at_call 25; with_reducible refine (intOf_any _ _).mono ?_; rintro e w' ⟨rfl, hbl⟩; obtain ⟨hc, hf, hz⟩ := cif hbl; (try simp only [World.size_alloc, World.size_setCell, World.size_drew, World.heap_drewN] at hz)))
  all_goals (((try simp only [Exit.inBlock, Exit.then]); go_light; refine bodyPost_ret (by simp [results, Try.results30, go_sem, *, ↓IntWalk.iteOmega]; try rfl) rfl ?_); refine ⟨congrArg Ending.returned ?_, by (repeat' (first | (with_reducible exact Below.refl _ _) | (with_reducible assumption) | (with_reducible refine Below.setCell ?_ ?_ _) | (with_reducible refine Below.alloc ?_ ?_ _) | (with_reducible refine Below.drew ?_) | (with_reducible refine below_drewN ?_ _) | (with_reducible refine below_next ?_ (by with_reducible assumption)) | omega | (dsimp only; omega) | (simp only [World.size_alloc, World.size_setCell, World.size_drew, World.heap_drewN]; omega)))⟩; simp [cut, wrap32_mod, wrap32_mod', i8_w, i8_m, i16_w, i16_m, IntKind.wrap_u16]; try (simp only [wrap32, wrap64]; omega))
set_option maxRecDepth 100000 in
set_option maxHeartbeats 4000000 in
theorem no_80 (b l : Int) (w : World) :
    Calls Try.prog 30 #[.int .i64 80, .agg #[.int .i64 0, .int .u64 b, .int .i64 l]] w fun e w' => e = .returned (.tuple #[.agg #[.int .i64 0, .int .u64 0, .int .i64 0], .bool false]) ∧ Below w.heap.size w w' := by
  have hsh := shape_any 80 (by unfold I64; omega)
  rw [show shape 80 = (1, 0, 1) from by kernel_rfl] at hsh
  have HS := Lib.hid hsh
  clear hsh
  have hA1 := cell_alloc_if
  have hA2 := frozen_alloc_if
  have hA3 := cell_set_if
  go_enter Try.func30, Try.ntmps30
  go_wp2_with (first
    | (go_at_call 51; with_reducible refine (HS.out _).mono ?_; rintro e w' ⟨rfl, rfl⟩)
    | (go_at_call 25; with_reducible refine (intOf_any _ _).mono ?_; rintro e w' ⟨rfl, hbl⟩; obtain ⟨hc, hf, hz⟩ := cif hbl; (try simp only [World.size_alloc, World.size_setCell, World.size_drew, World.heap_drewN] at hz)))
  all_goals (((try simp only [Exit.inBlock, Exit.then]); go_light; refine bodyPost_ret (by simp [results, Try.results30, go_sem, *, ↓IntWalk.iteOmega]; try rfl) rfl ?_); exact ⟨rfl, by (repeat' (first | (with_reducible exact Below.refl _ _) | (with_reducible assumption) | (with_reducible refine Below.setCell ?_ ?_ _) | (with_reducible refine Below.alloc ?_ ?_ _) | (with_reducible refine Below.drew ?_) | (with_reducible refine below_drewN ?_ _) | (with_reducible refine below_next ?_ (by with_reducible assumption)) | omega | (dsimp only; omega) | (simp only [World.size_alloc, World.size_setCell, World.size_drew, World.heap_drewN]; omega)))⟩)
set_option maxRecDepth 100000 in
set_option maxHeartbeats 4000000 in
theorem ev_81 (b l : Int) (hb : U64 b) (w : World) :
    Calls Try.prog 30 #[.int .i64 81, .agg #[.int .i64 1, .int .u64 b, .int .i64 l]] w fun e w' => e = .returned (.tuple #[.agg #[.int .i64 1, .int .u64 (cut 81 b), .int .i64 0], .bool true]) ∧ Below w.heap.size w w' := by
  have hsh := shape_any 81 (by unfold I64; omega)
  rw [show shape 81 = (1, 0, 1) from by kernel_rfl] at hsh
  have HS := Lib.hid hsh
  clear hsh
  obtain ⟨b1, b2⟩ := hb
  have hA1 := cell_alloc_if
  have hA2 := frozen_alloc_if
  have hA3 := cell_set_if
  go_enter Try.func30, Try.ntmps30
  go_wp2_with (first
    | (go_at_call 51; with_reducible refine (HS.out _).mono ?_; rintro e w' ⟨rfl, rfl⟩)
    | (go_at_call 25; with_reducible refine (intOf_any _ _).mono ?_; rintro e w' ⟨rfl, hbl⟩; obtain ⟨hc, hf, hz⟩ := cif hbl; (try simp only [World.size_alloc, World.size_setCell, World.size_drew, World.heap_drewN] at hz)))
  go_quiet (fail)
  go_wp2_with (first
    | (go_at_call 51; with_reducible refine (HS.out _).mono ?_; rintro e w' ⟨rfl, rfl⟩)
    | (go_at_call 25; with_reducible refine (intOf_any _ _).mono ?_; rintro e w' ⟨rfl, hbl⟩; obtain ⟨hc, hf, hz⟩ := cif hbl; (try simp only [World.size_alloc, World.size_setCell, World.size_drew, World.heap_drewN] at hz)))
  all_goals (((try simp only [Exit.inBlock, Exit.then]); go_light; refine bodyPost_ret (by simp [results, Try.results30, go_sem, *, ↓IntWalk.iteOmega]; try rfl) rfl ?_); refine ⟨congrArg Ending.returned ?_, by (repeat' (first | (with_reducible exact Below.refl _ _) | (with_reducible assumption) | (with_reducible refine Below.setCell ?_ ?_ _) | (with_reducible refine Below.alloc ?_ ?_ _) | (with_reducible refine Below.drew ?_) | (with_reducible refine below_drewN ?_ _) | (with_reducible refine below_next ?_ (by with_reducible assumption)) | omega | (dsimp only; omega) | (simp only [World.size_alloc, World.size_setCell, World.size_drew, World.heap_drewN]; omega)))⟩; simp [cut, wrap32_mod, wrap32_mod', i8_w, i8_m, i16_w, i16_m, IntKind.wrap_u16]; try (simp only [wrap32, wrap64]; omega))
set_option maxRecDepth 100000 in
set_option maxHeartbeats 4000000 in
theorem no_81 (b l : Int) (w : World) :
    Calls Try.prog 30 #[.int .i64 81, .agg #[.int .i64 0, .int .u64 b, .int .i64 l]] w fun e w' => e = .returned (.tuple #[.agg #[.int .i64 0, .int .u64 0, .int .i64 0], .bool false]) ∧ Below w.heap.size w w' := by
  have hsh := shape_any 81 (by unfold I64; omega)
  rw [show shape 81 = (1, 0, 1) from by kernel_rfl] at hsh
  have HS := Lib.hid hsh
  clear hsh
  have hA1 := cell_alloc_if
  have hA2 := frozen_alloc_if
  have hA3 := cell_set_if
  go_enter Try.func30, Try.ntmps30
  go_wp2_with (first
    | (go_at_call 51; with_reducible refine (HS.out _).mono ?_; rintro e w' ⟨rfl, rfl⟩)
    | (go_at_call 25; with_reducible refine (intOf_any _ _).mono ?_; rintro e w' ⟨rfl, hbl⟩; obtain ⟨hc, hf, hz⟩ := cif hbl; (try simp only [World.size_alloc, World.size_setCell, World.size_drew, World.heap_drewN] at hz)))
  all_goals (((try simp only [Exit.inBlock, Exit.then]); go_light; refine bodyPost_ret (by simp [results, Try.results30, go_sem, *, ↓IntWalk.iteOmega]; try rfl) rfl ?_); exact ⟨rfl, by (repeat' (first | (with_reducible exact Below.refl _ _) | (with_reducible assumption) | (with_reducible refine Below.setCell ?_ ?_ _) | (with_reducible refine Below.alloc ?_ ?_ _) | (with_reducible refine Below.drew ?_) | (with_reducible refine below_drewN ?_ _) | (with_reducible refine below_next ?_ (by with_reducible assumption)) | omega | (dsimp only; omega) | (simp only [World.size_alloc, World.size_setCell, World.size_drew, World.heap_drewN]; omega)))⟩)
set_option maxRecDepth 100000 in
set_option maxHeartbeats 4000000 in
theorem ev_82 (b l : Int) (hb : U64 b) (w : World) :
    Calls Try.prog 30 #[.int .i64 82, .agg #[.int .i64 1, .int .u64 b, .int .i64 l]] w fun e w' => e = .returned (.tuple #[.agg #[.int .i64 1, .int .u64 (cut 82 b), .int .i64 0], .bool true]) ∧ Below w.heap.size w w' := by
  have hsh := shape_any 82 (by unfold I64; omega)
  rw [show shape 82 = (1, 0, 1) from by kernel_rfl] at hsh
  have HS := Lib.hid hsh
  clear hsh
  obtain ⟨b1, b2⟩ := hb
  have hA1 := cell_alloc_if
  have hA2 := frozen_alloc_if
  have hA3 := cell_set_if
  go_enter Try.func30, Try.ntmps30
  go_wp2_with (first
    | (go_at_call 51; with_reducible refine (HS.out _).mono ?_; rintro e w' ⟨rfl, rfl⟩)
    | (go_at_call 25; with_reducible refine (intOf_any _ _).mono ?_; rintro e w' ⟨rfl, hbl⟩; obtain ⟨hc, hf, hz⟩ := cif hbl; (try simp only [World.size_alloc, World.size_setCell, World.size_drew, World.heap_drewN] at hz)))
  go_quiet (fail)
  go_wp2_with (first
    | (go_at_call 51; with_reducible refine (HS.out _).mono ?_; rintro e w' ⟨rfl, rfl⟩)
    | (go_at_call 25; with_reducible refine (intOf_any _ _).mono ?_; rintro e w' ⟨rfl, hbl⟩; obtain ⟨hc, hf, hz⟩ := cif hbl; (try simp only [World.size_alloc, World.size_setCell, World.size_drew, World.heap_drewN] at hz)))
  all_goals (((try simp only [Exit.inBlock, Exit.then]); go_light; refine bodyPost_ret (by simp [results, Try.results30, go_sem, *, ↓IntWalk.iteOmega]; try rfl) rfl ?_); refine ⟨congrArg Ending.returned ?_, by (repeat' (first | (with_reducible exact Below.refl _ _) | (with_reducible assumption) | (with_reducible refine Below.setCell ?_ ?_ _) | (with_reducible refine Below.alloc ?_ ?_ _) | (with_reducible refine Below.drew ?_) | (with_reducible refine below_drewN ?_ _) | (with_reducible refine below_next ?_ (by with_reducible assumption)) | omega | (dsimp only; omega) | (simp only [World.size_alloc, World.size_setCell, World.size_drew, World.heap_drewN]; omega)))⟩; simp [cut, wrap32_mod, wrap32_mod', i8_w, i8_m, i16_w, i16_m, IntKind.wrap_u16]; try (simp only [wrap32, wrap64]; omega))
set_option maxRecDepth 100000 in
set_option maxHeartbeats 4000000 in
theorem no_82 (b l : Int) (w : World) :
    Calls Try.prog 30 #[.int .i64 82, .agg #[.int .i64 0, .int .u64 b, .int .i64 l]] w fun e w' => e = .returned (.tuple #[.agg #[.int .i64 0, .int .u64 0, .int .i64 0], .bool false]) ∧ Below w.heap.size w w' := by
  have hsh := shape_any 82 (by unfold I64; omega)
  rw [show shape 82 = (1, 0, 1) from by kernel_rfl] at hsh
  have HS := Lib.hid hsh
  clear hsh
  have hA1 := cell_alloc_if
  have hA2 := frozen_alloc_if
  have hA3 := cell_set_if
  go_enter Try.func30, Try.ntmps30
  go_wp2_with (first
    | (go_at_call 51; with_reducible refine (HS.out _).mono ?_; rintro e w' ⟨rfl, rfl⟩)
    | (go_at_call 25; with_reducible refine (intOf_any _ _).mono ?_; rintro e w' ⟨rfl, hbl⟩; obtain ⟨hc, hf, hz⟩ := cif hbl; (try simp only [World.size_alloc, World.size_setCell, World.size_drew, World.heap_drewN] at hz)))
  all_goals (((try simp only [Exit.inBlock, Exit.then]); go_light; refine bodyPost_ret (by simp [results, Try.results30, go_sem, *, ↓IntWalk.iteOmega]; try rfl) rfl ?_); exact ⟨rfl, by (repeat' (first | (with_reducible exact Below.refl _ _) | (with_reducible assumption) | (with_reducible refine Below.setCell ?_ ?_ _) | (with_reducible refine Below.alloc ?_ ?_ _) | (with_reducible refine Below.drew ?_) | (with_reducible refine below_drewN ?_ _) | (with_reducible refine below_next ?_ (by with_reducible assumption)) | omega | (dsimp only; omega) | (simp only [World.size_alloc, World.size_setCell, World.size_drew, World.heap_drewN]; omega)))⟩)
set_option maxRecDepth 100000 in
set_option maxHeartbeats 4000000 in
theorem ev_83 (b l : Int) (hb : U64 b) (w : World) :
    Calls Try.prog 30 #[.int .i64 83, .agg #[.int .i64 1, .int .u64 b, .int .i64 l]] w fun e w' => e = .returned (.tuple #[.agg #[.int .i64 1, .int .u64 (cut 83 b), .int .i64 0], .bool true]) ∧ Below w.heap.size w w' := by
  have hsh := shape_any 83 (by unfold I64; omega)
  rw [show shape 83 = (1, 0, 1) from by kernel_rfl] at hsh
  have HS := Lib.hid hsh
  clear hsh
  obtain ⟨b1, b2⟩ := hb
  have hA1 := cell_alloc_if
  have hA2 := frozen_alloc_if
  have hA3 := cell_set_if
  go_enter Try.func30, Try.ntmps30
  go_wp2_with (first
    | (go_at_call 51; with_reducible refine (HS.out _).mono ?_; rintro e w' ⟨rfl, rfl⟩)
    | (go_at_call 25; with_reducible refine (intOf_any _ _).mono ?_; rintro e w' ⟨rfl, hbl⟩; obtain ⟨hc, hf, hz⟩ := cif hbl; (try simp only [World.size_alloc, World.size_setCell, World.size_drew, World.heap_drewN] at hz)))
  go_quiet (fail)
  go_wp2_with (first
    | (go_at_call 51; with_reducible refine (HS.out _).mono ?_; rintro e w' ⟨rfl, rfl⟩)
    | (go_at_call 25; with_reducible refine (intOf_any _ _).mono ?_; rintro e w' ⟨rfl, hbl⟩; obtain ⟨hc, hf, hz⟩ := cif hbl; (try simp only [World.size_alloc, World.size_setCell, World.size_drew, World.heap_drewN] at hz)))
  all_goals (((try simp only [Exit.inBlock, Exit.then]); go_light; refine bodyPost_ret (by simp [results, Try.results30, go_sem, *, ↓IntWalk.iteOmega]; try rfl) rfl ?_); refine ⟨congrArg Ending.returned ?_, by (repeat' (first | (with_reducible exact Below.refl _ _) | (with_reducible assumption) | (with_reducible refine Below.setCell ?_ ?_ _) | (with_reducible refine Below.alloc ?_ ?_ _) | (with_reducible refine Below.drew ?_) | (with_reducible refine below_drewN ?_ _) | (with_reducible refine below_next ?_ (by with_reducible assumption)) | omega | (dsimp only; omega) | (simp only [World.size_alloc, World.size_setCell, World.size_drew, World.heap_drewN]; omega)))⟩; simp [cut, wrap32_mod, wrap32_mod', i8_w, i8_m, i16_w, i16_m, IntKind.wrap_u16]; try (simp only [wrap32, wrap64]; omega))
set_option maxRecDepth 100000 in
set_option maxHeartbeats 4000000 in
theorem no_83 (b l : Int) (w : World) :
    Calls Try.prog 30 #[.int .i64 83, .agg #[.int .i64 0, .int .u64 b, .int .i64 l]] w fun e w' => e = .returned (.tuple #[.agg #[.int .i64 0, .int .u64 0, .int .i64 0], .bool false]) ∧ Below w.heap.size w w' := by
  have hsh := shape_any 83 (by unfold I64; omega)
  rw [show shape 83 = (1, 0, 1) from by kernel_rfl] at hsh
  have HS := Lib.hid hsh
  clear hsh
  have hA1 := cell_alloc_if
  have hA2 := frozen_alloc_if
  have hA3 := cell_set_if
  go_enter Try.func30, Try.ntmps30
  go_wp2_with (first
    | (go_at_call 51; with_reducible refine (HS.out _).mono ?_; rintro e w' ⟨rfl, rfl⟩)
    | (go_at_call 25; with_reducible refine (intOf_any _ _).mono ?_; rintro e w' ⟨rfl, hbl⟩; obtain ⟨hc, hf, hz⟩ := cif hbl; (try simp only [World.size_alloc, World.size_setCell, World.size_drew, World.heap_drewN] at hz)))
  all_goals (((try simp only [Exit.inBlock, Exit.then]); go_light; refine bodyPost_ret (by simp [results, Try.results30, go_sem, *, ↓IntWalk.iteOmega]; try rfl) rfl ?_); exact ⟨rfl, by (repeat' (first | (with_reducible exact Below.refl _ _) | (with_reducible assumption) | (with_reducible refine Below.setCell ?_ ?_ _) | (with_reducible refine Below.alloc ?_ ?_ _) | (with_reducible refine Below.drew ?_) | (with_reducible refine below_drewN ?_ _) | (with_reducible refine below_next ?_ (by with_reducible assumption)) | omega | (dsimp only; omega) | (simp only [World.size_alloc, World.size_setCell, World.size_drew, World.heap_drewN]; omega)))⟩)

/-- What is loaded back. -/
def backV (chunk : Int) (v : V) : V :=
  if v.k = 0 then ⟨0, 0, 0⟩ else if chunk = 1 then ⟨1, cut 80 v.b, 0⟩ else if chunk = 2 then ⟨1, cut 81 v.b, 0⟩ else if chunk = 3 then ⟨1, cut 82 v.b, 0⟩ else if chunk = 4 then ⟨1, cut 83 v.b, 0⟩ else v

theorem putB_len (B : Bk) (chunk : Int) (off : Nat) (v : V) : (putB B chunk off v).cells.length = B.cells.length := by
  unfold putB
  split <;> exact setN_len _ _ _ _
theorem find_put {M : Int → Option Bk} {B : Bk} {chunk b : Int} {off : Nat} {v : V} (h : findA M chunk ⟨4, b, 1⟩ = some (B, off)) : findA (setK M 1 (some (putB B chunk off v))) chunk ⟨4, b, 1⟩ = some (putB B chunk off v, off) := by
  have hM := (findA_some h).2.1
  dsimp only at hM
  unfold findA at h ⊢
  simp only [hM, setK, if_true, putB_len] at h ⊢
  split at h
  · cases h
  · rename_i c
    rw [if_neg c]
    split at h
    · cases h
    · rename_i c2
      rw [if_neg c2]
      simp only [Option.some.injEq, Prod.mk.injEq] at h ⊢
      exact ⟨trivial, h.2⟩
theorem getD_some {l : List Int} {i : Nat} {x : Int} (hi : i < l.length) (h : l.getD i 0 = x) : l[i]? = some x := by
  rw [List.getD_eq_getElem?_getD, List.getElem?_eq_getElem hi] at h
  rw [List.getElem?_eq_getElem hi]
  simpa using h

theorem load_back {M : Int → Option Bk} {B : Bk} {chunk b : Int} {off : Nat} {v : V} (h : findA M chunk ⟨4, b, 1⟩ = some (B, off)) (ht : takesA chunk v.k = true) (hb : U64 v.b) (hr : rightV v.k v.b v.l = true) :
    loadA (setK M 1 (some (putB B chunk off v))) chunk ⟨4, b, 1⟩ = some (backV chunk v) := by
  obtain ⟨vk, vb, vl⟩ := v
  obtain ⟨_, hM, hn, _, _, hlen⟩ := findA_some h
  unfold loadA
  rw [find_put h]
  dsimp only at hb hr ht ⊢
  congr 1
  obtain ⟨hb0, hb1⟩ := hb
  by_cases c4 : vk = 4
  · subst c4
    have hkv : kindV chunk ≠ 4 := by unfold kindV; grind
    have c6 : chunk = 6 := by
      unfold takesA at ht
      simp at ht
      rcases ht with h1 | h1
      · exact absurd h1.symm hkv
      · exact h1
    subst c6
    have hs : sizeV 6 = 8 := by decide
    rw [hs] at hlen
    have hp : pieces (putB B 6 off ⟨4, vb, vl⟩).cells off := by
      intro i hi
      refine getD_some (by rw [putB_len]; omega) ?_
      show (setN B.cells off ⟨4, vb, vl⟩ 8).getD (off + i) 0 = _
      rw [setN_in _ _ _ _ _ hi (by omega)]
      simp [pieceOf]
    have hq : (putB B 6 off ⟨4, vb, vl⟩).ptr off = some ⟨4, vb, vl⟩ := by simp [putB, setK]
    rw [if_pos ⟨rfl, hp, by rw [hq]; rfl⟩, hq]
    simp [ptrV_, backV]
  · have hput : putB B chunk off ⟨vk, vb, vl⟩ = { B with cells := setN B.cells off ⟨vk, vb, vl⟩ (sizeV chunk).toNat } := by simp [putB, c4]
    have hin : ∀ j : Nat, j < (sizeV chunk).toNat → (putB B chunk off ⟨vk, vb, vl⟩).cells.getD (off + j) 0 = pieceOf ⟨vk, vb, vl⟩ j := by
      intro j hj
      rw [hput]
      exact setN_in _ _ _ _ _ hj (by omega)
    have hnp : ¬ pieces (putB B chunk off ⟨vk, vb, vl⟩).cells off := by
      intro hp
      have h0 := hp 0 (by omega)
      have h1 := hin 0 (by omega)
      rw [List.getD_eq_getElem?_getD, h0] at h1
      simp [pieceOf, c4] at h1
      split at h1 <;> omega
    rw [if_neg (fun g => hnp g.2.1)]
    unfold loadB
    by_cases c0 : vk = 0
    · subst c0
      have hw : ¬ whole (putB B chunk off ⟨0, vb, vl⟩).cells off (sizeV chunk) := by
        intro g
        have h0 := g 0 (by omega)
        rw [hin 0 (by omega)] at h0
        simp [pieceOf] at h0
      rw [if_neg hw]
      simp [backV]
    · have hpc : ∀ j : Nat, j < (sizeV chunk).toNat → (putB B chunk off ⟨vk, vb, vl⟩).cells.getD (off + j) 0 = (vb / 2 ^ (8 * j)) % 256 := by
        intro j hj
        rw [hin j hj]
        simp [pieceOf, c0, c4]
      have hw : whole (putB B chunk off ⟨vk, vb, vl⟩).cells off (sizeV chunk) := by
        intro i hi
        rw [hpc i hi]
        omega
      rw [if_pos hw, bitsN_eq _ _ vb ⟨hb0, hb1⟩ _ (by omega) hpc]
      have hk : vk = kindV chunk := by
        unfold takesA at ht
        simp at ht
        rcases ht with h1 | h1 | h1
        · exact absurd h1 c0
        · exact h1
        · exact absurd h1.1 c4
      have hcs : chunk = 1 ∨ chunk = 2 ∨ chunk = 3 ∨ chunk = 4 ∨ chunk = 5 ∨ chunk = 6 ∨ chunk = 7 := by unfold sizeV at hn; grind
      unfold rightV at hr
      rcases hcs with rfl | rfl | rfl | rfl | rfl | rfl | rfl
      · have e : vk = 1 := by rw [hk]; decide
        subst e
        rw [show (sizeV 1).toNat = 1 from by decide, show (2 : Int) ^ (8 * 1) = 256 from by decide]
        simp only [backV, valOf, cut, wr_i8, wrap32]
        simp
        try omega
      · have e : vk = 1 := by rw [hk]; decide
        subst e
        rw [show (sizeV 2).toNat = 1 from by decide, show (2 : Int) ^ (8 * 1) = 256 from by decide]
        simp only [backV, valOf, cut, wrap32]
        try simp
        try omega
      · have e : vk = 1 := by rw [hk]; decide
        subst e
        rw [show (sizeV 3).toNat = 2 from by decide, show (2 : Int) ^ (8 * 2) = 65536 from by decide]
        simp only [backV, valOf, cut, wr_i16, wrap32]
        simp
        try omega
      · have e : vk = 1 := by rw [hk]; decide
        subst e
        rw [show (sizeV 4).toNat = 2 from by decide, show (2 : Int) ^ (8 * 2) = 65536 from by decide]
        simp only [backV, valOf, cut, wrap32]
        try simp
        try omega
      · have e : vk = 1 := by rw [hk]; decide
        subst e
        simp at hr
        rw [show (sizeV 5).toNat = 4 from by decide, show (2 : Int) ^ (8 * 4) = 4294967296 from by decide]
        simp only [backV, valOf, wrap32]
        simp
        omega
      · have e : vk = 2 := by rw [hk]; decide
        subst e
        simp at hr
        rw [show (sizeV 6).toNat = 8 from by decide, show (2 : Int) ^ (8 * 8) = 18446744073709551616 from by decide]
        simp only [backV, valOf, wrap64]
        simp
        omega
      · have e : vk = 3 := by rw [hk]; decide
        subst e
        simp at hr
        rw [show (sizeV 7).toNat = 8 from by decide, show (2 : Int) ^ (8 * 8) = 18446744073709551616 from by decide]
        simp only [backV, valOf]
        simp
        omega

end Go.Proofs.Ytddipbpllogbaaa
