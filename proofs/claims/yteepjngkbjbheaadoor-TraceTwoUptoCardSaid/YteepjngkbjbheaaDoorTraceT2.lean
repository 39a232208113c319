/-
  strings.Repeat of one nought, up to fifteen times.
-/
import Derived.Test.YteepjngkbjbheaaDoorTraceT1
namespace Go.Proofs.YteepjngkbjbheaaDoor
open Go.RowKit
set_option linter.unusedVariables false
set_option linter.unusedSimpArgs false

def spB : ByteArray := ⟨(List.replicate 128 32).toArray⟩
@[go_sem ↓ high] theorem fold_spB : (⟨([32, 32, 32, 32, 32, 32, 32, 32, 32, 32, 32, 32, 32, 32, 32, 32, 32, 32, 32, 32, 32, 32, 32, 32, 32, 32, 32, 32, 32, 32, 32, 32, 32, 32, 32, 32, 32, 32, 32, 32, 32, 32, 32, 32, 32, 32, 32, 32, 32, 32, 32, 32, 32, 32, 32, 32, 32, 32, 32, 32, 32, 32, 32, 32].append [32, 32, 32, 32, 32, 32, 32, 32, 32, 32, 32, 32, 32, 32, 32, 32, 32, 32, 32, 32, 32, 32, 32, 32, 32, 32, 32, 32, 32, 32, 32, 32, 32, 32, 32, 32, 32, 32, 32, 32, 32, 32, 32, 32, 32, 32, 32, 32, 32, 32, 32, 32, 32, 32, 32, 32, 32, 32, 32, 32, 32, 32, 32, 32]).toArray⟩ : ByteArray) = spB := by kernel_rfl
theorem spB_size : spB.size = 128 := by decide +kernel
def daB : ByteArray := ⟨(List.replicate 128 45).toArray⟩
@[go_sem ↓ high] theorem fold_daB : (⟨([45, 45, 45, 45, 45, 45, 45, 45, 45, 45, 45, 45, 45, 45, 45, 45, 45, 45, 45, 45, 45, 45, 45, 45, 45, 45, 45, 45, 45, 45, 45, 45, 45, 45, 45, 45, 45, 45, 45, 45, 45, 45, 45, 45, 45, 45, 45, 45, 45, 45, 45, 45, 45, 45, 45, 45, 45, 45, 45, 45, 45, 45, 45, 45].append [45, 45, 45, 45, 45, 45, 45, 45, 45, 45, 45, 45, 45, 45, 45, 45, 45, 45, 45, 45, 45, 45, 45, 45, 45, 45, 45, 45, 45, 45, 45, 45, 45, 45, 45, 45, 45, 45, 45, 45, 45, 45, 45, 45, 45, 45, 45, 45, 45, 45, 45, 45, 45, 45, 45, 45, 45, 45, 45, 45, 45, 45, 45, 45]).toArray⟩ : ByteArray) = daB := by kernel_rfl
theorem daB_size : daB.size = 128 := by decide +kernel
def zeB : ByteArray := ⟨(List.replicate 64 48).toArray⟩
@[go_sem ↓ high] theorem fold_zeB : (⟨#[48, 48, 48, 48, 48, 48, 48, 48, 48, 48, 48, 48, 48, 48, 48, 48, 48, 48, 48, 48, 48, 48, 48, 48, 48, 48, 48, 48, 48, 48, 48, 48, 48, 48, 48, 48, 48, 48, 48, 48, 48, 48, 48, 48, 48, 48, 48, 48, 48, 48, 48, 48, 48, 48, 48, 48, 48, 48, 48, 48, 48, 48, 48, 48]⟩ : ByteArray) = zeB := by kernel_rfl
theorem zeB_size : zeB.size = 64 := by decide +kernel

set_option maxRecDepth 100000 in
theorem prefix_in (s : ByteArray) (g : Bool) (hs : 1 ≤ s.size ∧ s.size ≤ 200) (hg : ((s.extract 0 1).toList == [48]) = g) (w : World) : Calls Tryd.prog 74 #[.string s, .string ⟨#[48]⟩] w fun e w' => e = .returned (.bool g) ∧ w = w' := by
  obtain ⟨hs1, hs2⟩ := hs
  go_enter Tryd.func74, Tryd.ntmps74
  cases g
  all_goals (
    go_wp2
    go_returns
    exact ⟨rfl, rfl⟩)
theorem hasPrefix_any (s : ByteArray) (g : Bool) (hs : 1 ≤ s.size ∧ s.size ≤ 200) (hg : ((s.extract 0 1).toList == [48]) = g) (w : World) : Calls Tryd.prog 62 #[.string s, .string ⟨#[48]⟩] w fun e w' => e = .returned (.bool g) ∧ w = w' := by
  have HP := Lib.hid (fun W => prefix_in s g hs hg W)
  clear hg hs
  go_enter Tryd.func62, Tryd.ntmps62
  go_wp2_with (go_at_call 74; (with_reducible refine (HP.out _).mono ?_); rintro e w' ⟨rfl, rfl⟩)
  go_returns
  exact ⟨rfl, rfl⟩
theorem hp_sp (w : World) : Calls Tryd.prog 62 #[.string spB, .string ⟨#[48]⟩] w fun e w' => e = .returned (.bool false) ∧ w = w' := hasPrefix_any spB false (by rw [spB_size]; omega) (by decide +kernel) w
theorem hp_da (w : World) : Calls Tryd.prog 62 #[.string daB, .string ⟨#[48]⟩] w fun e w' => e = .returned (.bool false) ∧ w = w' := hasPrefix_any daB false (by rw [daB_size]; omega) (by decide +kernel) w
theorem hp_ze (w : World) : Calls Tryd.prog 62 #[.string zeB, .string ⟨#[48]⟩] w fun e w' => e = .returned (.bool true) ∧ w = w' := hasPrefix_any zeB true (by rw [zeB_size]; omega) (by decide +kernel) w

set_option maxRecDepth 100000 in
set_option maxHeartbeats 2000000 in
theorem mul64_one (c : Nat) (hc : c < 16) (w : World) : Calls Tryd.prog 73 #[.int .u64 1, .int .u64 c] w fun e w' => e = .returned (.tuple #[.int .u64 0, .int .u64 c]) ∧ w = w' := by
  have h1 : bits BinOp.and IntKind.u64 1 4294967295 = 1 := by kernel_rfl
  have h0 : bits BinOp.and IntKind.u64 0 4294967295 = 0 := by kernel_rfl
  have h2 : bits BinOp.and IntKind.u64 (c : Int) 4294967295 = c := by
    have := bits_mask .u64 64 (by decide) wraps_u64 32 (by decide) (c : Int) (by omega) (by omega)
    rw [show ((2 : Int) ^ 32 - 1) = 4294967295 by decide, show ((2 : Int) ^ 32) = 4294967296 by decide] at this
    rw [this]; omega
  have h3 : (c : Int) / 4294967296 = 0 := by omega
  have h4 : IntKind.u64.wrap (c : Int) = c := by rw [IntKind.wrap_u64]; omega
  go_enter Tryd.func73, Tryd.ntmps73
  go_wp2
  go_returns
  exact ⟨rfl, rfl⟩
set_option maxRecDepth 100000 in
theorem mul_one (c : Nat) (hc : c < 16) (w : World) : Calls Tryd.prog 61 #[.int .u64 1, .int .u64 c] w fun e w' => e = .returned (.tuple #[.int .u64 0, .int .u64 c]) ∧ w = w' := by
  have HM := Lib.hid (fun W => mul64_one c hc W)
  go_enter Tryd.func61, Tryd.ntmps61
  go_wp2_with (go_at_call 73; (with_reducible refine (HM.out _).mono ?_); rintro e w' ⟨rfl, rfl⟩)
  go_returns
  exact ⟨rfl, rfl⟩
theorem zeB_cut (c : Nat) (hc : c < 16) : zeB.extract 0 c = ⟨(List.replicate c 48).toArray⟩ := by
  have key : ∀ c : Nat, c < 16 → (zeB.extract 0 c).data.toList = List.replicate c 48 := by decide +kernel
  apply ByteArray.ext
  rw [← key c hc]

set_option maxRecDepth 100000 in
set_option maxHeartbeats 2000000 in
theorem repeat_any (c : Nat) (hc : c < 16) (w : World) : Calls Tryd.prog 51 #[.string ⟨#[48]⟩, .int .i64 c] w fun e w' => e = .returned (.string ⟨(List.replicate c 48).toArray⟩) ∧ Below w.heap.size w w' := by
  by_cases h0 : c = 0
  · subst h0
    go_enter Tryd.func51, Tryd.ntmps51
    go_wp2
    go_returns
    exact ⟨rfl, Below.refl _ _⟩
  by_cases h1 : c = 1
  · subst h1
    go_enter Tryd.func51, Tryd.ntmps51
    go_wp2
    go_returns
    exact ⟨rfl, Below.refl _ _⟩
  have HM := Lib.hid (fun W => mul_one c hc W)
  have HZ := Lib.hid (zeB_cut c hc)
  have hsz := zeB_size
  go_enter Tryd.func51, Tryd.ntmps51
  go_wp2_with (first
    | (go_at_call 61; (with_reducible refine (HM.out _).mono ?_); rintro e w' ⟨rfl, rfl⟩)
    | (go_at_call 62; (with_reducible refine (hp_sp _).mono ?_); rintro e w' ⟨rfl, rfl⟩)
    | (go_at_call 62; (with_reducible refine (hp_da _).mono ?_); rintro e w' ⟨rfl, rfl⟩)
    | (go_at_call 62; (with_reducible refine (hp_ze _).mono ?_); rintro e w' ⟨rfl, rfl⟩))
  go_returns
  exact ⟨ret_str HZ.out, by (repeat' (first | (with_reducible exact Below.refl _ _) | (with_reducible assumption) | (with_reducible refine Below.setCell ?_ ?_ _) | (with_reducible refine Below.alloc ?_ ?_ _) | (with_reducible refine Below.drew ?_) | (with_reducible refine below_drewN ?_ _) | (with_reducible refine below_next ?_ (by with_reducible assumption)) | omega | (dsimp only; omega) | (simp only [World.size_alloc, World.size_setCell, World.size_drew, World.heap_drewN]; omega)))⟩
end Go.Proofs.YteepjngkbjbheaaDoor
