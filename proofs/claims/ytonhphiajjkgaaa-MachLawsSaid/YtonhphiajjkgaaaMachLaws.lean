/-
  The walk of the statement MachLaws.
-/
import Derived.Test.YtonhphiajjkgaaaMachE5
import Derived.LoopTactic
import Derived.Deep.LoopGhost
import Derived.Outline
namespace Go.Proofs.Ytonhphiajjkgaaa
open Go.RowKit
set_option linter.unusedVariables false
set_option linter.unusedSimpArgs false

/-- A block that holds these cells. -/
def Hold (w : World) (b : Nat) (c : Array Value) : Prop := b < w.heap.size ∧ ∀ o, w.cell? ⟨b, o, none⟩ = c[o]?
theorem Hold.next {w w' : World} {b : Nat} {c : Array Value} (h : Hold w b c) (hb : Below w.heap.size w w') : Hold w' b c :=
  ⟨Nat.lt_of_lt_of_le h.1 hb.size, fun o => by rw [hb.cell (p := ⟨b, o, none⟩) h.1]; exact h.2 o⟩

/-- A call of Eval2, of two of one kind, and its answer. -/
abbrev E2 (op k a kb b rk r : Int) (ok : Bool) : Prop :=
  ∀ w, Calls Try.prog 11 #[.int .i64 op, .agg #[.int .i64 k, .int .u64 a, .int .i64 0], .agg #[.int .i64 kb, .int .u64 b, .int .i64 0]] w fun e w' => e = .returned (.tuple #[.agg #[.int .i64 rk, .int .u64 r, .int .i64 0], .bool ok]) ∧ Below w.heap.size w w'
abbrev E1 (op k a rk r : Int) : Prop :=
  ∀ w, Calls Try.prog 26 #[.int .i64 op, .agg #[.int .i64 k, .int .u64 a, .int .i64 0]] w fun e w' => e = .returned (.tuple #[.agg #[.int .i64 rk, .int .u64 r, .int .i64 0], .bool true]) ∧ Below w.heap.size w w'
abbrev IO (n r : Int) : Prop := ∀ w, Calls Try.prog 13 #[.int .i32 n] w fun e w' => e = .returned (.agg #[.int .i64 1, .int .u64 r, .int .i64 0]) ∧ Below w.heap.size w w'
abbrev LO (n r : Int) : Prop := ∀ w, Calls Try.prog 14 #[.int .i64 n] w fun e w' => e = .returned (.agg #[.int .i64 2, .int .u64 r, .int .i64 0]) ∧ Below w.heap.size w w'

structure Kind (k c x y : Int) : Prop where
  f : ∀ p, (p = 3 ∨ p = 5 ∨ p = 10 ∨ p = 11 ∨ p = 12 ∨ p = 16 ∨ p = 17) → ∃ vk vb, E2 (p + c) k x k y vk vb true ∧ E2 (p + c) k y k x vk vb true
  s : ∃ s, E2 (3 + c) k x k y k s true ∧ E2 (4 + c) k s k y k x true
  d : ∀ p, (p = 6 ∨ p = 7) → (E2 (p + c) k x k y 0 0 false ∧ E2 (p + 2 + c) k x k y 0 0 false) ∨ (∃ q r u, E2 (p + c) k x k y k q true ∧ E2 (p + 2 + c) k x k y k r true ∧ E2 (5 + c) k q k y k u true ∧ E2 (3 + c) k u k r k x true)

set_option maxRecDepth 100000 in
set_option maxHeartbeats 16000000 in
theorem laws_core (m n X Y U V' : Int) (w : World) (I1 : Hid (IO (wrap32 m) X)) (I2 : Hid (IO (wrap32 n) Y)) (J1 : Hid (LO m U)) (J2 : Hid (LO n V')) (KA : Kind 1 0 X Y) (KB : Kind 2 30 U V')
    (L : Hid (∀ p, p = 84 ∨ p = 85 → ∃ l, E1 p 1 X 2 l ∧ E1 86 2 l 1 X)) (D : Hid (∃ d, E1 87 1 X 3 d ∧ E1 91 3 d 1 X)) :
    Calls Try.prog 7 #[.int .i64 m, .int .i64 n] w fun e w' => e = .returned (.bool true) ∧ Below w.heap.size w w' := by
  have hA1 := cell_alloc_if
  have hA2 := frozen_alloc_if
  have hA3 := cell_set_if
  go_enter Try.func7, Try.ntmps7
  go_wp2_with (go_at_call 10; with_reducible refine (fixed_any _).mono ?_; rintro e w1 ⟨rfl, hb1⟩; obtain ⟨hc1, hf1, hz1⟩ := cif hb1)
  go_loopw [44] (fun i wr => ∃ k : Nat, k ≤ 2 ∧ i = .int .i64 k ∧ Ext w wr ∧ Hold wr w1.heap.size #[.int .i64 0, .int .i64 30]) (fun i _ => 2 - (intOf i).toNat)
  case atStart => exact ⟨0, by omega, rfl, by unfold Ext; (repeat' (first | (with_reducible exact Below.refl _ _) | (with_reducible assumption) | (with_reducible refine Below.setCell ?_ ?_ _) | (with_reducible refine Below.alloc ?_ ?_ _) | (with_reducible refine Below.drew ?_) | (with_reducible refine below_drewN ?_ _) | (with_reducible refine below_next ?_ (by with_reducible assumption)) | omega | (dsimp only; omega) | (simp only [World.size_alloc, World.size_setCell, World.size_drew, World.heap_drewN]; omega))), by simp, fun o => by simp [*, ↓IntWalk.iteOmega]⟩
  case round =>
  obtain ⟨wo, rfl⟩ : ∃ wo : World, wo = wr := ⟨_, rfl⟩
  obtain ⟨k, hk, rfl, hX, hH⟩ := hrel
  obtain ⟨hH1, hH2⟩ := hH
  have hk2 : k = 0 ∨ k = 1 ∨ k = 2 := by omega
  clear hk
  rcases hk2 with rfl | rfl | rfl
  · go_wp2_with (first
      | (go_at_call 13; with_reducible refine (I1.out _).mono ?_; rintro e wa ⟨rfl, hbwa⟩; obtain ⟨hcwa, hfwa, hzwa⟩ := cif hbwa; (try simp only [World.size_alloc, World.size_setCell, World.size_drew, World.heap_drewN] at hzwa))
      | (go_at_call 13; with_reducible refine (I2.out _).mono ?_; rintro e wb ⟨rfl, hbwb⟩; obtain ⟨hcwb, hfwb, hzwb⟩ := cif hbwb; (try simp only [World.size_alloc, World.size_setCell, World.size_drew, World.heap_drewN] at hzwb)))
    go_loopw [62] (fun i wr2 => ∃ j : Nat, j ≤ 7 ∧ i = .int .i64 j ∧ Ext w wr2 ∧ Hold wr2 w1.heap.size #[.int .i64 0, .int .i64 30] ∧ Hold wr2 wb.heap.size #[.int .i64 1, .int .u64 X, .int .i64 0] ∧ Hold wr2 (wb.heap.size + 1) #[.int .i64 1, .int .u64 Y, .int .i64 0] ∧
      Hold wr2 (wb.heap.size + 2) #[.int .i64 3, .int .i64 5, .int .i64 10, .int .i64 11, .int .i64 12, .int .i64 16, .int .i64 17]) (fun i _ => 7 - (intOf i).toNat)
    case atStart => exact ⟨0, by omega, rfl, by unfold Ext at *; (repeat' (first | (with_reducible exact Below.refl _ _) | (with_reducible assumption) | (with_reducible refine Below.setCell ?_ ?_ _) | (with_reducible refine Below.alloc ?_ ?_ _) | (with_reducible refine Below.drew ?_) | (with_reducible refine below_drewN ?_ _) | (with_reducible refine below_next ?_ (by with_reducible assumption)) | omega | (dsimp only; omega) | (simp only [World.size_alloc, World.size_setCell, World.size_drew, World.heap_drewN]; omega))), ⟨by (simp only [World.size_alloc, World.size_setCell, World.size_drew, World.heap_drewN]; omega), fun o => by (simp [*, ↓IntWalk.iteOmega]; try (rcases o with _ | _ | _ | o <;> simp))⟩, ⟨by (simp only [World.size_alloc, World.size_setCell, World.size_drew, World.heap_drewN]; omega), fun o => by (simp [*, ↓IntWalk.iteOmega]; try (rcases o with _ | _ | _ | o <;> simp))⟩, ⟨by (simp only [World.size_alloc, World.size_setCell, World.size_drew, World.heap_drewN]; omega), fun o => by (simp [*, ↓IntWalk.iteOmega]; try (rcases o with _ | _ | _ | o <;> simp))⟩, ⟨by (simp only [World.size_alloc, World.size_setCell, World.size_drew, World.heap_drewN]; omega), fun o => by (simp [*, ↓IntWalk.iteOmega]; try (rcases o with _ | _ | _ | o <;> simp))⟩⟩
    case round =>
      obtain ⟨j, hj, rfl, hX2, g1, g2, g3, g4⟩ := hrel
      by_cases hlt : j < 7
      · obtain ⟨p, hp, hpc⟩ : ∃ p : Int, (p = 3 ∨ p = 5 ∨ p = 10 ∨ p = 11 ∨ p = 12 ∨ p = 16 ∨ p = 17) ∧ wr.cell? ⟨(wb.heap.size + 2), j, none⟩ = some (.int .i64 p) := by
          rw [g4.2 j]
          have : j = 0 ∨ j = 1 ∨ j = 2 ∨ j = 3 ∨ j = 4 ∨ j = 5 ∨ j = 6 := by omega
          rcases this with rfl | rfl | rfl | rfl | rfl | rfl | rfl <;> exact ⟨_, by decide, rfl⟩
        have p1 : 3 ≤ p := by omega
        have p2 : p ≤ 17 := by omega
        obtain ⟨vk, vb, f1, f2⟩ := KA.f p hp
        simp only [Int.add_zero] at f1 f2
        have F1 := Lib.hid f1
        have F2 := Lib.hid f2
        have g5 := Lib.hid g1
        have g6 := Lib.hid g4
        obtain ⟨s2, c2⟩ := g2
        obtain ⟨s3, c3⟩ := g3
        have s4 := g4.1
        clear f1 f2 g1 g4 hp
        go_wp2_with (first
          | (go_at_call 11; with_reducible refine (F1.out _).mono ?_; rintro e w' ⟨rfl, hbl⟩; obtain ⟨hc, hf, hz⟩ := cif hbl; (try simp only [World.size_alloc, World.size_setCell, World.size_drew, World.heap_drewN] at hz))
          | (go_at_call 11; with_reducible refine (F2.out _).mono ?_; rintro e w' ⟨rfl, hbl⟩; obtain ⟨hc, hf, hz⟩ := cif hbl; (try simp only [World.size_alloc, World.size_setCell, World.size_drew, World.heap_drewN] at hz)))
        all_goals (go_roundw; (case rel => (exact ⟨j + 1, by omega, by go_num, by unfold Ext at *; (repeat' (first | (with_reducible exact Below.refl _ _) | (with_reducible assumption) | (with_reducible refine Below.setCell ?_ ?_ _) | (with_reducible refine Below.alloc ?_ ?_ _) | (with_reducible refine Below.drew ?_) | (with_reducible refine below_drewN ?_ _) | (with_reducible refine below_next ?_ (by with_reducible assumption)) | omega | (dsimp only; omega) | (simp only [World.size_alloc, World.size_setCell, World.size_drew, World.heap_drewN]; omega))), g5.out.next (by (repeat' (first | (with_reducible exact Below.refl _ _) | (with_reducible assumption) | (with_reducible refine Below.setCell ?_ ?_ _) | (with_reducible refine Below.alloc ?_ ?_ _) | (with_reducible refine Below.drew ?_) | (with_reducible refine below_drewN ?_ _) | (with_reducible refine below_next ?_ (by with_reducible assumption)) | omega | (dsimp only; omega) | (simp only [World.size_alloc, World.size_setCell, World.size_drew, World.heap_drewN]; omega)))), Hold.next ⟨s2, c2⟩ (by (repeat' (first | (with_reducible exact Below.refl _ _) | (with_reducible assumption) | (with_reducible refine Below.setCell ?_ ?_ _) | (with_reducible refine Below.alloc ?_ ?_ _) | (with_reducible refine Below.drew ?_) | (with_reducible refine below_drewN ?_ _) | (with_reducible refine below_next ?_ (by with_reducible assumption)) | omega | (dsimp only; omega) | (simp only [World.size_alloc, World.size_setCell, World.size_drew, World.heap_drewN]; omega)))), Hold.next ⟨s3, c3⟩ (by (repeat' (first | (with_reducible exact Below.refl _ _) | (with_reducible assumption) | (with_reducible refine Below.setCell ?_ ?_ _) | (with_reducible refine Below.alloc ?_ ?_ _) | (with_reducible refine Below.drew ?_) | (with_reducible refine below_drewN ?_ _) | (with_reducible refine below_next ?_ (by with_reducible assumption)) | omega | (dsimp only; omega) | (simp only [World.size_alloc, World.size_setCell, World.size_drew, World.heap_drewN]; omega)))), g6.out.next (by (repeat' (first | (with_reducible exact Below.refl _ _) | (with_reducible assumption) | (with_reducible refine Below.setCell ?_ ?_ _) | (with_reducible refine Below.alloc ?_ ?_ _) | (with_reducible refine Below.drew ?_) | (with_reducible refine below_drewN ?_ _) | (with_reducible refine below_next ?_ (by with_reducible assumption)) | omega | (dsimp only; omega) | (simp only [World.size_alloc, World.size_setCell, World.size_drew, World.heap_drewN]; omega))))⟩)); (case measure => (simp [intOf]; try omega)))
      · have hj7 : j = 7 := by omega
        subst hj7
        clear hlt
        obtain ⟨s2, c2⟩ := g2
        obtain ⟨s3, c3⟩ := g3
        obtain ⟨s, f1, f2⟩ := KA.s
        simp only [Int.add_zero] at f1 f2
        have F1 := Lib.hid f1
        have F2 := Lib.hid f2
        have g5 := Lib.hid g1
        clear f1 f2 g1 g4
        go_wp2_with (first
          | (go_at_call 11; with_reducible refine (F1.out _).mono ?_; rintro e w' ⟨rfl, hbl⟩; obtain ⟨hc, hf, hz⟩ := cif hbl; (try simp only [World.size_alloc, World.size_setCell, World.size_drew, World.heap_drewN] at hz))
          | (go_at_call 11; with_reducible refine (F2.out _).mono ?_; rintro e wd ⟨rfl, hbwd⟩; obtain ⟨hcwd, hfwd, hzwd⟩ := cif hbwd; (try simp only [World.size_alloc, World.size_setCell, World.size_drew, World.heap_drewN] at hzwd)))
        go_loopw [117] (fun i wr => ∃ j : Nat, j ≤ 2 ∧ i = .int .i64 j ∧ Ext w wr ∧ Hold wr w1.heap.size #[.int .i64 0, .int .i64 30] ∧ Hold wr wb.heap.size #[.int .i64 1, .int .u64 X, .int .i64 0] ∧ Hold wr (wb.heap.size + 1) #[.int .i64 1, .int .u64 Y, .int .i64 0] ∧
          Hold wr (wd.heap.size + 1) #[.int .i64 6, .int .i64 7]) (fun i _ => 2 - (intOf i).toNat)
        case atStart => exact ⟨0, by omega, rfl, by unfold Ext at *; (repeat' (first | (with_reducible exact Below.refl _ _) | (with_reducible assumption) | (with_reducible refine Below.setCell ?_ ?_ _) | (with_reducible refine Below.alloc ?_ ?_ _) | (with_reducible refine Below.drew ?_) | (with_reducible refine below_drewN ?_ _) | (with_reducible refine below_next ?_ (by with_reducible assumption)) | omega | (dsimp only; omega) | (simp only [World.size_alloc, World.size_setCell, World.size_drew, World.heap_drewN]; omega))), g5.out.next (by (repeat' (first | (with_reducible exact Below.refl _ _) | (with_reducible assumption) | (with_reducible refine Below.setCell ?_ ?_ _) | (with_reducible refine Below.alloc ?_ ?_ _) | (with_reducible refine Below.drew ?_) | (with_reducible refine below_drewN ?_ _) | (with_reducible refine below_next ?_ (by with_reducible assumption)) | omega | (dsimp only; omega) | (simp only [World.size_alloc, World.size_setCell, World.size_drew, World.heap_drewN]; omega)))), Hold.next ⟨s2, c2⟩ (by (repeat' (first | (with_reducible exact Below.refl _ _) | (with_reducible assumption) | (with_reducible refine Below.setCell ?_ ?_ _) | (with_reducible refine Below.alloc ?_ ?_ _) | (with_reducible refine Below.drew ?_) | (with_reducible refine below_drewN ?_ _) | (with_reducible refine below_next ?_ (by with_reducible assumption)) | omega | (dsimp only; omega) | (simp only [World.size_alloc, World.size_setCell, World.size_drew, World.heap_drewN]; omega)))), Hold.next ⟨s3, c3⟩ (by (repeat' (first | (with_reducible exact Below.refl _ _) | (with_reducible assumption) | (with_reducible refine Below.setCell ?_ ?_ _) | (with_reducible refine Below.alloc ?_ ?_ _) | (with_reducible refine Below.drew ?_) | (with_reducible refine below_drewN ?_ _) | (with_reducible refine below_next ?_ (by with_reducible assumption)) | omega | (dsimp only; omega) | (simp only [World.size_alloc, World.size_setCell, World.size_drew, World.heap_drewN]; omega)))), ⟨by (simp only [World.size_alloc, World.size_setCell, World.size_drew, World.heap_drewN]; omega), fun o => by (simp [*, ↓IntWalk.iteOmega]; try (rcases o with _ | _ | _ | o <;> simp))⟩⟩
        case round =>
          clear hcwd hfwd
          obtain ⟨j, hj, rfl, hX3, g1, g2, g3, g4⟩ := hrel
          by_cases hlt : j < 2
          · obtain ⟨p, hp, hpc⟩ : ∃ p : Int, (p = 6 ∨ p = 7) ∧ wr.cell? ⟨wd.heap.size + 1, j, none⟩ = some (.int .i64 p) := by
              rw [g4.2 j]
              have : j = 0 ∨ j = 1 := by omega
              rcases this with rfl | rfl <;> exact ⟨_, by decide, rfl⟩
            have p1 : 6 ≤ p := by omega
            have p2 : p ≤ 7 := by omega
            have g5 := Lib.hid g1
            have g6 := Lib.hid g4
            clear s2 c2 s3 c3
            obtain ⟨s2, c2⟩ := g2
            obtain ⟨s3, c3⟩ := g3
            have s4 := g4.1
            have hd := KA.d p hp
            clear g1 g4 hp
            rcases hd with ⟨f1, f2⟩ | ⟨q, r, u, f1, f2, f3, f4⟩
            · simp only [Int.add_zero] at f1 f2
              have F1 := Lib.hid f1
              have F2 := Lib.hid f2
              clear f1 f2
              go_wp2_with (first
                | (go_at_call 11; with_reducible refine (F1.out _).mono ?_; rintro e w' ⟨rfl, hbl⟩; obtain ⟨hc, hf, hz⟩ := cif hbl; (try simp only [World.size_alloc, World.size_setCell, World.size_drew, World.heap_drewN] at hz))
                | (go_at_call 11; with_reducible refine (F2.out _).mono ?_; rintro e w' ⟨rfl, hbl⟩; obtain ⟨hc, hf, hz⟩ := cif hbl; (try simp only [World.size_alloc, World.size_setCell, World.size_drew, World.heap_drewN] at hz)))
              all_goals (go_roundw; (case rel => (exact ⟨j + 1, by omega, by go_num, by unfold Ext at *; (repeat' (first | (with_reducible exact Below.refl _ _) | (with_reducible assumption) | (with_reducible refine Below.setCell ?_ ?_ _) | (with_reducible refine Below.alloc ?_ ?_ _) | (with_reducible refine Below.drew ?_) | (with_reducible refine below_drewN ?_ _) | (with_reducible refine below_next ?_ (by with_reducible assumption)) | omega | (dsimp only; omega) | (simp only [World.size_alloc, World.size_setCell, World.size_drew, World.heap_drewN]; omega))), g5.out.next (by (repeat' (first | (with_reducible exact Below.refl _ _) | (with_reducible assumption) | (with_reducible refine Below.setCell ?_ ?_ _) | (with_reducible refine Below.alloc ?_ ?_ _) | (with_reducible refine Below.drew ?_) | (with_reducible refine below_drewN ?_ _) | (with_reducible refine below_next ?_ (by with_reducible assumption)) | omega | (dsimp only; omega) | (simp only [World.size_alloc, World.size_setCell, World.size_drew, World.heap_drewN]; omega)))), Hold.next ⟨s2, c2⟩ (by (repeat' (first | (with_reducible exact Below.refl _ _) | (with_reducible assumption) | (with_reducible refine Below.setCell ?_ ?_ _) | (with_reducible refine Below.alloc ?_ ?_ _) | (with_reducible refine Below.drew ?_) | (with_reducible refine below_drewN ?_ _) | (with_reducible refine below_next ?_ (by with_reducible assumption)) | omega | (dsimp only; omega) | (simp only [World.size_alloc, World.size_setCell, World.size_drew, World.heap_drewN]; omega)))), Hold.next ⟨s3, c3⟩ (by (repeat' (first | (with_reducible exact Below.refl _ _) | (with_reducible assumption) | (with_reducible refine Below.setCell ?_ ?_ _) | (with_reducible refine Below.alloc ?_ ?_ _) | (with_reducible refine Below.drew ?_) | (with_reducible refine below_drewN ?_ _) | (with_reducible refine below_next ?_ (by with_reducible assumption)) | omega | (dsimp only; omega) | (simp only [World.size_alloc, World.size_setCell, World.size_drew, World.heap_drewN]; omega)))), g6.out.next (by (repeat' (first | (with_reducible exact Below.refl _ _) | (with_reducible assumption) | (with_reducible refine Below.setCell ?_ ?_ _) | (with_reducible refine Below.alloc ?_ ?_ _) | (with_reducible refine Below.drew ?_) | (with_reducible refine below_drewN ?_ _) | (with_reducible refine below_next ?_ (by with_reducible assumption)) | omega | (dsimp only; omega) | (simp only [World.size_alloc, World.size_setCell, World.size_drew, World.heap_drewN]; omega))))⟩)); (case measure => (simp [intOf]; try omega)))
            · simp only [Int.add_zero] at f1 f2 f3 f4
              have F1 := Lib.hid f1
              have F2 := Lib.hid f2
              have F3 := Lib.hid f3
              have F4 := Lib.hid f4
              clear f1 f2 f3 f4
              go_wp2_with (first
                | (go_at_call 11; with_reducible refine (F1.out _).mono ?_; rintro e w' ⟨rfl, hbl⟩; obtain ⟨hc, hf, hz⟩ := cif hbl; (try simp only [World.size_alloc, World.size_setCell, World.size_drew, World.heap_drewN] at hz))
                | (go_at_call 11; with_reducible refine (F2.out _).mono ?_; rintro e w' ⟨rfl, hbl⟩; obtain ⟨hc, hf, hz⟩ := cif hbl; (try simp only [World.size_alloc, World.size_setCell, World.size_drew, World.heap_drewN] at hz))
                | (go_at_call 11; with_reducible refine (F3.out _).mono ?_; rintro e w' ⟨rfl, hbl⟩; obtain ⟨hc, hf, hz⟩ := cif hbl; (try simp only [World.size_alloc, World.size_setCell, World.size_drew, World.heap_drewN] at hz))
                | (go_at_call 11; with_reducible refine (F4.out _).mono ?_; rintro e w' ⟨rfl, hbl⟩; obtain ⟨hc, hf, hz⟩ := cif hbl; (try simp only [World.size_alloc, World.size_setCell, World.size_drew, World.heap_drewN] at hz)))
              all_goals (go_roundw; (case rel => (exact ⟨j + 1, by omega, by go_num, by unfold Ext at *; (repeat' (first | (with_reducible exact Below.refl _ _) | (with_reducible assumption) | (with_reducible refine Below.setCell ?_ ?_ _) | (with_reducible refine Below.alloc ?_ ?_ _) | (with_reducible refine Below.drew ?_) | (with_reducible refine below_drewN ?_ _) | (with_reducible refine below_next ?_ (by with_reducible assumption)) | omega | (dsimp only; omega) | (simp only [World.size_alloc, World.size_setCell, World.size_drew, World.heap_drewN]; omega))), g5.out.next (by (repeat' (first | (with_reducible exact Below.refl _ _) | (with_reducible assumption) | (with_reducible refine Below.setCell ?_ ?_ _) | (with_reducible refine Below.alloc ?_ ?_ _) | (with_reducible refine Below.drew ?_) | (with_reducible refine below_drewN ?_ _) | (with_reducible refine below_next ?_ (by with_reducible assumption)) | omega | (dsimp only; omega) | (simp only [World.size_alloc, World.size_setCell, World.size_drew, World.heap_drewN]; omega)))), Hold.next ⟨s2, c2⟩ (by (repeat' (first | (with_reducible exact Below.refl _ _) | (with_reducible assumption) | (with_reducible refine Below.setCell ?_ ?_ _) | (with_reducible refine Below.alloc ?_ ?_ _) | (with_reducible refine Below.drew ?_) | (with_reducible refine below_drewN ?_ _) | (with_reducible refine below_next ?_ (by with_reducible assumption)) | omega | (dsimp only; omega) | (simp only [World.size_alloc, World.size_setCell, World.size_drew, World.heap_drewN]; omega)))), Hold.next ⟨s3, c3⟩ (by (repeat' (first | (with_reducible exact Below.refl _ _) | (with_reducible assumption) | (with_reducible refine Below.setCell ?_ ?_ _) | (with_reducible refine Below.alloc ?_ ?_ _) | (with_reducible refine Below.drew ?_) | (with_reducible refine below_drewN ?_ _) | (with_reducible refine below_next ?_ (by with_reducible assumption)) | omega | (dsimp only; omega) | (simp only [World.size_alloc, World.size_setCell, World.size_drew, World.heap_drewN]; omega)))), g6.out.next (by (repeat' (first | (with_reducible exact Below.refl _ _) | (with_reducible assumption) | (with_reducible refine Below.setCell ?_ ?_ _) | (with_reducible refine Below.alloc ?_ ?_ _) | (with_reducible refine Below.drew ?_) | (with_reducible refine below_drewN ?_ _) | (with_reducible refine below_next ?_ (by with_reducible assumption)) | omega | (dsimp only; omega) | (simp only [World.size_alloc, World.size_setCell, World.size_drew, World.heap_drewN]; omega))))⟩)); (case measure => (simp [intOf]; try omega)))
          · have hj2 : j = 2 := by omega
            subst hj2
            have g5 := Lib.hid g1
            clear hlt g1 g2 g3 g4
            go_wp2
            all_goals (go_roundw; (case rel => (exact ⟨1, by omega, by go_num, by unfold Ext at *; (repeat' (first | (with_reducible exact Below.refl _ _) | (with_reducible assumption) | (with_reducible refine Below.setCell ?_ ?_ _) | (with_reducible refine Below.alloc ?_ ?_ _) | (with_reducible refine Below.drew ?_) | (with_reducible refine below_drewN ?_ _) | (with_reducible refine below_next ?_ (by with_reducible assumption)) | omega | (dsimp only; omega) | (simp only [World.size_alloc, World.size_setCell, World.size_drew, World.heap_drewN]; omega))), g5.out.next (by (repeat' (first | (with_reducible exact Below.refl _ _) | (with_reducible assumption) | (with_reducible refine Below.setCell ?_ ?_ _) | (with_reducible refine Below.alloc ?_ ?_ _) | (with_reducible refine Below.drew ?_) | (with_reducible refine below_drewN ?_ _) | (with_reducible refine below_next ?_ (by with_reducible assumption)) | omega | (dsimp only; omega) | (simp only [World.size_alloc, World.size_setCell, World.size_drew, World.heap_drewN]; omega))))⟩)); (case measure => (simp [intOf]; try omega)))
  · go_wp2_with (first
      | (go_at_call 13; with_reducible refine (I1.out _).mono ?_; rintro e wa ⟨rfl, hbwa⟩; obtain ⟨hcwa, hfwa, hzwa⟩ := cif hbwa; (try simp only [World.size_alloc, World.size_setCell, World.size_drew, World.heap_drewN] at hzwa))
      | (go_at_call 13; with_reducible refine (I2.out _).mono ?_; rintro e wb ⟨rfl, hbwb⟩; obtain ⟨hcwb, hfwb, hzwb⟩ := cif hbwb; (try simp only [World.size_alloc, World.size_setCell, World.size_drew, World.heap_drewN] at hzwb))
      | (go_at_call 14; with_reducible refine (J1.out _).mono ?_; rintro e wa2 ⟨rfl, hbwa2⟩; obtain ⟨hcwa2, hfwa2, hzwa2⟩ := cif hbwa2; (try simp only [World.size_alloc, World.size_setCell, World.size_drew, World.heap_drewN] at hzwa2))
      | (go_at_call 14; with_reducible refine (J2.out _).mono ?_; rintro e wc ⟨rfl, hbwc⟩; obtain ⟨hcwc, hfwc, hzwc⟩ := cif hbwc; (try simp only [World.size_alloc, World.size_setCell, World.size_drew, World.heap_drewN] at hzwc)))
    go_loopw [62] (fun i wr2 => ∃ j : Nat, j ≤ 7 ∧ i = .int .i64 j ∧ Ext w wr2 ∧ Hold wr2 w1.heap.size #[.int .i64 0, .int .i64 30] ∧ Hold wr2 wb.heap.size #[.int .i64 2, .int .u64 U, .int .i64 0] ∧ Hold wr2 (wb.heap.size + 1) #[.int .i64 2, .int .u64 V', .int .i64 0] ∧
      Hold wr2 wc.heap.size #[.int .i64 3, .int .i64 5, .int .i64 10, .int .i64 11, .int .i64 12, .int .i64 16, .int .i64 17]) (fun i _ => 7 - (intOf i).toNat)
    case atStart => exact ⟨0, by omega, rfl, by unfold Ext at *; (repeat' (first | (with_reducible exact Below.refl _ _) | (with_reducible assumption) | (with_reducible refine Below.setCell ?_ ?_ _) | (with_reducible refine Below.alloc ?_ ?_ _) | (with_reducible refine Below.drew ?_) | (with_reducible refine below_drewN ?_ _) | (with_reducible refine below_next ?_ (by with_reducible assumption)) | omega | (dsimp only; omega) | (simp only [World.size_alloc, World.size_setCell, World.size_drew, World.heap_drewN]; omega))), ⟨by (simp only [World.size_alloc, World.size_setCell, World.size_drew, World.heap_drewN]; omega), fun o => by (simp [*, ↓IntWalk.iteOmega]; try (rcases o with _ | _ | _ | o <;> simp))⟩, ⟨by (simp only [World.size_alloc, World.size_setCell, World.size_drew, World.heap_drewN]; omega), fun o => by (simp [*, ↓IntWalk.iteOmega]; try (rcases o with _ | _ | _ | o <;> simp))⟩, ⟨by (simp only [World.size_alloc, World.size_setCell, World.size_drew, World.heap_drewN]; omega), fun o => by (simp [*, ↓IntWalk.iteOmega]; try (rcases o with _ | _ | _ | o <;> simp))⟩, ⟨by (simp only [World.size_alloc, World.size_setCell, World.size_drew, World.heap_drewN]; omega), fun o => by (simp [*, ↓IntWalk.iteOmega]; try (rcases o with _ | _ | _ | o <;> simp))⟩⟩
    case round =>
      obtain ⟨j, hj, rfl, hX2, g1, g2, g3, g4⟩ := hrel
      by_cases hlt : j < 7
      · obtain ⟨p, hp, hpc⟩ : ∃ p : Int, (p = 3 ∨ p = 5 ∨ p = 10 ∨ p = 11 ∨ p = 12 ∨ p = 16 ∨ p = 17) ∧ wr.cell? ⟨wc.heap.size, j, none⟩ = some (.int .i64 p) := by
          rw [g4.2 j]
          have : j = 0 ∨ j = 1 ∨ j = 2 ∨ j = 3 ∨ j = 4 ∨ j = 5 ∨ j = 6 := by omega
          rcases this with rfl | rfl | rfl | rfl | rfl | rfl | rfl <;> exact ⟨_, by decide, rfl⟩
        have p1 : 3 ≤ p := by omega
        have p2 : p ≤ 17 := by omega
        obtain ⟨vk, vb, f1, f2⟩ := KB.f p hp
        try simp only [Int.reduceAdd] at f1 f2
        have F1 := Lib.hid f1
        have F2 := Lib.hid f2
        have g5 := Lib.hid g1
        have g6 := Lib.hid g4
        obtain ⟨s2, c2⟩ := g2
        obtain ⟨s3, c3⟩ := g3
        have s4 := g4.1
        clear f1 f2 g1 g4 hp
        go_wp2_with (first
          | (go_at_call 11; with_reducible refine (F1.out _).mono ?_; rintro e w' ⟨rfl, hbl⟩; obtain ⟨hc, hf, hz⟩ := cif hbl; (try simp only [World.size_alloc, World.size_setCell, World.size_drew, World.heap_drewN] at hz))
          | (go_at_call 11; with_reducible refine (F2.out _).mono ?_; rintro e w' ⟨rfl, hbl⟩; obtain ⟨hc, hf, hz⟩ := cif hbl; (try simp only [World.size_alloc, World.size_setCell, World.size_drew, World.heap_drewN] at hz)))
        all_goals (go_roundw; (case rel => (exact ⟨j + 1, by omega, by go_num, by unfold Ext at *; (repeat' (first | (with_reducible exact Below.refl _ _) | (with_reducible assumption) | (with_reducible refine Below.setCell ?_ ?_ _) | (with_reducible refine Below.alloc ?_ ?_ _) | (with_reducible refine Below.drew ?_) | (with_reducible refine below_drewN ?_ _) | (with_reducible refine below_next ?_ (by with_reducible assumption)) | omega | (dsimp only; omega) | (simp only [World.size_alloc, World.size_setCell, World.size_drew, World.heap_drewN]; omega))), g5.out.next (by (repeat' (first | (with_reducible exact Below.refl _ _) | (with_reducible assumption) | (with_reducible refine Below.setCell ?_ ?_ _) | (with_reducible refine Below.alloc ?_ ?_ _) | (with_reducible refine Below.drew ?_) | (with_reducible refine below_drewN ?_ _) | (with_reducible refine below_next ?_ (by with_reducible assumption)) | omega | (dsimp only; omega) | (simp only [World.size_alloc, World.size_setCell, World.size_drew, World.heap_drewN]; omega)))), Hold.next ⟨s2, c2⟩ (by (repeat' (first | (with_reducible exact Below.refl _ _) | (with_reducible assumption) | (with_reducible refine Below.setCell ?_ ?_ _) | (with_reducible refine Below.alloc ?_ ?_ _) | (with_reducible refine Below.drew ?_) | (with_reducible refine below_drewN ?_ _) | (with_reducible refine below_next ?_ (by with_reducible assumption)) | omega | (dsimp only; omega) | (simp only [World.size_alloc, World.size_setCell, World.size_drew, World.heap_drewN]; omega)))), Hold.next ⟨s3, c3⟩ (by (repeat' (first | (with_reducible exact Below.refl _ _) | (with_reducible assumption) | (with_reducible refine Below.setCell ?_ ?_ _) | (with_reducible refine Below.alloc ?_ ?_ _) | (with_reducible refine Below.drew ?_) | (with_reducible refine below_drewN ?_ _) | (with_reducible refine below_next ?_ (by with_reducible assumption)) | omega | (dsimp only; omega) | (simp only [World.size_alloc, World.size_setCell, World.size_drew, World.heap_drewN]; omega)))), g6.out.next (by (repeat' (first | (with_reducible exact Below.refl _ _) | (with_reducible assumption) | (with_reducible refine Below.setCell ?_ ?_ _) | (with_reducible refine Below.alloc ?_ ?_ _) | (with_reducible refine Below.drew ?_) | (with_reducible refine below_drewN ?_ _) | (with_reducible refine below_next ?_ (by with_reducible assumption)) | omega | (dsimp only; omega) | (simp only [World.size_alloc, World.size_setCell, World.size_drew, World.heap_drewN]; omega))))⟩)); (case measure => (simp [intOf]; try omega)))
      · have hj7 : j = 7 := by omega
        subst hj7
        clear hlt
        obtain ⟨s2, c2⟩ := g2
        obtain ⟨s3, c3⟩ := g3
        obtain ⟨s, f1, f2⟩ := KB.s
        try simp only [Int.reduceAdd] at f1 f2
        have F1 := Lib.hid f1
        have F2 := Lib.hid f2
        have g5 := Lib.hid g1
        clear f1 f2 g1 g4
        go_wp2_with (first
          | (go_at_call 11; with_reducible refine (F1.out _).mono ?_; rintro e w' ⟨rfl, hbl⟩; obtain ⟨hc, hf, hz⟩ := cif hbl; (try simp only [World.size_alloc, World.size_setCell, World.size_drew, World.heap_drewN] at hz))
          | (go_at_call 11; with_reducible refine (F2.out _).mono ?_; rintro e wd ⟨rfl, hbwd⟩; obtain ⟨hcwd, hfwd, hzwd⟩ := cif hbwd; (try simp only [World.size_alloc, World.size_setCell, World.size_drew, World.heap_drewN] at hzwd)))
        go_loopw [117] (fun i wr => ∃ j : Nat, j ≤ 2 ∧ i = .int .i64 j ∧ Ext w wr ∧ Hold wr w1.heap.size #[.int .i64 0, .int .i64 30] ∧ Hold wr wb.heap.size #[.int .i64 2, .int .u64 U, .int .i64 0] ∧ Hold wr (wb.heap.size + 1) #[.int .i64 2, .int .u64 V', .int .i64 0] ∧
          Hold wr (wd.heap.size + 1) #[.int .i64 6, .int .i64 7]) (fun i _ => 2 - (intOf i).toNat)
        case atStart => exact ⟨0, by omega, rfl, by unfold Ext at *; (repeat' (first | (with_reducible exact Below.refl _ _) | (with_reducible assumption) | (with_reducible refine Below.setCell ?_ ?_ _) | (with_reducible refine Below.alloc ?_ ?_ _) | (with_reducible refine Below.drew ?_) | (with_reducible refine below_drewN ?_ _) | (with_reducible refine below_next ?_ (by with_reducible assumption)) | omega | (dsimp only; omega) | (simp only [World.size_alloc, World.size_setCell, World.size_drew, World.heap_drewN]; omega))), g5.out.next (by (repeat' (first | (with_reducible exact Below.refl _ _) | (with_reducible assumption) | (with_reducible refine Below.setCell ?_ ?_ _) | (with_reducible refine Below.alloc ?_ ?_ _) | (with_reducible refine Below.drew ?_) | (with_reducible refine below_drewN ?_ _) | (with_reducible refine below_next ?_ (by with_reducible assumption)) | omega | (dsimp only; omega) | (simp only [World.size_alloc, World.size_setCell, World.size_drew, World.heap_drewN]; omega)))), Hold.next ⟨s2, c2⟩ (by (repeat' (first | (with_reducible exact Below.refl _ _) | (with_reducible assumption) | (with_reducible refine Below.setCell ?_ ?_ _) | (with_reducible refine Below.alloc ?_ ?_ _) | (with_reducible refine Below.drew ?_) | (with_reducible refine below_drewN ?_ _) | (with_reducible refine below_next ?_ (by with_reducible assumption)) | omega | (dsimp only; omega) | (simp only [World.size_alloc, World.size_setCell, World.size_drew, World.heap_drewN]; omega)))), Hold.next ⟨s3, c3⟩ (by (repeat' (first | (with_reducible exact Below.refl _ _) | (with_reducible assumption) | (with_reducible refine Below.setCell ?_ ?_ _) | (with_reducible refine Below.alloc ?_ ?_ _) | (with_reducible refine Below.drew ?_) | (with_reducible refine below_drewN ?_ _) | (with_reducible refine below_next ?_ (by with_reducible assumption)) | omega | (dsimp only; omega) | (simp only [World.size_alloc, World.size_setCell, World.size_drew, World.heap_drewN]; omega)))), ⟨by (simp only [World.size_alloc, World.size_setCell, World.size_drew, World.heap_drewN]; omega), fun o => by (simp [*, ↓IntWalk.iteOmega]; try (rcases o with _ | _ | _ | o <;> simp))⟩⟩
        case round =>
          clear hcwd hfwd
          obtain ⟨j, hj, rfl, hX3, g1, g2, g3, g4⟩ := hrel
          by_cases hlt : j < 2
          · obtain ⟨p, hp, hpc⟩ : ∃ p : Int, (p = 6 ∨ p = 7) ∧ wr.cell? ⟨wd.heap.size + 1, j, none⟩ = some (.int .i64 p) := by
              rw [g4.2 j]
              have : j = 0 ∨ j = 1 := by omega
              rcases this with rfl | rfl <;> exact ⟨_, by decide, rfl⟩
            have p1 : 6 ≤ p := by omega
            have p2 : p ≤ 7 := by omega
            have g5 := Lib.hid g1
            have g6 := Lib.hid g4
            clear s2 c2 s3 c3
            obtain ⟨s2, c2⟩ := g2
            obtain ⟨s3, c3⟩ := g3
            have s4 := g4.1
            have hd := KB.d p hp
            clear g1 g4 hp
            rcases hd with ⟨f1, f2⟩ | ⟨q, r, u, f1, f2, f3, f4⟩
            · try simp only [Int.reduceAdd] at f1 f2
              have F1 := Lib.hid f1
              have F2 := Lib.hid f2
              clear f1 f2
              go_wp2_with (first
                | (go_at_call 11; with_reducible refine (F1.out _).mono ?_; rintro e w' ⟨rfl, hbl⟩; obtain ⟨hc, hf, hz⟩ := cif hbl; (try simp only [World.size_alloc, World.size_setCell, World.size_drew, World.heap_drewN] at hz))
                | (go_at_call 11; with_reducible refine (F2.out _).mono ?_; rintro e w' ⟨rfl, hbl⟩; obtain ⟨hc, hf, hz⟩ := cif hbl; (try simp only [World.size_alloc, World.size_setCell, World.size_drew, World.heap_drewN] at hz)))
              all_goals (go_roundw; (case rel => (exact ⟨j + 1, by omega, by go_num, by unfold Ext at *; (repeat' (first | (with_reducible exact Below.refl _ _) | (with_reducible assumption) | (with_reducible refine Below.setCell ?_ ?_ _) | (with_reducible refine Below.alloc ?_ ?_ _) | (with_reducible refine Below.drew ?_) | (with_reducible refine below_drewN ?_ _) | (with_reducible refine below_next ?_ (by with_reducible assumption)) | omega | (dsimp only; omega) | (simp only [World.size_alloc, World.size_setCell, World.size_drew, World.heap_drewN]; omega))), g5.out.next (by (repeat' (first | (with_reducible exact Below.refl _ _) | (with_reducible assumption) | (with_reducible refine Below.setCell ?_ ?_ _) | (with_reducible refine Below.alloc ?_ ?_ _) | (with_reducible refine Below.drew ?_) | (with_reducible refine below_drewN ?_ _) | (with_reducible refine below_next ?_ (by with_reducible assumption)) | omega | (dsimp only; omega) | (simp only [World.size_alloc, World.size_setCell, World.size_drew, World.heap_drewN]; omega)))), Hold.next ⟨s2, c2⟩ (by (repeat' (first | (with_reducible exact Below.refl _ _) | (with_reducible assumption) | (with_reducible refine Below.setCell ?_ ?_ _) | (with_reducible refine Below.alloc ?_ ?_ _) | (with_reducible refine Below.drew ?_) | (with_reducible refine below_drewN ?_ _) | (with_reducible refine below_next ?_ (by with_reducible assumption)) | omega | (dsimp only; omega) | (simp only [World.size_alloc, World.size_setCell, World.size_drew, World.heap_drewN]; omega)))), Hold.next ⟨s3, c3⟩ (by (repeat' (first | (with_reducible exact Below.refl _ _) | (with_reducible assumption) | (with_reducible refine Below.setCell ?_ ?_ _) | (with_reducible refine Below.alloc ?_ ?_ _) | (with_reducible refine Below.drew ?_) | (with_reducible refine below_drewN ?_ _) | (with_reducible refine below_next ?_ (by with_reducible assumption)) | omega | (dsimp only; omega) | (simp only [World.size_alloc, World.size_setCell, World.size_drew, World.heap_drewN]; omega)))), g6.out.next (by (repeat' (first | (with_reducible exact Below.refl _ _) | (with_reducible assumption) | (with_reducible refine Below.setCell ?_ ?_ _) | (with_reducible refine Below.alloc ?_ ?_ _) | (with_reducible refine Below.drew ?_) | (with_reducible refine below_drewN ?_ _) | (with_reducible refine below_next ?_ (by with_reducible assumption)) | omega | (dsimp only; omega) | (simp only [World.size_alloc, World.size_setCell, World.size_drew, World.heap_drewN]; omega))))⟩)); (case measure => (simp [intOf]; try omega)))
            · try simp only [Int.reduceAdd] at f1 f2 f3 f4
              have F1 := Lib.hid f1
              have F2 := Lib.hid f2
              have F3 := Lib.hid f3
              have F4 := Lib.hid f4
              clear f1 f2 f3 f4
              go_wp2_with (first
                | (go_at_call 11; with_reducible refine (F1.out _).mono ?_; rintro e w' ⟨rfl, hbl⟩; obtain ⟨hc, hf, hz⟩ := cif hbl; (try simp only [World.size_alloc, World.size_setCell, World.size_drew, World.heap_drewN] at hz))
                | (go_at_call 11; with_reducible refine (F2.out _).mono ?_; rintro e w' ⟨rfl, hbl⟩; obtain ⟨hc, hf, hz⟩ := cif hbl; (try simp only [World.size_alloc, World.size_setCell, World.size_drew, World.heap_drewN] at hz))
                | (go_at_call 11; with_reducible refine (F3.out _).mono ?_; rintro e w' ⟨rfl, hbl⟩; obtain ⟨hc, hf, hz⟩ := cif hbl; (try simp only [World.size_alloc, World.size_setCell, World.size_drew, World.heap_drewN] at hz))
                | (go_at_call 11; with_reducible refine (F4.out _).mono ?_; rintro e w' ⟨rfl, hbl⟩; obtain ⟨hc, hf, hz⟩ := cif hbl; (try simp only [World.size_alloc, World.size_setCell, World.size_drew, World.heap_drewN] at hz)))
              all_goals (go_roundw; (case rel => (exact ⟨j + 1, by omega, by go_num, by unfold Ext at *; (repeat' (first | (with_reducible exact Below.refl _ _) | (with_reducible assumption) | (with_reducible refine Below.setCell ?_ ?_ _) | (with_reducible refine Below.alloc ?_ ?_ _) | (with_reducible refine Below.drew ?_) | (with_reducible refine below_drewN ?_ _) | (with_reducible refine below_next ?_ (by with_reducible assumption)) | omega | (dsimp only; omega) | (simp only [World.size_alloc, World.size_setCell, World.size_drew, World.heap_drewN]; omega))), g5.out.next (by (repeat' (first | (with_reducible exact Below.refl _ _) | (with_reducible assumption) | (with_reducible refine Below.setCell ?_ ?_ _) | (with_reducible refine Below.alloc ?_ ?_ _) | (with_reducible refine Below.drew ?_) | (with_reducible refine below_drewN ?_ _) | (with_reducible refine below_next ?_ (by with_reducible assumption)) | omega | (dsimp only; omega) | (simp only [World.size_alloc, World.size_setCell, World.size_drew, World.heap_drewN]; omega)))), Hold.next ⟨s2, c2⟩ (by (repeat' (first | (with_reducible exact Below.refl _ _) | (with_reducible assumption) | (with_reducible refine Below.setCell ?_ ?_ _) | (with_reducible refine Below.alloc ?_ ?_ _) | (with_reducible refine Below.drew ?_) | (with_reducible refine below_drewN ?_ _) | (with_reducible refine below_next ?_ (by with_reducible assumption)) | omega | (dsimp only; omega) | (simp only [World.size_alloc, World.size_setCell, World.size_drew, World.heap_drewN]; omega)))), Hold.next ⟨s3, c3⟩ (by (repeat' (first | (with_reducible exact Below.refl _ _) | (with_reducible assumption) | (with_reducible refine Below.setCell ?_ ?_ _) | (with_reducible refine Below.alloc ?_ ?_ _) | (with_reducible refine Below.drew ?_) | (with_reducible refine below_drewN ?_ _) | (with_reducible refine below_next ?_ (by with_reducible assumption)) | omega | (dsimp only; omega) | (simp only [World.size_alloc, World.size_setCell, World.size_drew, World.heap_drewN]; omega)))), g6.out.next (by (repeat' (first | (with_reducible exact Below.refl _ _) | (with_reducible assumption) | (with_reducible refine Below.setCell ?_ ?_ _) | (with_reducible refine Below.alloc ?_ ?_ _) | (with_reducible refine Below.drew ?_) | (with_reducible refine below_drewN ?_ _) | (with_reducible refine below_next ?_ (by with_reducible assumption)) | omega | (dsimp only; omega) | (simp only [World.size_alloc, World.size_setCell, World.size_drew, World.heap_drewN]; omega))))⟩)); (case measure => (simp [intOf]; try omega)))
          · have hj2 : j = 2 := by omega
            subst hj2
            have g5 := Lib.hid g1
            clear hlt g1 g2 g3 g4
            go_wp2
            all_goals (go_roundw; (case rel => (exact ⟨2, by omega, by go_num, by unfold Ext at *; (repeat' (first | (with_reducible exact Below.refl _ _) | (with_reducible assumption) | (with_reducible refine Below.setCell ?_ ?_ _) | (with_reducible refine Below.alloc ?_ ?_ _) | (with_reducible refine Below.drew ?_) | (with_reducible refine below_drewN ?_ _) | (with_reducible refine below_next ?_ (by with_reducible assumption)) | omega | (dsimp only; omega) | (simp only [World.size_alloc, World.size_setCell, World.size_drew, World.heap_drewN]; omega))), g5.out.next (by (repeat' (first | (with_reducible exact Below.refl _ _) | (with_reducible assumption) | (with_reducible refine Below.setCell ?_ ?_ _) | (with_reducible refine Below.alloc ?_ ?_ _) | (with_reducible refine Below.drew ?_) | (with_reducible refine below_drewN ?_ _) | (with_reducible refine below_next ?_ (by with_reducible assumption)) | omega | (dsimp only; omega) | (simp only [World.size_alloc, World.size_setCell, World.size_drew, World.heap_drewN]; omega))))⟩)); (case measure => (simp [intOf]; try omega)))
  · go_wp2_with (first
      | (go_at_call 13; with_reducible refine (I1.out _).mono ?_; rintro e wa ⟨rfl, hbwa⟩; obtain ⟨hcwa, hfwa, hzwa⟩ := cif hbwa; (try simp only [World.size_alloc, World.size_setCell, World.size_drew, World.heap_drewN] at hzwa)))
    go_loopw [171] (fun i wr => ∃ j : Nat, j ≤ 2 ∧ i = .int .i64 j ∧ Ext w wr ∧ Hold wr wa.heap.size #[.int .i64 1, .int .u64 X, .int .i64 0] ∧ Hold wr (wa.heap.size + 1) #[.int .i64 84, .int .i64 85]) (fun i _ => 2 - (intOf i).toNat)
    case atStart => exact ⟨0, by omega, rfl, by unfold Ext at *; (repeat' (first | (with_reducible exact Below.refl _ _) | (with_reducible assumption) | (with_reducible refine Below.setCell ?_ ?_ _) | (with_reducible refine Below.alloc ?_ ?_ _) | (with_reducible refine Below.drew ?_) | (with_reducible refine below_drewN ?_ _) | (with_reducible refine below_next ?_ (by with_reducible assumption)) | omega | (dsimp only; omega) | (simp only [World.size_alloc, World.size_setCell, World.size_drew, World.heap_drewN]; omega))), ⟨by (simp only [World.size_alloc, World.size_setCell, World.size_drew, World.heap_drewN]; omega), fun o => by (simp [*, ↓IntWalk.iteOmega]; try (rcases o with _ | _ | _ | o <;> simp))⟩, ⟨by (simp only [World.size_alloc, World.size_setCell, World.size_drew, World.heap_drewN]; omega), fun o => by (simp [*, ↓IntWalk.iteOmega]; try (rcases o with _ | _ | _ | o <;> simp))⟩⟩
    case round =>
      clear hcwa hfwa
      obtain ⟨j, hj, rfl, hX2, g1, g2⟩ := hrel
      by_cases hlt : j < 2
      · obtain ⟨p, hp, hpc⟩ : ∃ p : Int, (p = 84 ∨ p = 85) ∧ wr.cell? ⟨wa.heap.size + 1, j, none⟩ = some (.int .i64 p) := by
          rw [g2.2 j]
          have : j = 0 ∨ j = 1 := by omega
          rcases this with rfl | rfl <;> exact ⟨_, by decide, rfl⟩
        obtain ⟨l, f1, f2⟩ := L.out p hp
        have F1 := Lib.hid f1
        have F2 := Lib.hid f2
        have g6 := Lib.hid g2
        obtain ⟨s1, c1⟩ := g1
        have s2 := g2.1
        clear f1 f2 g2 hp
        go_wp2_with (first
          | (go_at_call 26; with_reducible refine (F1.out _).mono ?_; rintro e w' ⟨rfl, hbl⟩; obtain ⟨hc, hf, hz⟩ := cif hbl; (try simp only [World.size_alloc, World.size_setCell, World.size_drew, World.heap_drewN] at hz))
          | (go_at_call 26; with_reducible refine (F2.out _).mono ?_; rintro e w' ⟨rfl, hbl⟩; obtain ⟨hc, hf, hz⟩ := cif hbl; (try simp only [World.size_alloc, World.size_setCell, World.size_drew, World.heap_drewN] at hz)))
        all_goals (go_roundw; (case rel => (exact ⟨j + 1, by omega, by go_num, by unfold Ext at *; (repeat' (first | (with_reducible exact Below.refl _ _) | (with_reducible assumption) | (with_reducible refine Below.setCell ?_ ?_ _) | (with_reducible refine Below.alloc ?_ ?_ _) | (with_reducible refine Below.drew ?_) | (with_reducible refine below_drewN ?_ _) | (with_reducible refine below_next ?_ (by with_reducible assumption)) | omega | (dsimp only; omega) | (simp only [World.size_alloc, World.size_setCell, World.size_drew, World.heap_drewN]; omega))), Hold.next ⟨s1, c1⟩ (by (repeat' (first | (with_reducible exact Below.refl _ _) | (with_reducible assumption) | (with_reducible refine Below.setCell ?_ ?_ _) | (with_reducible refine Below.alloc ?_ ?_ _) | (with_reducible refine Below.drew ?_) | (with_reducible refine below_drewN ?_ _) | (with_reducible refine below_next ?_ (by with_reducible assumption)) | omega | (dsimp only; omega) | (simp only [World.size_alloc, World.size_setCell, World.size_drew, World.heap_drewN]; omega)))), g6.out.next (by (repeat' (first | (with_reducible exact Below.refl _ _) | (with_reducible assumption) | (with_reducible refine Below.setCell ?_ ?_ _) | (with_reducible refine Below.alloc ?_ ?_ _) | (with_reducible refine Below.drew ?_) | (with_reducible refine below_drewN ?_ _) | (with_reducible refine below_next ?_ (by with_reducible assumption)) | omega | (dsimp only; omega) | (simp only [World.size_alloc, World.size_setCell, World.size_drew, World.heap_drewN]; omega))))⟩)); (case measure => (simp [intOf]; try omega)))
      · have hj2 : j = 2 := by omega
        subst hj2
        obtain ⟨s1, c1⟩ := g1
        obtain ⟨d, f1, f2⟩ := D.out
        have F1 := Lib.hid f1
        have F2 := Lib.hid f2
        clear hlt g2 f1 f2
        go_wp2_with (first
          | (go_at_call 26; with_reducible refine (F1.out _).mono ?_; rintro e w' ⟨rfl, hbl⟩; obtain ⟨hc, hf, hz⟩ := cif hbl; (try simp only [World.size_alloc, World.size_setCell, World.size_drew, World.heap_drewN] at hz))
          | (go_at_call 26; with_reducible refine (F2.out _).mono ?_; rintro e w' ⟨rfl, hbl⟩; obtain ⟨hc, hf, hz⟩ := cif hbl; (try simp only [World.size_alloc, World.size_setCell, World.size_drew, World.heap_drewN] at hz)))
        all_goals (go_returns; refine ⟨rfl, ?_⟩; unfold Ext at *; (repeat' (first | (with_reducible exact Below.refl _ _) | (with_reducible assumption) | (with_reducible refine Below.setCell ?_ ?_ _) | (with_reducible refine Below.alloc ?_ ?_ _) | (with_reducible refine Below.drew ?_) | (with_reducible refine below_drewN ?_ _) | (with_reducible refine below_next ?_ (by with_reducible assumption)) | omega | (dsimp only; omega) | (simp only [World.size_alloc, World.size_setCell, World.size_drew, World.heap_drewN]; omega))))

/-! ### the plain laws -/
theorem e2_of {op k a kb b : Int} {v : V} {ok : Bool} (hi : I64 op) (ha : U64 a) (hb : U64 b) (h : eval2 op ⟨k, a, 0⟩ ⟨kb, b, 0⟩ = (v, ok)) (hl : v.l = 0) : E2 op k a kb b v.k v.b ok := by
  intro w
  have g := eval2_any op k a 0 kb b 0 hi ha hb w
  rw [h] at g
  dsimp only at g
  rw [hl] at g
  exact g
theorem e1_of {op k a : Int} {v : V} (hi : I64 op) (ha : U64 a) (h : eval1 op ⟨k, a, 0⟩ = (v, true)) (hl : v.l = 0) : E1 op k a v.k v.b := by
  intro w
  have g := eval1_any op k a 0 hi ha w
  rw [h] at g
  dsimp only at g
  rw [hl] at g
  exact g

theorem two_int (op a b : Int) (h : 3 ≤ op ∧ op ≤ 25) (ha : U32 a) (hb : U32 b) : eval2 op ⟨1, a, 0⟩ ⟨1, b, 0⟩ = intsV op a b := by
  have e1 : (split op).1 = op := by unfold split; rw [if_neg (by omega)]
  have e2 : (shape op).1 = 1 ∧ (shape op).2.1 = 1 := by grind (splits := 40) [shape, split]
  obtain ⟨a1, a2⟩ := ha
  obtain ⟨b1, b2⟩ := hb
  rw [eval2.eq_1, e2.1, e2.2, e1]
  dsimp only
  rw [if_neg (by decide), if_neg (by decide), if_neg (by decide), if_neg (by decide), if_neg (by decide), Int.emod_eq_of_lt a1 (by omega), Int.emod_eq_of_lt b1 (by omega)]
theorem two_long (op a b : Int) (h : 3 ≤ op ∧ op ≤ 12 ∨ 16 ≤ op ∧ op ≤ 25) : eval2 (op + 30) ⟨2, a, 0⟩ ⟨2, b, 0⟩ = longsV op a b := by
  have e1 : (split (op + 30)).1 = op := by unfold split; rw [if_pos (by omega)]; dsimp only; omega
  have e2 : (shape (op + 30)).1 = 2 ∧ (shape (op + 30)).2.1 = 2 := by grind (splits := 40) [shape, split]
  rw [eval2.eq_1, e2.1, e2.2, e1]
  dsimp only
  rw [if_neg (by decide), if_neg (by decide), if_neg (by decide), if_neg (by decide), if_pos rfl]

theorem e2_int (op a b n : Int) {r : Int} (ho : 3 ≤ op ∧ op ≤ 25) (ha : U32 a) (hb : U32 b) (h : intsV op a b = (intV n, true)) (hr : n % 4294967296 = r) : E2 op 1 a 1 b 1 r true := by
  have u : ∀ a, U32 a → U64 a := fun a h => by unfold U64; unfold U32 at h; omega
  rw [← hr]
  have hi : I64 op := by unfold I64; omega
  exact e2_of hi (u a ha) (u b hb) ((two_int op a b ho ha hb).trans h) rfl
theorem n2_int (op a b : Int) (ho : 3 ≤ op ∧ op ≤ 25) (ha : U32 a) (hb : U32 b) (h : intsV op a b = (undefV, false)) : E2 op 1 a 1 b 0 0 false := by
  have u : ∀ a, U32 a → U64 a := fun a h => by unfold U64; unfold U32 at h; omega
  have hi : I64 op := by unfold I64; omega
  exact e2_of hi (u a ha) (u b hb) ((two_int op a b ho ha hb).trans h) rfl
theorem e2_long (op a b n : Int) {r : Int} (ho : 3 ≤ op ∧ op ≤ 12 ∨ 16 ≤ op ∧ op ≤ 25) (ha : U64 a) (hb : U64 b) (h : longsV op a b = (longV n, true)) (hr : n % 18446744073709551616 = r) : E2 (op + 30) 2 a 2 b 2 r true := by
  rw [← hr]
  have hi : I64 (op + 30) := by unfold I64; omega
  exact e2_of hi ha hb ((two_long op a b ho).trans h) rfl
theorem n2_long (op a b : Int) (ho : 3 ≤ op ∧ op ≤ 12 ∨ 16 ≤ op ∧ op ≤ 25) (ha : U64 a) (hb : U64 b) (h : longsV op a b = (undefV, false)) : E2 (op + 30) 2 a 2 b 0 0 false := by
  have hi : I64 (op + 30) := by unfold I64; omega
  exact e2_of hi ha hb ((two_long op a b ho).trans h) rfl

theorem quot_back (M X Y sx sy q r : Int) (hM : 0 < M) (hX : 0 ≤ X ∧ X < M) (h1 : X % M = sx % M) (h2 : Y % M = sy % M) (h3 : q * sy + r = sx) : ((q % M * Y) % M + r % M) % M = X := by
  have e : ((q % M * Y) % M + r % M) % M = (q * sy + r) % M := by
    rw [← Int.add_emod, Int.add_emod, Int.mul_emod, Int.emod_emod, h2, ← Int.mul_emod, ← Int.add_emod]
  rw [e, h3, ← h1]
  exact Int.emod_eq_of_lt hX.1 hX.2

theorem sdiv_two (least x y : Int) : (sdiv least x y false = (0, false) ∧ sdiv least x y true = (0, false)) ∨ (sdiv least x y false = (x.tdiv y, true) ∧ sdiv least x y true = (x.tmod y, true)) := by
  unfold sdiv
  by_cases c : y = 0 ∨ (y = -1 ∧ x = least)
  · left; rw [if_pos c, if_pos c]; exact ⟨rfl, rfl⟩
  · right; rw [if_neg c, if_neg c]; exact ⟨rfl, rfl⟩
theorem udiv_two (x y : Int) : (udiv x y false = (0, false) ∧ udiv x y true = (0, false)) ∨ (udiv x y false = (x / y, true) ∧ udiv x y true = (x % y, true)) := by
  unfold udiv
  by_cases c : y = 0
  · left; rw [if_pos c, if_pos c]; exact ⟨rfl, rfl⟩
  · right; rw [if_neg c, if_neg c]; exact ⟨rfl, rfl⟩

theorem I64_s (n : Int) (h : 0 ≤ n ∧ n ≤ 100) : I64 n := by unfold I64; omega

theorem kind_int (X Y : Int) (hX : U32 X) (hY : U32 Y) : Kind 1 0 X Y := by
  have u : ∀ a, U32 a → U64 a := fun a h => by unfold U64; unfold U32 at h; omega
  have um : ∀ a : Int, U32 (a % 4294967296) := fun a => by unfold U32; omega
  have hx := wrap32_mod X
  have hy := wrap32_mod Y
  have iv : ∀ n, (intV n).l = 0 := fun n => rfl
  have fv : ∀ b, (flagV b).l = 0 := fun b => by cases b <;> rfl
  refine ⟨?_, ?_, ?_⟩
  · rintro p hp
    obtain ⟨v, h1, h2, h3⟩ : ∃ v : V, intsV p X Y = (v, true) ∧ intsV p Y X = (v, true) ∧ v.l = 0 := by
      rcases hp with rfl | rfl | rfl | rfl | rfl | rfl | rfl
      · exact ⟨_, by simp [intsV, wholeU]; rfl, by simp [intsV, wholeU, Int.add_comm], iv _⟩
      · exact ⟨_, by simp [intsV, wholeU]; rfl, by simp [intsV, wholeU, Int.mul_comm], iv _⟩
      · exact ⟨_, by simp [intsV, wholeU]; rfl, by simp [intsV, wholeU, band, Nat.and_comm], iv _⟩
      · exact ⟨_, by simp [intsV, wholeU]; rfl, by simp [intsV, wholeU, bor, Nat.or_comm], iv _⟩
      · exact ⟨_, by simp [intsV, wholeU]; rfl, by simp [intsV, wholeU, bxor, Nat.xor_comm], iv _⟩
      · exact ⟨flagV (decide (X = Y)), by simp [intsV, cmpd], by simp [intsV, cmpd, eq_comm], fv _⟩
      · exact ⟨flagV (!decide (X = Y)), by simp [intsV, cmpd], by simp [intsV, cmpd, eq_comm], fv _⟩
    rw [Int.add_zero]
    exact ⟨v.k, v.b, e2_of (I64_s p (by omega)) (u X hX) (u Y hY) (by rw [two_int p X Y (by omega) hX hY]; exact h1) h3, e2_of (I64_s p (by omega)) (u Y hY) (u X hX) (by rw [two_int p Y X (by omega) hY hX]; exact h2) h3⟩
  · refine ⟨(X + Y) % 4294967296, ?_, ?_⟩
    · exact e2_int 3 X Y (X + Y) (by omega) hX hY (by simp [intsV, wholeU]) rfl
    · exact e2_int 4 _ Y ((X + Y) % 4294967296 - Y) (by omega) (um (X + Y)) hY (by simp [intsV, wholeU]) (by obtain ⟨x1, x2⟩ := hX; obtain ⟨y1, y2⟩ := hY; omega)
  · rintro p hp
    rw [Int.add_zero, Int.add_zero]
    rcases hp with rfl | rfl
    · rcases sdiv_two (-2147483648) (wrap32 X) (wrap32 Y) with ⟨h1, h2⟩ | ⟨h1, h2⟩
      · left
        exact ⟨n2_int 6 X Y (by omega) hX hY (by simp [intsV, wholeU, h1]), n2_int 8 X Y (by omega) hX hY (by simp [intsV, wholeU, h2])⟩
      · right
        refine ⟨(wrap32 X).tdiv (wrap32 Y) % 4294967296, (wrap32 X).tmod (wrap32 Y) % 4294967296, (wrap32 X).tdiv (wrap32 Y) % 4294967296 * Y % 4294967296, ?_, ?_, ?_, ?_⟩
        · exact e2_int 6 X Y _ (by omega) hX hY (by simp [intsV, wholeU, h1]; try rfl) rfl
        · exact e2_int 8 X Y _ (by omega) hX hY (by simp [intsV, wholeU, h2]; try rfl) rfl
        · exact e2_int 5 _ Y _ (by omega) (um _) hY (by simp [intsV, wholeU]; try rfl) rfl
        · exact e2_int 3 _ _ _ (by omega) (um _) (um _) (by simp [intsV, wholeU]; rfl) (quot_back 4294967296 X Y (wrap32 X) (wrap32 Y) _ _ (by omega) (by obtain ⟨x1, x2⟩ := hX; omega) hx.symm hy.symm (by have := Int.mul_tdiv_add_tmod (wrap32 X) (wrap32 Y); rw [Int.mul_comm] at this; exact this))
    · rcases udiv_two X Y with ⟨h1, h2⟩ | ⟨h1, h2⟩
      · left
        exact ⟨n2_int 7 X Y (by omega) hX hY (by simp [intsV, wholeU, h1]), n2_int 9 X Y (by omega) hX hY (by simp [intsV, wholeU, h2])⟩
      · right
        refine ⟨X / Y % 4294967296, X % Y % 4294967296, X / Y % 4294967296 * Y % 4294967296, ?_, ?_, ?_, ?_⟩
        · exact e2_int 7 X Y _ (by omega) hX hY (by simp [intsV, wholeU, h1]; try rfl) rfl
        · exact e2_int 9 X Y _ (by omega) hX hY (by simp [intsV, wholeU, h2]; try rfl) rfl
        · exact e2_int 5 _ Y _ (by omega) (um _) hY (by simp [intsV, wholeU]; try rfl) rfl
        · exact e2_int 3 _ _ _ (by omega) (um _) (um _) (by simp [intsV, wholeU]; rfl) (quot_back 4294967296 X Y X Y _ _ (by omega) (by obtain ⟨x1, x2⟩ := hX; omega) rfl rfl (by have := Int.mul_ediv_add_emod X Y; rw [Int.mul_comm] at this; exact this))

theorem kind_long (X Y : Int) (hX : U64 X) (hY : U64 Y) : Kind 2 30 X Y := by
  have um : ∀ a : Int, U64 (a % 18446744073709551616) := fun a => by unfold U64; omega
  have hx := wrap64_mod X
  have hy := wrap64_mod Y
  have iv : ∀ n, (longV n).l = 0 := fun n => rfl
  have fv : ∀ b, (flagV b).l = 0 := fun b => by cases b <;> rfl
  refine ⟨?_, ?_, ?_⟩
  · rintro p hp
    obtain ⟨v, h1, h2, h3⟩ : ∃ v : V, longsV p X Y = (v, true) ∧ longsV p Y X = (v, true) ∧ v.l = 0 := by
      rcases hp with rfl | rfl | rfl | rfl | rfl | rfl | rfl
      · exact ⟨_, by simp [longsV, wholeU]; rfl, by simp [longsV, wholeU, Int.add_comm], iv _⟩
      · exact ⟨_, by simp [longsV, wholeU]; rfl, by simp [longsV, wholeU, Int.mul_comm], iv _⟩
      · exact ⟨_, by simp [longsV, wholeU]; rfl, by simp [longsV, wholeU, band, Nat.and_comm], iv _⟩
      · exact ⟨_, by simp [longsV, wholeU]; rfl, by simp [longsV, wholeU, bor, Nat.or_comm], iv _⟩
      · exact ⟨_, by simp [longsV, wholeU]; rfl, by simp [longsV, wholeU, bxor, Nat.xor_comm], iv _⟩
      · exact ⟨flagV (decide (X = Y)), by simp [longsV, cmpd], by simp [longsV, cmpd, eq_comm], fv _⟩
      · exact ⟨flagV (!decide (X = Y)), by simp [longsV, cmpd], by simp [longsV, cmpd, eq_comm], fv _⟩
    exact ⟨v.k, v.b, e2_of (I64_s (p + 30) (by omega)) hX hY (by rw [two_long p X Y (by omega)]; exact h1) h3, e2_of (I64_s (p + 30) (by omega)) hY hX (by rw [two_long p Y X (by omega)]; exact h2) h3⟩
  · refine ⟨(X + Y) % 18446744073709551616, ?_, ?_⟩
    · exact e2_long 3 X Y (X + Y) (by omega) hX hY (by simp [longsV, wholeU]) rfl
    · exact e2_long 4 _ Y ((X + Y) % 18446744073709551616 - Y) (by omega) (um (X + Y)) hY (by simp [longsV, wholeU]) (by obtain ⟨x1, x2⟩ := hX; obtain ⟨y1, y2⟩ := hY; omega)
  · rintro p hp
    rcases hp with rfl | rfl
    · rcases sdiv_two (-9223372036854775808) (wrap64 X) (wrap64 Y) with ⟨h1, h2⟩ | ⟨h1, h2⟩
      · left
        exact ⟨n2_long 6 X Y (by omega) hX hY (by simp [longsV, wholeU, h1]), n2_long 8 X Y (by omega) hX hY (by simp [longsV, wholeU, h2])⟩
      · right
        refine ⟨(wrap64 X).tdiv (wrap64 Y) % 18446744073709551616, (wrap64 X).tmod (wrap64 Y) % 18446744073709551616, (wrap64 X).tdiv (wrap64 Y) % 18446744073709551616 * Y % 18446744073709551616, ?_, ?_, ?_, ?_⟩
        · exact e2_long 6 X Y _ (by omega) hX hY (by simp [longsV, wholeU, h1]; try rfl) rfl
        · exact e2_long 8 X Y _ (by omega) hX hY (by simp [longsV, wholeU, h2]; try rfl) rfl
        · exact e2_long 5 _ Y _ (by omega) (um _) hY (by simp [longsV, wholeU]; try rfl) rfl
        · exact e2_long 3 _ _ _ (by omega) (um _) (um _) (by simp [longsV, wholeU]; rfl) (quot_back 18446744073709551616 X Y (wrap64 X) (wrap64 Y) _ _ (by omega) (by obtain ⟨x1, x2⟩ := hX; omega) hx.symm hy.symm (by have := Int.mul_tdiv_add_tmod (wrap64 X) (wrap64 Y); rw [Int.mul_comm] at this; exact this))
    · rcases udiv_two X Y with ⟨h1, h2⟩ | ⟨h1, h2⟩
      · left
        exact ⟨n2_long 7 X Y (by omega) hX hY (by simp [longsV, wholeU, h1]), n2_long 9 X Y (by omega) hX hY (by simp [longsV, wholeU, h2])⟩
      · right
        refine ⟨X / Y % 18446744073709551616, X % Y % 18446744073709551616, X / Y % 18446744073709551616 * Y % 18446744073709551616, ?_, ?_, ?_, ?_⟩
        · exact e2_long 7 X Y _ (by omega) hX hY (by simp [longsV, wholeU, h1]; try rfl) rfl
        · exact e2_long 9 X Y _ (by omega) hX hY (by simp [longsV, wholeU, h2]; try rfl) rfl
        · exact e2_long 5 _ Y _ (by omega) (um _) hY (by simp [longsV, wholeU]; try rfl) rfl
        · exact e2_long 3 _ _ _ (by omega) (um _) (um _) (by simp [longsV, wholeU]; rfl) (quot_back 18446744073709551616 X Y X Y _ _ (by omega) (by obtain ⟨x1, x2⟩ := hX; omega) rfl rfl (by have := Int.mul_ediv_add_emod X Y; rw [Int.mul_comm] at this; exact this))

theorem e1_cal (op X rk r : Int) (v : V) (k : Int) (hi : I64 op) (hX : U64 X) (h : eval1 op ⟨k, X, 0⟩ = (v, true)) (h1 : v.k = rk) (h2 : v.b = r) (h3 : v.l = 0) : E1 op k X rk r := by
  subst h1 h2
  exact e1_of hi hX h h3

theorem laws_walk (m n : Int) (hm : I64 m) (hn : I64 n) (w : World) :
    Calls Try.prog 7 #[.int .i64 m, .int .i64 n] w fun e w' => e = .returned (.bool true) ∧ Below w.heap.size w w' := by
  have uX : U32 (wrap32 m % 4294967296) := mod_U32 _
  have uY : U32 (wrap32 n % 4294967296) := mod_U32 _
  have um : ∀ a : Int, U64 (a % 18446744073709551616) := fun a => by unfold U64; omega
  have u32 : ∀ a, U32 a → U64 a := fun a h => by unfold U64; unfold U32 at h; omega
  generalize hXe : wrap32 m % 4294967296 = X at *
  refine laws_core m n X _ _ _ w (Lib.hid (by rw [← hXe]; exact intOf_any _)) (Lib.hid (intOf_any _)) (Lib.hid (longOf_any _)) (Lib.hid (longOf_any _)) (kind_int _ _ uX uY) (kind_long _ _ (um _) (um _)) (Lib.hid ?_) (Lib.hid ?_)
  · rintro p (rfl | rfl)
    · refine ⟨wrap32 X % 18446744073709551616, e1_cal _ _ _ _ (longV (wrap32 X)) _ (I64_s _ (by omega)) (u32 _ uX) (by simp [eval1, conv1, shape, split]) rfl rfl rfl,
        e1_cal _ _ _ _ (intV (wrap32 X % 18446744073709551616)) _ (I64_s _ (by omega)) (um _) (by simp [eval1, conv1, shape, split]) rfl ?_ rfl⟩
      have := wrap32_mod X
      obtain ⟨x1, x2⟩ := uX
      show wrap32 X % 18446744073709551616 % 4294967296 = X
      omega
    · refine ⟨X % 4294967296 % 18446744073709551616, e1_cal _ _ _ _ (longV (X % 4294967296)) _ (I64_s _ (by omega)) (u32 _ uX) (by simp [eval1, conv1, shape, split]) rfl rfl rfl,
        e1_cal _ _ _ _ (intV (X % 4294967296 % 18446744073709551616)) _ (I64_s _ (by omega)) (um _) (by simp [eval1, conv1, shape, split]) rfl ?_ rfl⟩
      obtain ⟨x1, x2⟩ := uX
      show X % 4294967296 % 18446744073709551616 % 4294967296 = X
      omega
  · have hw := wrap32_I32 X
    obtain ⟨z1, z2⟩ := hw
    have hT : wholeOf (floatOfInt .f64 (wrap32 X)) = some (wrap32 X) := whole_nearest (wrap32 X) (wrap32 X).natAbs 0 (by rw [Nat.pow_zero, Nat.mul_one]) (by omega) (by omega)
    have hlt : floatOfInt .f64 (wrap32 X) < 2 ^ 64 := Ieee.Format.nearest_lt _ _ _ _
    have hnan : ford (floatOfInt .f64 (wrap32 X)) (floatOfInt .f64 (wrap32 X)) = some .eq := by
      unfold wholeOf at hT
      show (Ieee.double.read _).order (Ieee.double.read _) = _
      cases h : Ieee.double.read (floatOfInt .f64 (wrap32 X)) with
      | number s m p =>
        show some (compare (Ieee.signed s m (p - min p p).toNat) (Ieee.signed s m (p - min p p).toNat)) = _
        generalize Ieee.signed s m (p - min p p).toNat = z
        show some (compareOfLessAndEq z z) = _
        simp [compareOfLessAndEq]
      | infinity s => rw [h] at hT; cases hT
      | nan s t => rw [h] at hT; cases hT
    have hc : canonF (floatOfInt .f64 (wrap32 X)) = dblV (floatOfInt .f64 (wrap32 X)) := by unfold canonF; rw [if_pos hnan]
    refine ⟨(floatOfInt .f64 (wrap32 X) : Nat), e1_cal _ _ _ _ (canonF (floatOfInt .f64 (wrap32 X))) _ (I64_s _ (by omega)) (u32 _ uX) (by simp [eval1, conv1, shape, split]) (by rw [hc]; rfl) (by rw [hc]; rfl) (by rw [hc]; rfl),
      e1_cal _ _ _ _ (intV (wrap32 X)) _ (I64_s _ (by omega)) (by unfold U64; omega) ?_ rfl ?_ rfl⟩
    · have e : eval1 91 ⟨3, (floatOfInt .f64 (wrap32 X) : Nat), 0⟩ = toWholeV 91 (floatOfInt .f64 (wrap32 X)) := by
        simp [eval1, conv1, shape, split]
      rw [e]
      unfold toWholeV
      rw [hT]
      simp only [if_true]
      rw [if_pos (by omega)]
    · have := wrap32_mod X
      obtain ⟨x1, x2⟩ := uX
      show wrap32 X % 4294967296 = X
      omega

end Go.Proofs.Ytonhphiajjkgaaa
