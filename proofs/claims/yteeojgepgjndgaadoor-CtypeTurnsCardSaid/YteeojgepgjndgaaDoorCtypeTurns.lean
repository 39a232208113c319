/-
  The law CtypeTurns, walked.
-/
import Derived.Test.YteeojgepgjndgaaDoorCtypeTurnC
namespace Go.Proofs.YteeojgepgjndgaaDoor
open Go.RowKit
set_option linter.unusedVariables false
set_option linter.unusedSimpArgs false

def codeE (x : Int) : Int := wrap64 (1 + wrap64 ((IntKind.u64.wrap x).tmod 9))
theorem codeE_in (x : Int) : 1 ≤ codeE x ∧ codeE x ≤ 9 := by
  have h : 0 ≤ IntKind.u64.wrap x := by rw [IntKind.wrap_u64]; omega
  unfold codeE
  rw [Int.tmod_eq_emod_of_nonneg h]
  unfold wrap64
  omega
set_option maxRecDepth 100000 in
set_option maxHeartbeats 16000000 in
theorem turns_walk (xf xt n : Int) (hx1 : I64 xf) (hx2 : I64 xt) (hx3 : I64 n) (w : World)
    (HF : Hid (∀ W, Below w.heap.size w W → Calls Tryd.prog 9 #[] W fun e w' => e = .returned (.bool true) ∧ Below W.heap.size W w'))
    {k1 s1 l1 : Int} {f1 : Bool} {n1 : ByteArray} {A1 : Option Addr} {m1 c1 : Nat} {k2 s2 l2 : Int} {f2 : Bool} {n2 : ByteArray} {A2 : Option Addr} {m2 c2 : Nat}
    {vk vb vl wk wb wl bk bb bl fk fb fl gk gb gl ka kb : Int} {vo wo bo fo go rr hh : Bool}
    (HOA : Hid (∀ (b : Nat) W, b < W.heap.size → W.cell? ⟨b, 0, none⟩ = some (.int .i64 (wrap64 (1 + wrap64 ((IntKind.u64.wrap xf).tmod 9)))) → Calls Tryd.prog 11 #[.slice (some ⟨b, 0, none⟩) 1 1] W fun e w' => e = .returned (.agg #[.int .i64 k1, .int .i64 s1, .int .i64 l1, .bool f1, .string n1, .slice A1 m1 c1]) ∧ Below W.heap.size W w')) (HOB : Hid (∀ (b : Nat) W, b < W.heap.size → W.cell? ⟨b, 0, none⟩ = some (.int .i64 (wrap64 (1 + wrap64 ((IntKind.u64.wrap xt).tmod 9)))) → Calls Tryd.prog 11 #[.slice (some ⟨b, 0, none⟩) 1 1] W fun e w' => e = .returned (.agg #[.int .i64 k2, .int .i64 s2, .int .i64 l2, .bool f2, .string n2, .slice A2 m2 c2]) ∧ Below W.heap.size W w'))
    (HV : Hid (∀ W, Calls Tryd.prog 37 #[.agg #[.int .i64 2, .int .u64 (n % 18446744073709551616), .int .i64 0], .agg #[.int .i64 2, .int .i64 8, .int .i64 0, .bool false, .string ⟨#[]⟩, .slice none 0 0], .agg #[.int .i64 k1, .int .i64 s1, .int .i64 l1, .bool f1, .string n1, .slice A1 m1 c1]] W fun e w' => e = .returned (.tuple #[.agg #[.int .i64 vk, .int .u64 vb, .int .i64 vl], .bool vo]) ∧ Below W.heap.size W w')) (HW : Hid (∀ W, Calls Tryd.prog 37 #[.agg #[.int .i64 vk, .int .u64 vb, .int .i64 vl], .agg #[.int .i64 k1, .int .i64 s1, .int .i64 l1, .bool f1, .string n1, .slice A1 m1 c1], .agg #[.int .i64 k2, .int .i64 s2, .int .i64 l2, .bool f2, .string n2, .slice A2 m2 c2]] W fun e w' => e = .returned (.tuple #[.agg #[.int .i64 wk, .int .u64 wb, .int .i64 wl], .bool wo]) ∧ Below W.heap.size W w')) (HB : Hid (∀ W, Calls Tryd.prog 37 #[.agg #[.int .i64 wk, .int .u64 wb, .int .i64 wl], .agg #[.int .i64 k2, .int .i64 s2, .int .i64 l2, .bool f2, .string n2, .slice A2 m2 c2], .agg #[.int .i64 2, .int .i64 8, .int .i64 0, .bool false, .string ⟨#[]⟩, .slice none 0 0]] W fun e w' => e = .returned (.tuple #[.agg #[.int .i64 bk, .int .u64 bb, .int .i64 bl], .bool bo]) ∧ Below W.heap.size W w')) (HFI : Hid (∀ W, Calls Tryd.prog 37 #[.agg #[.int .i64 vk, .int .u64 vb, .int .i64 vl], .agg #[.int .i64 k1, .int .i64 s1, .int .i64 l1, .bool f1, .string n1, .slice A1 m1 c1], .agg #[.int .i64 2, .int .i64 8, .int .i64 0, .bool false, .string ⟨#[]⟩, .slice none 0 0]] W fun e w' => e = .returned (.tuple #[.agg #[.int .i64 fk, .int .u64 fb, .int .i64 fl], .bool fo]) ∧ Below W.heap.size W w')) (HG : Hid (∀ W, Calls Tryd.prog 37 #[.agg #[.int .i64 fk, .int .u64 fb, .int .i64 fl], .agg #[.int .i64 2, .int .i64 8, .int .i64 0, .bool false, .string ⟨#[]⟩, .slice none 0 0], .agg #[.int .i64 k2, .int .i64 s2, .int .i64 l2, .bool f2, .string n2, .slice A2 m2 c2]] W fun e w' => e = .returned (.tuple #[.agg #[.int .i64 gk, .int .u64 gb, .int .i64 gl], .bool go]) ∧ Below W.heap.size W w'))
    (HKA : Hid (∀ W, Calls Tryd.prog 25 #[.agg #[.int .i64 k1, .int .i64 s1, .int .i64 l1, .bool f1, .string n1, .slice A1 m1 c1]] W fun e w' => e = .returned (.int .i64 ka) ∧ Below W.heap.size W w'))
    (HKB : Hid (∀ W, Calls Tryd.prog 25 #[.agg #[.int .i64 k2, .int .i64 s2, .int .i64 l2, .bool f2, .string n2, .slice A2 m2 c2]] W fun e w' => e = .returned (.int .i64 kb) ∧ Below W.heap.size W w'))
    (HR : Hid (∀ W, Calls Tryd.prog 40 #[.agg #[.int .i64 wk, .int .u64 wb, .int .i64 wl]] W fun e w' => e = .returned (.bool rr) ∧ Below W.heap.size W w'))
    (HH : Hid (∀ W, Calls Tryd.prog 41 #[.agg #[.int .i64 k2, .int .i64 s2, .int .i64 l2, .bool f2, .string n2, .slice A2 m2 c2], .int .i64 (wrap64 fb)] W fun e w' => e = .returned (.bool hh) ∧ Below W.heap.size W w'))
    (LAW : Hid (if vo = false ∨ wo = false then ka = 3 else if wk ≠ kb ∨ rr = false ∨ bo = false ∨ fo = false then wk = 3 ∨ vk = 3 else ¬ (gk = wk ∧ gb = wb ∧ gl = wl) ∨ wrap64 fb = wrap64 bb ∨ gk = 3 ∨ hh = false)) :
    Calls Tryd.prog 8 #[.int .i64 xf, .int .i64 xt, .int .i64 n] w fun e w' => e = .returned (.bool true) ∧ Below w.heap.size w w' := by
  obtain ⟨hx11, hx12⟩ := hx1
  obtain ⟨hx21, hx22⟩ := hx2
  obtain ⟨hx31, hx32⟩ := hx3
  have hA1 := cell_alloc_if
  have hA2 := frozen_alloc_if
  have hA3 := cell_set_if
  go_enter Tryd.func8, Tryd.ntmps8
  go_upto_region 3 with (first
    | (go_at_call 9; (with_reducible refine (HF.out _ (by (repeat' (first | (with_reducible exact Below.refl _ _) | (with_reducible assumption) | (with_reducible refine Below.setCell ?_ ?_ _) | (with_reducible refine Below.alloc ?_ ?_ _) | (with_reducible refine Below.drew ?_) | (with_reducible refine below_drewN ?_ _) | (with_reducible refine below_next ?_ (by with_reducible assumption)) | omega | (dsimp only; omega) | (simp only [World.size_alloc, World.size_setCell, World.size_drew, World.heap_drewN]; omega))))).mono ?_); rintro e w1 ⟨rfl, hb1⟩; obtain ⟨hc1, hf1, hz1⟩ := cif hb1; (try simp only [World.size_alloc, World.size_setCell, World.size_drew, World.heap_drewN] at hz1)))
  go_upto_region 5 with (first
    | (go_at_call 11; (with_reducible refine (HOA.out _ _ ?_ ?_).mono ?_); (focus (simp; try omega)); (focus (simp [*, ↓IntWalk.iteOmega])); rintro e w2 ⟨rfl, hb2⟩; obtain ⟨hc2, hf2, hz2⟩ := cif hb2; clear hf2; (try simp only [World.size_alloc, World.size_setCell, World.size_drew, World.heap_drewN] at hz2))
    | (go_at_call 11; (with_reducible refine (HOB.out _ _ ?_ ?_).mono ?_); (focus (simp; try omega)); (focus (simp [*, ↓IntWalk.iteOmega])); rintro e w3 ⟨rfl, hb3⟩; obtain ⟨hc3, hf3, hz3⟩ := cif hb3; clear hf3; (try simp only [World.size_alloc, World.size_setCell, World.size_drew, World.heap_drewN] at hz3)))
  go_cut [7, 8, 9, 10] (fun s7 s8 s9 s10 wx => ∃ (b7 b8 b9 : Nat), s7 = .pointer (some ⟨b7, 0, none⟩) ∧ s8 = .pointer (some ⟨b8, 0, none⟩) ∧ s9 = .pointer (some ⟨b9, 0, none⟩) ∧ s10 = .bool vo ∧ Below w.heap.size w wx ∧ b7 < wx.heap.size ∧ b8 < wx.heap.size ∧ b9 < wx.heap.size ∧ (wx.cell? ⟨b7, 0, none⟩ = some (.int .i64 k1) ∧ wx.cell? ⟨b7, 1, none⟩ = some (.int .i64 s1) ∧ wx.cell? ⟨b7, 2, none⟩ = some (.int .i64 l1) ∧ wx.cell? ⟨b7, 3, none⟩ = some (.bool f1) ∧ wx.cell? ⟨b7, 4, none⟩ = some (.string n1) ∧ wx.cell? ⟨b7, 5, none⟩ = some (.slice A1 m1 c1) ∧ wx.cell? ⟨b8, 0, none⟩ = some (.int .i64 k2) ∧ wx.cell? ⟨b8, 1, none⟩ = some (.int .i64 s2) ∧ wx.cell? ⟨b8, 2, none⟩ = some (.int .i64 l2) ∧ wx.cell? ⟨b8, 3, none⟩ = some (.bool f2) ∧ wx.cell? ⟨b8, 4, none⟩ = some (.string n2) ∧ wx.cell? ⟨b8, 5, none⟩ = some (.slice A2 m2 c2)) ∧ (wx.cell? ⟨b9, 0, none⟩ = some (.int .i64 vk) ∧ wx.cell? ⟨b9, 1, none⟩ = some (.int .u64 vb) ∧ wx.cell? ⟨b9, 2, none⟩ = some (.int .i64 vl)))
  case first =>
    go_region_held3 (fun W => Ext w W ∧ w3.heap.size < W.heap.size ∧ (W.cell? ⟨w2.heap.size, 0, none⟩ = some (.int .i64 k1) ∧ W.cell? ⟨w2.heap.size, 1, none⟩ = some (.int .i64 s1) ∧ W.cell? ⟨w2.heap.size, 2, none⟩ = some (.int .i64 l1) ∧ W.cell? ⟨w2.heap.size, 3, none⟩ = some (.bool f1) ∧ W.cell? ⟨w2.heap.size, 4, none⟩ = some (.string n1) ∧ W.cell? ⟨w2.heap.size, 5, none⟩ = some (.slice A1 m1 c1) ∧ W.cell? ⟨w3.heap.size, 0, none⟩ = some (.int .i64 k2) ∧ W.cell? ⟨w3.heap.size, 1, none⟩ = some (.int .i64 s2) ∧ W.cell? ⟨w3.heap.size, 2, none⟩ = some (.int .i64 l2) ∧ W.cell? ⟨w3.heap.size, 3, none⟩ = some (.bool f2) ∧ W.cell? ⟨w3.heap.size, 4, none⟩ = some (.string n2) ∧ W.cell? ⟨w3.heap.size, 5, none⟩ = some (.slice A2 m2 c2)))
      (first | exact ⟨by unfold Ext at *; (repeat' (first | (with_reducible exact Below.refl _ _) | (with_reducible assumption) | (with_reducible refine Below.setCell ?_ ?_ _) | (with_reducible refine Below.alloc ?_ ?_ _) | (with_reducible refine Below.drew ?_) | (with_reducible refine below_drewN ?_ _) | (with_reducible refine below_next ?_ (by with_reducible assumption)) | omega | (dsimp only; omega) | (simp only [World.size_alloc, World.size_setCell, World.size_drew, World.heap_drewN]; omega))), by (first | omega | (simp; done) | (simp; omega)), by simp [*, ↓IntWalk.iteOmega], by simp [*, ↓IntWalk.iteOmega], by simp [*, ↓IntWalk.iteOmega], by simp [*, ↓IntWalk.iteOmega], by simp [*, ↓IntWalk.iteOmega], by simp [*, ↓IntWalk.iteOmega], by simp [*, ↓IntWalk.iteOmega], by simp [*, ↓IntWalk.iteOmega], by simp [*, ↓IntWalk.iteOmega], by simp [*, ↓IntWalk.iteOmega], by simp [*, ↓IntWalk.iteOmega], by simp [*, ↓IntWalk.iteOmega]⟩)
      (first
      | (go_at_call 38; (with_reducible refine (longOf_any _ _).mono ?_); rintro e w4 ⟨rfl, hb4⟩; obtain ⟨hc4, hf4, hz4⟩ := cif hb4; (try simp only [World.size_alloc, World.size_setCell, World.size_drew, World.heap_drewN] at hz4))
      | (go_at_call 39; (with_reducible refine (numberTy_any _ _ _).mono ?_); rintro e w5 ⟨rfl, hb5⟩; obtain ⟨hc5, hf5, hz5⟩ := cif hb5; (try simp only [World.size_alloc, World.size_setCell, World.size_drew, World.heap_drewN] at hz5))
      | (go_at_call 37; (with_reducible refine (HV.out _).mono ?_); rintro e w6 ⟨rfl, hb6⟩; obtain ⟨hc6, hf6, hz6⟩ := cif hb6; (try simp only [World.size_alloc, World.size_setCell, World.size_drew, World.heap_drewN] at hz6)))
    all_goals (
      go_wp2_with fail
      go_meet
      refine ⟨_, _, _, rfl, rfl, rfl, rfl, by unfold Ext at *; (repeat' (first | (with_reducible exact Below.refl _ _) | (with_reducible assumption) | (with_reducible refine Below.setCell ?_ ?_ _) | (with_reducible refine Below.alloc ?_ ?_ _) | (with_reducible refine Below.drew ?_) | (with_reducible refine below_drewN ?_ _) | (with_reducible refine below_next ?_ (by with_reducible assumption)) | omega | (dsimp only; omega) | (simp only [World.size_alloc, World.size_setCell, World.size_drew, World.heap_drewN]; omega))), ?_, ?_, ?_, ⟨by simp [*, ↓IntWalk.iteOmega], by simp [*, ↓IntWalk.iteOmega], by simp [*, ↓IntWalk.iteOmega], by simp [*, ↓IntWalk.iteOmega], by simp [*, ↓IntWalk.iteOmega], by simp [*, ↓IntWalk.iteOmega], by simp [*, ↓IntWalk.iteOmega], by simp [*, ↓IntWalk.iteOmega], by simp [*, ↓IntWalk.iteOmega], by simp [*, ↓IntWalk.iteOmega], by simp [*, ↓IntWalk.iteOmega], by simp [*, ↓IntWalk.iteOmega]⟩, ⟨by simp [*, ↓IntWalk.iteOmega], by simp [*, ↓IntWalk.iteOmega], by simp [*, ↓IntWalk.iteOmega]⟩⟩)
    all_goals (first
      | omega
      | (simp; done)
      | (simp; omega))
  case rest =>
    obtain ⟨b7, b8, b9, rfl, rfl, rfl, rfl, hbw, hl7, hl8, hl9, ⟨x0, x1, x2, x3, x4, x5, y0, y1, y2, y3, y4, y5⟩, ⟨z0, z1, z2⟩⟩ := hcut
    have hbz := hbw.size
    cases vo with
    | false =>
      have hka : ka = 3 := by simpa using LAW.out
      clear LAW
      subst hka
      go_wp2_with (first
        | (go_at_call 37; (with_reducible refine (HW.out _).mono ?_); rintro e w7 ⟨rfl, hb7⟩; obtain ⟨hc7, hf7, hz7⟩ := cif hb7; (try simp only [World.size_alloc, World.size_setCell, World.size_drew, World.heap_drewN] at hz7))
        | (go_at_call 25; (with_reducible refine (HKA.out _).mono ?_); rintro e w8 ⟨rfl, hb8⟩; obtain ⟨hc8, hf8, hz8⟩ := cif hb8; (try simp only [World.size_alloc, World.size_setCell, World.size_drew, World.heap_drewN] at hz8)))
      all_goals (go_returns; exact ⟨rfl, by (repeat' (first | (with_reducible exact Below.refl _ _) | (with_reducible assumption) | (with_reducible refine Below.setCell ?_ ?_ _) | (with_reducible refine Below.alloc ?_ ?_ _) | (with_reducible refine Below.drew ?_) | (with_reducible refine below_drewN ?_ _) | (with_reducible refine below_next ?_ (by with_reducible assumption)) | omega | (dsimp only; omega) | (simp only [World.size_alloc, World.size_setCell, World.size_drew, World.heap_drewN]; omega)))⟩)
    | true =>
    cases wo with
    | false =>
      have hka : ka = 3 := by simpa using LAW.out
      clear LAW
      subst hka
      go_wp2_with (first
        | (go_at_call 37; (with_reducible refine (HW.out _).mono ?_); rintro e w7 ⟨rfl, hb7⟩; obtain ⟨hc7, hf7, hz7⟩ := cif hb7; (try simp only [World.size_alloc, World.size_setCell, World.size_drew, World.heap_drewN] at hz7))
        | (go_at_call 25; (with_reducible refine (HKA.out _).mono ?_); rintro e w8 ⟨rfl, hb8⟩; obtain ⟨hc8, hf8, hz8⟩ := cif hb8; (try simp only [World.size_alloc, World.size_setCell, World.size_drew, World.heap_drewN] at hz8)))
      all_goals (go_returns; exact ⟨rfl, by (repeat' (first | (with_reducible exact Below.refl _ _) | (with_reducible assumption) | (with_reducible refine Below.setCell ?_ ?_ _) | (with_reducible refine Below.alloc ?_ ?_ _) | (with_reducible refine Below.drew ?_) | (with_reducible refine below_drewN ?_ _) | (with_reducible refine below_next ?_ (by with_reducible assumption)) | omega | (dsimp only; omega) | (simp only [World.size_alloc, World.size_setCell, World.size_drew, World.heap_drewN]; omega)))⟩)
    | true =>
    have LW : Hid (if wk ≠ kb ∨ rr = false ∨ bo = false ∨ fo = false then wk = 3 ∨ vk = 3 else ¬ (gk = wk ∧ gb = wb ∧ gl = wl) ∨ wrap64 fb = wrap64 bb ∨ gk = 3 ∨ hh = false) := Lib.hid (by have h := LAW.out; rw [if_neg (by simp)] at h; exact h)
    clear LAW
    go_upto_region 9 with (first
      | (go_at_call 37; (with_reducible refine (HW.out _).mono ?_); rintro e w7 ⟨rfl, hb7⟩; obtain ⟨hc7, hf7, hz7⟩ := cif hb7; (try simp only [World.size_alloc, World.size_setCell, World.size_drew, World.heap_drewN] at hz7)))
    go_cut [11, 13, 14] (fun s11 s13 s14 wx => ∃ (b11 b13 : Nat), s11 = .pointer (some ⟨b11, 0, none⟩) ∧ s13 = .pointer (some ⟨b13, 0, none⟩) ∧ s14 = .bool bo ∧ Below w.heap.size w wx ∧ b7 < wx.heap.size ∧ b8 < wx.heap.size ∧ b9 < wx.heap.size ∧ b11 < wx.heap.size ∧ b13 < wx.heap.size ∧ (wx.cell? ⟨b7, 0, none⟩ = some (.int .i64 k1) ∧ wx.cell? ⟨b7, 1, none⟩ = some (.int .i64 s1) ∧ wx.cell? ⟨b7, 2, none⟩ = some (.int .i64 l1) ∧ wx.cell? ⟨b7, 3, none⟩ = some (.bool f1) ∧ wx.cell? ⟨b7, 4, none⟩ = some (.string n1) ∧ wx.cell? ⟨b7, 5, none⟩ = some (.slice A1 m1 c1) ∧ wx.cell? ⟨b8, 0, none⟩ = some (.int .i64 k2) ∧ wx.cell? ⟨b8, 1, none⟩ = some (.int .i64 s2) ∧ wx.cell? ⟨b8, 2, none⟩ = some (.int .i64 l2) ∧ wx.cell? ⟨b8, 3, none⟩ = some (.bool f2) ∧ wx.cell? ⟨b8, 4, none⟩ = some (.string n2) ∧ wx.cell? ⟨b8, 5, none⟩ = some (.slice A2 m2 c2)) ∧ (wx.cell? ⟨b9, 0, none⟩ = some (.int .i64 vk) ∧ wx.cell? ⟨b9, 1, none⟩ = some (.int .u64 vb) ∧ wx.cell? ⟨b9, 2, none⟩ = some (.int .i64 vl)) ∧ (wx.cell? ⟨b11, 0, none⟩ = some (.int .i64 wk) ∧ wx.cell? ⟨b11, 1, none⟩ = some (.int .u64 wb) ∧ wx.cell? ⟨b11, 2, none⟩ = some (.int .i64 wl)) ∧ (wx.cell? ⟨b13, 0, none⟩ = some (.int .i64 bk) ∧ wx.cell? ⟨b13, 1, none⟩ = some (.int .u64 bb) ∧ wx.cell? ⟨b13, 2, none⟩ = some (.int .i64 bl)))
    case first =>
      go_region_held3 (fun W => Ext w W ∧ b7 < W.heap.size ∧ b8 < W.heap.size ∧ b9 < W.heap.size ∧ w7.heap.size < W.heap.size ∧ (W.cell? ⟨b7, 0, none⟩ = some (.int .i64 k1) ∧ W.cell? ⟨b7, 1, none⟩ = some (.int .i64 s1) ∧ W.cell? ⟨b7, 2, none⟩ = some (.int .i64 l1) ∧ W.cell? ⟨b7, 3, none⟩ = some (.bool f1) ∧ W.cell? ⟨b7, 4, none⟩ = some (.string n1) ∧ W.cell? ⟨b7, 5, none⟩ = some (.slice A1 m1 c1) ∧ W.cell? ⟨b8, 0, none⟩ = some (.int .i64 k2) ∧ W.cell? ⟨b8, 1, none⟩ = some (.int .i64 s2) ∧ W.cell? ⟨b8, 2, none⟩ = some (.int .i64 l2) ∧ W.cell? ⟨b8, 3, none⟩ = some (.bool f2) ∧ W.cell? ⟨b8, 4, none⟩ = some (.string n2) ∧ W.cell? ⟨b8, 5, none⟩ = some (.slice A2 m2 c2)) ∧ (W.cell? ⟨b9, 0, none⟩ = some (.int .i64 vk) ∧ W.cell? ⟨b9, 1, none⟩ = some (.int .u64 vb) ∧ W.cell? ⟨b9, 2, none⟩ = some (.int .i64 vl)) ∧ (W.cell? ⟨w7.heap.size, 0, none⟩ = some (.int .i64 wk) ∧ W.cell? ⟨w7.heap.size, 1, none⟩ = some (.int .u64 wb) ∧ W.cell? ⟨w7.heap.size, 2, none⟩ = some (.int .i64 wl)))
        (first | exact ⟨by unfold Ext at *; (repeat' (first | (with_reducible exact Below.refl _ _) | (with_reducible assumption) | (with_reducible refine Below.setCell ?_ ?_ _) | (with_reducible refine Below.alloc ?_ ?_ _) | (with_reducible refine Below.drew ?_) | (with_reducible refine below_drewN ?_ _) | (with_reducible refine below_next ?_ (by with_reducible assumption)) | omega | (dsimp only; omega) | (simp only [World.size_alloc, World.size_setCell, World.size_drew, World.heap_drewN]; omega))), by (first | omega | (simp; done) | (simp; omega)), by (first | omega | (simp; done) | (simp; omega)), by (first | omega | (simp; done) | (simp; omega)), by (first | omega | (simp; done) | (simp; omega)), ⟨by simp [*, ↓IntWalk.iteOmega], by simp [*, ↓IntWalk.iteOmega], by simp [*, ↓IntWalk.iteOmega], by simp [*, ↓IntWalk.iteOmega], by simp [*, ↓IntWalk.iteOmega], by simp [*, ↓IntWalk.iteOmega], by simp [*, ↓IntWalk.iteOmega], by simp [*, ↓IntWalk.iteOmega], by simp [*, ↓IntWalk.iteOmega], by simp [*, ↓IntWalk.iteOmega], by simp [*, ↓IntWalk.iteOmega], by simp [*, ↓IntWalk.iteOmega]⟩, ⟨by simp [*, ↓IntWalk.iteOmega], by simp [*, ↓IntWalk.iteOmega], by simp [*, ↓IntWalk.iteOmega]⟩, ⟨by simp [*, ↓IntWalk.iteOmega], by simp [*, ↓IntWalk.iteOmega], by simp [*, ↓IntWalk.iteOmega]⟩⟩)
        (first
        | (go_at_call 39; (with_reducible refine (numberTy_any _ _ _).mono ?_); rintro e w8 ⟨rfl, hb8⟩; obtain ⟨hc8, hf8, hz8⟩ := cif hb8; (try simp only [World.size_alloc, World.size_setCell, World.size_drew, World.heap_drewN] at hz8))
        | (go_at_call 37; (with_reducible refine (HB.out _).mono ?_); rintro e w9 ⟨rfl, hb9⟩; obtain ⟨hc9, hf9, hz9⟩ := cif hb9; (try simp only [World.size_alloc, World.size_setCell, World.size_drew, World.heap_drewN] at hz9)))
      all_goals (
        go_wp2_with fail
        go_meet
        refine ⟨_, _, rfl, rfl, rfl, by unfold Ext at *; (repeat' (first | (with_reducible exact Below.refl _ _) | (with_reducible assumption) | (with_reducible refine Below.setCell ?_ ?_ _) | (with_reducible refine Below.alloc ?_ ?_ _) | (with_reducible refine Below.drew ?_) | (with_reducible refine below_drewN ?_ _) | (with_reducible refine below_next ?_ (by with_reducible assumption)) | omega | (dsimp only; omega) | (simp only [World.size_alloc, World.size_setCell, World.size_drew, World.heap_drewN]; omega))), ?_, ?_, ?_, ?_, ?_, ⟨by simp [*, ↓IntWalk.iteOmega], by simp [*, ↓IntWalk.iteOmega], by simp [*, ↓IntWalk.iteOmega], by simp [*, ↓IntWalk.iteOmega], by simp [*, ↓IntWalk.iteOmega], by simp [*, ↓IntWalk.iteOmega], by simp [*, ↓IntWalk.iteOmega], by simp [*, ↓IntWalk.iteOmega], by simp [*, ↓IntWalk.iteOmega], by simp [*, ↓IntWalk.iteOmega], by simp [*, ↓IntWalk.iteOmega], by simp [*, ↓IntWalk.iteOmega]⟩, ⟨by simp [*, ↓IntWalk.iteOmega], by simp [*, ↓IntWalk.iteOmega], by simp [*, ↓IntWalk.iteOmega]⟩, ⟨by simp [*, ↓IntWalk.iteOmega], by simp [*, ↓IntWalk.iteOmega], by simp [*, ↓IntWalk.iteOmega]⟩, ⟨by simp [*, ↓IntWalk.iteOmega], by simp [*, ↓IntWalk.iteOmega], by simp [*, ↓IntWalk.iteOmega]⟩⟩)
      all_goals (first
        | omega
        | (simp; done)
        | (simp; omega))
    case rest =>
      clear hbw hl7 hl8 hl9 x0 x1 x2 x3 x4 x5 y0 y1 y2 y3 y4 y5 z0 z1 z2 hbz
      obtain ⟨b11, b13, rfl, rfl, rfl, hbw, hl7, hl8, hl9, hl11, hl13, ⟨x0, x1, x2, x3, x4, x5, y0, y1, y2, y3, y4, y5⟩, ⟨z0, z1, z2⟩, ⟨t0, t1, t2⟩, ⟨r0, r1, r2⟩⟩ := hcut
      have hbz := hbw.size
      go_wp2_with fail
      go_cut [15, 16] (fun s15 s16 wx => ∃ (b15 : Nat), s15 = .pointer (some ⟨b15, 0, none⟩) ∧ s16 = .bool fo ∧ Below w.heap.size w wx ∧ b7 < wx.heap.size ∧ b8 < wx.heap.size ∧ b9 < wx.heap.size ∧ b11 < wx.heap.size ∧ b13 < wx.heap.size ∧ b15 < wx.heap.size ∧ (wx.cell? ⟨b7, 0, none⟩ = some (.int .i64 k1) ∧ wx.cell? ⟨b7, 1, none⟩ = some (.int .i64 s1) ∧ wx.cell? ⟨b7, 2, none⟩ = some (.int .i64 l1) ∧ wx.cell? ⟨b7, 3, none⟩ = some (.bool f1) ∧ wx.cell? ⟨b7, 4, none⟩ = some (.string n1) ∧ wx.cell? ⟨b7, 5, none⟩ = some (.slice A1 m1 c1) ∧ wx.cell? ⟨b8, 0, none⟩ = some (.int .i64 k2) ∧ wx.cell? ⟨b8, 1, none⟩ = some (.int .i64 s2) ∧ wx.cell? ⟨b8, 2, none⟩ = some (.int .i64 l2) ∧ wx.cell? ⟨b8, 3, none⟩ = some (.bool f2) ∧ wx.cell? ⟨b8, 4, none⟩ = some (.string n2) ∧ wx.cell? ⟨b8, 5, none⟩ = some (.slice A2 m2 c2)) ∧ (wx.cell? ⟨b9, 0, none⟩ = some (.int .i64 vk) ∧ wx.cell? ⟨b9, 1, none⟩ = some (.int .u64 vb) ∧ wx.cell? ⟨b9, 2, none⟩ = some (.int .i64 vl)) ∧ (wx.cell? ⟨b11, 0, none⟩ = some (.int .i64 wk) ∧ wx.cell? ⟨b11, 1, none⟩ = some (.int .u64 wb) ∧ wx.cell? ⟨b11, 2, none⟩ = some (.int .i64 wl)) ∧ (wx.cell? ⟨b13, 0, none⟩ = some (.int .i64 bk) ∧ wx.cell? ⟨b13, 1, none⟩ = some (.int .u64 bb) ∧ wx.cell? ⟨b13, 2, none⟩ = some (.int .i64 bl)) ∧ (wx.cell? ⟨b15, 0, none⟩ = some (.int .i64 fk) ∧ wx.cell? ⟨b15, 1, none⟩ = some (.int .u64 fb) ∧ wx.cell? ⟨b15, 2, none⟩ = some (.int .i64 fl)))
      case first =>
        go_region_held3 (fun W => Ext w W ∧ b7 < W.heap.size ∧ b8 < W.heap.size ∧ b9 < W.heap.size ∧ b11 < W.heap.size ∧ b13 < W.heap.size ∧ (W.cell? ⟨b7, 0, none⟩ = some (.int .i64 k1) ∧ W.cell? ⟨b7, 1, none⟩ = some (.int .i64 s1) ∧ W.cell? ⟨b7, 2, none⟩ = some (.int .i64 l1) ∧ W.cell? ⟨b7, 3, none⟩ = some (.bool f1) ∧ W.cell? ⟨b7, 4, none⟩ = some (.string n1) ∧ W.cell? ⟨b7, 5, none⟩ = some (.slice A1 m1 c1) ∧ W.cell? ⟨b8, 0, none⟩ = some (.int .i64 k2) ∧ W.cell? ⟨b8, 1, none⟩ = some (.int .i64 s2) ∧ W.cell? ⟨b8, 2, none⟩ = some (.int .i64 l2) ∧ W.cell? ⟨b8, 3, none⟩ = some (.bool f2) ∧ W.cell? ⟨b8, 4, none⟩ = some (.string n2) ∧ W.cell? ⟨b8, 5, none⟩ = some (.slice A2 m2 c2)) ∧ (W.cell? ⟨b9, 0, none⟩ = some (.int .i64 vk) ∧ W.cell? ⟨b9, 1, none⟩ = some (.int .u64 vb) ∧ W.cell? ⟨b9, 2, none⟩ = some (.int .i64 vl)) ∧ (W.cell? ⟨b11, 0, none⟩ = some (.int .i64 wk) ∧ W.cell? ⟨b11, 1, none⟩ = some (.int .u64 wb) ∧ W.cell? ⟨b11, 2, none⟩ = some (.int .i64 wl)) ∧ (W.cell? ⟨b13, 0, none⟩ = some (.int .i64 bk) ∧ W.cell? ⟨b13, 1, none⟩ = some (.int .u64 bb) ∧ W.cell? ⟨b13, 2, none⟩ = some (.int .i64 bl)))
          (first | exact ⟨by unfold Ext at *; (repeat' (first | (with_reducible exact Below.refl _ _) | (with_reducible assumption) | (with_reducible refine Below.setCell ?_ ?_ _) | (with_reducible refine Below.alloc ?_ ?_ _) | (with_reducible refine Below.drew ?_) | (with_reducible refine below_drewN ?_ _) | (with_reducible refine below_next ?_ (by with_reducible assumption)) | omega | (dsimp only; omega) | (simp only [World.size_alloc, World.size_setCell, World.size_drew, World.heap_drewN]; omega))), by (first | omega | (simp; done) | (simp; omega)), by (first | omega | (simp; done) | (simp; omega)), by (first | omega | (simp; done) | (simp; omega)), by (first | omega | (simp; done) | (simp; omega)), by (first | omega | (simp; done) | (simp; omega)), ⟨by simp [*, ↓IntWalk.iteOmega], by simp [*, ↓IntWalk.iteOmega], by simp [*, ↓IntWalk.iteOmega], by simp [*, ↓IntWalk.iteOmega], by simp [*, ↓IntWalk.iteOmega], by simp [*, ↓IntWalk.iteOmega], by simp [*, ↓IntWalk.iteOmega], by simp [*, ↓IntWalk.iteOmega], by simp [*, ↓IntWalk.iteOmega], by simp [*, ↓IntWalk.iteOmega], by simp [*, ↓IntWalk.iteOmega], by simp [*, ↓IntWalk.iteOmega]⟩, ⟨by simp [*, ↓IntWalk.iteOmega], by simp [*, ↓IntWalk.iteOmega], by simp [*, ↓IntWalk.iteOmega]⟩, ⟨by simp [*, ↓IntWalk.iteOmega], by simp [*, ↓IntWalk.iteOmega], by simp [*, ↓IntWalk.iteOmega]⟩, ⟨by simp [*, ↓IntWalk.iteOmega], by simp [*, ↓IntWalk.iteOmega], by simp [*, ↓IntWalk.iteOmega]⟩⟩)
          (first
          | (go_at_call 39; (with_reducible refine (numberTy_any _ _ _).mono ?_); rintro e w10 ⟨rfl, hb10⟩; obtain ⟨hc10, hf10, hz10⟩ := cif hb10; (try simp only [World.size_alloc, World.size_setCell, World.size_drew, World.heap_drewN] at hz10))
          | (go_at_call 37; (with_reducible refine (HFI.out _).mono ?_); rintro e w11 ⟨rfl, hb11⟩; obtain ⟨hc11, hf11, hz11⟩ := cif hb11; (try simp only [World.size_alloc, World.size_setCell, World.size_drew, World.heap_drewN] at hz11)))
        all_goals (
          go_wp2_with fail
          go_meet
          refine ⟨_, rfl, rfl, by unfold Ext at *; (repeat' (first | (with_reducible exact Below.refl _ _) | (with_reducible assumption) | (with_reducible refine Below.setCell ?_ ?_ _) | (with_reducible refine Below.alloc ?_ ?_ _) | (with_reducible refine Below.drew ?_) | (with_reducible refine below_drewN ?_ _) | (with_reducible refine below_next ?_ (by with_reducible assumption)) | omega | (dsimp only; omega) | (simp only [World.size_alloc, World.size_setCell, World.size_drew, World.heap_drewN]; omega))), ?_, ?_, ?_, ?_, ?_, ?_, ⟨by simp [*, ↓IntWalk.iteOmega], by simp [*, ↓IntWalk.iteOmega], by simp [*, ↓IntWalk.iteOmega], by simp [*, ↓IntWalk.iteOmega], by simp [*, ↓IntWalk.iteOmega], by simp [*, ↓IntWalk.iteOmega], by simp [*, ↓IntWalk.iteOmega], by simp [*, ↓IntWalk.iteOmega], by simp [*, ↓IntWalk.iteOmega], by simp [*, ↓IntWalk.iteOmega], by simp [*, ↓IntWalk.iteOmega], by simp [*, ↓IntWalk.iteOmega]⟩, ⟨by simp [*, ↓IntWalk.iteOmega], by simp [*, ↓IntWalk.iteOmega], by simp [*, ↓IntWalk.iteOmega]⟩, ⟨by simp [*, ↓IntWalk.iteOmega], by simp [*, ↓IntWalk.iteOmega], by simp [*, ↓IntWalk.iteOmega]⟩, ⟨by simp [*, ↓IntWalk.iteOmega], by simp [*, ↓IntWalk.iteOmega], by simp [*, ↓IntWalk.iteOmega]⟩, ⟨by simp [*, ↓IntWalk.iteOmega], by simp [*, ↓IntWalk.iteOmega], by simp [*, ↓IntWalk.iteOmega]⟩⟩)
        all_goals (first
          | omega
          | (simp; done)
          | (simp; omega))
      case rest =>
        clear hbw hl7 hl8 hl9 hl11 hl13 x0 x1 x2 x3 x4 x5 y0 y1 y2 y3 y4 y5 z0 z1 z2 t0 t1 t2 r0 r1 r2 hbz
        obtain ⟨b15, rfl, rfl, hbw, hl7, hl8, hl9, hl11, hl13, hl15, ⟨x0, x1, x2, x3, x4, x5, y0, y1, y2, y3, y4, y5⟩, ⟨z0, z1, z2⟩, ⟨t0, t1, t2⟩, ⟨r0, r1, r2⟩, ⟨q0, q1, q2⟩⟩ := hcut
        have hbz := hbw.size
        go_wp2
        go_quiet (fail)
        go_wp2_with fail
        by_cases hk : wk = kb
        · subst hk
          cases rr with
          | false =>
            have hl : wk = 3 ∨ vk = 3 := by have h := LW.out; rw [if_pos (by simp)] at h; exact h
            clear LW
            by_cases h3 : wk = 3
            · subst h3
              refine wp_region_ext (by kernel_rfl) (by kernel_rfl) ?_
              repeat (first | go_big_quiet_skip | (go_big_quiet_want; go_big_quiet_op; first | go_big_quiet_on | (apply Exists.intro; refine ⟨fun W hW => ?_, ?_⟩; (focus (first
                | (go_at_call 25; have hWb := Ext.of hW; (with_reducible refine (HKB.out _).mono ?_); rintro e w1 ⟨rfl, hb⟩; exact ⟨rfl, Ext.next hW hb⟩)
                  | (go_at_call 40; have hWb := Ext.of hW; (with_reducible refine (HR.out _).mono ?_); rintro e w1 ⟨rfl, hb⟩; exact ⟨rfl, Ext.next hW hb⟩)
                | exact rfl | (obtain ⟨hcW, hfW, hzW⟩ := cif (Ext.of hW); (try simp only [World.size_alloc, World.size_setCell, World.size_drew, World.heap_drewN] at hzW); simp [go_sem, *, ↓IntWalk.iteOmega]; (try exact rfl)))); go_big_quiet_on)))
              refine wpQuiet_nil ?_
              intro w' hw'
              have hbl := Ext.of hw'
              obtain ⟨hc, hf, hz⟩ := cif hbl
              (try simp only [World.size_alloc, World.size_setCell, World.size_drew, World.heap_drewN] at hz)
              clear hw'
              go_wp2
              all_goals (go_returns; exact ⟨rfl, by (repeat' (first | (with_reducible exact Below.refl _ _) | (with_reducible assumption) | (with_reducible refine Below.setCell ?_ ?_ _) | (with_reducible refine Below.alloc ?_ ?_ _) | (with_reducible refine Below.drew ?_) | (with_reducible refine below_drewN ?_ _) | (with_reducible refine below_next ?_ (by with_reducible assumption)) | omega | (dsimp only; omega) | (simp only [World.size_alloc, World.size_setCell, World.size_drew, World.heap_drewN]; omega)))⟩)
            · obtain rfl : vk = 3 := hl.resolve_left h3
              refine wp_region_ext (by kernel_rfl) (by kernel_rfl) ?_
              repeat (first | go_big_quiet_skip | (go_big_quiet_want; go_big_quiet_op; first | go_big_quiet_on | (apply Exists.intro; refine ⟨fun W hW => ?_, ?_⟩; (focus (first
                | (go_at_call 25; have hWb := Ext.of hW; (with_reducible refine (HKB.out _).mono ?_); rintro e w1 ⟨rfl, hb⟩; exact ⟨rfl, Ext.next hW hb⟩)
                  | (go_at_call 40; have hWb := Ext.of hW; (with_reducible refine (HR.out _).mono ?_); rintro e w1 ⟨rfl, hb⟩; exact ⟨rfl, Ext.next hW hb⟩)
                | exact rfl | (obtain ⟨hcW, hfW, hzW⟩ := cif (Ext.of hW); (try simp only [World.size_alloc, World.size_setCell, World.size_drew, World.heap_drewN] at hzW); simp [go_sem, *, ↓IntWalk.iteOmega]; (try exact rfl)))); go_big_quiet_on)))
              refine wpQuiet_nil ?_
              intro w' hw'
              have hbl := Ext.of hw'
              obtain ⟨hc, hf, hz⟩ := cif hbl
              (try simp only [World.size_alloc, World.size_setCell, World.size_drew, World.heap_drewN] at hz)
              clear hw'
              go_wp2
              all_goals (go_returns; exact ⟨rfl, by (repeat' (first | (with_reducible exact Below.refl _ _) | (with_reducible assumption) | (with_reducible refine Below.setCell ?_ ?_ _) | (with_reducible refine Below.alloc ?_ ?_ _) | (with_reducible refine Below.drew ?_) | (with_reducible refine below_drewN ?_ _) | (with_reducible refine below_next ?_ (by with_reducible assumption)) | omega | (dsimp only; omega) | (simp only [World.size_alloc, World.size_setCell, World.size_drew, World.heap_drewN]; omega)))⟩)
          | true =>
          cases bo with
          | false =>
            have hl : wk = 3 ∨ vk = 3 := by have h := LW.out; rw [if_pos (by simp)] at h; exact h
            clear LW
            by_cases h3 : wk = 3
            · subst h3
              refine wp_region_ext (by kernel_rfl) (by kernel_rfl) ?_
              repeat (first | go_big_quiet_skip | (go_big_quiet_want; go_big_quiet_op; first | go_big_quiet_on | (apply Exists.intro; refine ⟨fun W hW => ?_, ?_⟩; (focus (first
                | (go_at_call 25; have hWb := Ext.of hW; (with_reducible refine (HKB.out _).mono ?_); rintro e w1 ⟨rfl, hb⟩; exact ⟨rfl, Ext.next hW hb⟩)
                  | (go_at_call 40; have hWb := Ext.of hW; (with_reducible refine (HR.out _).mono ?_); rintro e w1 ⟨rfl, hb⟩; exact ⟨rfl, Ext.next hW hb⟩)
                | exact rfl | (obtain ⟨hcW, hfW, hzW⟩ := cif (Ext.of hW); (try simp only [World.size_alloc, World.size_setCell, World.size_drew, World.heap_drewN] at hzW); simp [go_sem, *, ↓IntWalk.iteOmega]; (try exact rfl)))); go_big_quiet_on)))
              refine wpQuiet_nil ?_
              intro w' hw'
              have hbl := Ext.of hw'
              obtain ⟨hc, hf, hz⟩ := cif hbl
              (try simp only [World.size_alloc, World.size_setCell, World.size_drew, World.heap_drewN] at hz)
              clear hw'
              go_wp2
              all_goals (go_returns; exact ⟨rfl, by (repeat' (first | (with_reducible exact Below.refl _ _) | (with_reducible assumption) | (with_reducible refine Below.setCell ?_ ?_ _) | (with_reducible refine Below.alloc ?_ ?_ _) | (with_reducible refine Below.drew ?_) | (with_reducible refine below_drewN ?_ _) | (with_reducible refine below_next ?_ (by with_reducible assumption)) | omega | (dsimp only; omega) | (simp only [World.size_alloc, World.size_setCell, World.size_drew, World.heap_drewN]; omega)))⟩)
            · obtain rfl : vk = 3 := hl.resolve_left h3
              refine wp_region_ext (by kernel_rfl) (by kernel_rfl) ?_
              repeat (first | go_big_quiet_skip | (go_big_quiet_want; go_big_quiet_op; first | go_big_quiet_on | (apply Exists.intro; refine ⟨fun W hW => ?_, ?_⟩; (focus (first
                | (go_at_call 25; have hWb := Ext.of hW; (with_reducible refine (HKB.out _).mono ?_); rintro e w1 ⟨rfl, hb⟩; exact ⟨rfl, Ext.next hW hb⟩)
                  | (go_at_call 40; have hWb := Ext.of hW; (with_reducible refine (HR.out _).mono ?_); rintro e w1 ⟨rfl, hb⟩; exact ⟨rfl, Ext.next hW hb⟩)
                | exact rfl | (obtain ⟨hcW, hfW, hzW⟩ := cif (Ext.of hW); (try simp only [World.size_alloc, World.size_setCell, World.size_drew, World.heap_drewN] at hzW); simp [go_sem, *, ↓IntWalk.iteOmega]; (try exact rfl)))); go_big_quiet_on)))
              refine wpQuiet_nil ?_
              intro w' hw'
              have hbl := Ext.of hw'
              obtain ⟨hc, hf, hz⟩ := cif hbl
              (try simp only [World.size_alloc, World.size_setCell, World.size_drew, World.heap_drewN] at hz)
              clear hw'
              go_wp2
              all_goals (go_returns; exact ⟨rfl, by (repeat' (first | (with_reducible exact Below.refl _ _) | (with_reducible assumption) | (with_reducible refine Below.setCell ?_ ?_ _) | (with_reducible refine Below.alloc ?_ ?_ _) | (with_reducible refine Below.drew ?_) | (with_reducible refine below_drewN ?_ _) | (with_reducible refine below_next ?_ (by with_reducible assumption)) | omega | (dsimp only; omega) | (simp only [World.size_alloc, World.size_setCell, World.size_drew, World.heap_drewN]; omega)))⟩)
          | true =>
          cases fo with
          | false =>
            have hl : wk = 3 ∨ vk = 3 := by have h := LW.out; rw [if_pos (by simp)] at h; exact h
            clear LW
            by_cases h3 : wk = 3
            · subst h3
              refine wp_region_ext (by kernel_rfl) (by kernel_rfl) ?_
              repeat (first | go_big_quiet_skip | (go_big_quiet_want; go_big_quiet_op; first | go_big_quiet_on | (apply Exists.intro; refine ⟨fun W hW => ?_, ?_⟩; (focus (first
                | (go_at_call 25; have hWb := Ext.of hW; (with_reducible refine (HKB.out _).mono ?_); rintro e w1 ⟨rfl, hb⟩; exact ⟨rfl, Ext.next hW hb⟩)
                  | (go_at_call 40; have hWb := Ext.of hW; (with_reducible refine (HR.out _).mono ?_); rintro e w1 ⟨rfl, hb⟩; exact ⟨rfl, Ext.next hW hb⟩)
                | exact rfl | (obtain ⟨hcW, hfW, hzW⟩ := cif (Ext.of hW); (try simp only [World.size_alloc, World.size_setCell, World.size_drew, World.heap_drewN] at hzW); simp [go_sem, *, ↓IntWalk.iteOmega]; (try exact rfl)))); go_big_quiet_on)))
              refine wpQuiet_nil ?_
              intro w' hw'
              have hbl := Ext.of hw'
              obtain ⟨hc, hf, hz⟩ := cif hbl
              (try simp only [World.size_alloc, World.size_setCell, World.size_drew, World.heap_drewN] at hz)
              clear hw'
              go_wp2
              all_goals (go_returns; exact ⟨rfl, by (repeat' (first | (with_reducible exact Below.refl _ _) | (with_reducible assumption) | (with_reducible refine Below.setCell ?_ ?_ _) | (with_reducible refine Below.alloc ?_ ?_ _) | (with_reducible refine Below.drew ?_) | (with_reducible refine below_drewN ?_ _) | (with_reducible refine below_next ?_ (by with_reducible assumption)) | omega | (dsimp only; omega) | (simp only [World.size_alloc, World.size_setCell, World.size_drew, World.heap_drewN]; omega)))⟩)
            · obtain rfl : vk = 3 := hl.resolve_left h3
              refine wp_region_ext (by kernel_rfl) (by kernel_rfl) ?_
              repeat (first | go_big_quiet_skip | (go_big_quiet_want; go_big_quiet_op; first | go_big_quiet_on | (apply Exists.intro; refine ⟨fun W hW => ?_, ?_⟩; (focus (first
                | (go_at_call 25; have hWb := Ext.of hW; (with_reducible refine (HKB.out _).mono ?_); rintro e w1 ⟨rfl, hb⟩; exact ⟨rfl, Ext.next hW hb⟩)
                  | (go_at_call 40; have hWb := Ext.of hW; (with_reducible refine (HR.out _).mono ?_); rintro e w1 ⟨rfl, hb⟩; exact ⟨rfl, Ext.next hW hb⟩)
                | exact rfl | (obtain ⟨hcW, hfW, hzW⟩ := cif (Ext.of hW); (try simp only [World.size_alloc, World.size_setCell, World.size_drew, World.heap_drewN] at hzW); simp [go_sem, *, ↓IntWalk.iteOmega]; (try exact rfl)))); go_big_quiet_on)))
              refine wpQuiet_nil ?_
              intro w' hw'
              have hbl := Ext.of hw'
              obtain ⟨hc, hf, hz⟩ := cif hbl
              (try simp only [World.size_alloc, World.size_setCell, World.size_drew, World.heap_drewN] at hz)
              clear hw'
              go_wp2
              all_goals (go_returns; exact ⟨rfl, by (repeat' (first | (with_reducible exact Below.refl _ _) | (with_reducible assumption) | (with_reducible refine Below.setCell ?_ ?_ _) | (with_reducible refine Below.alloc ?_ ?_ _) | (with_reducible refine Below.drew ?_) | (with_reducible refine below_drewN ?_ _) | (with_reducible refine below_next ?_ (by with_reducible assumption)) | omega | (dsimp only; omega) | (simp only [World.size_alloc, World.size_setCell, World.size_drew, World.heap_drewN]; omega)))⟩)
          | true =>
            have LX : Hid (¬ (gk = wk ∧ gb = wb ∧ gl = wl) ∨ wrap64 fb = wrap64 bb ∨ gk = 3 ∨ hh = false) := Lib.hid (by have h := LW.out; rw [if_neg (by simp)] at h; exact h)
            clear LW
            refine wp_region_ext (by kernel_rfl) (by kernel_rfl) ?_
            repeat (first | go_big_quiet_skip | (go_big_quiet_want; go_big_quiet_op; first | go_big_quiet_on | (apply Exists.intro; refine ⟨fun W hW => ?_, ?_⟩; (focus (first
              | (go_at_call 25; have hWb := Ext.of hW; (with_reducible refine (HKB.out _).mono ?_); rintro e w1 ⟨rfl, hb⟩; exact ⟨rfl, Ext.next hW hb⟩)
                | (go_at_call 40; have hWb := Ext.of hW; (with_reducible refine (HR.out _).mono ?_); rintro e w1 ⟨rfl, hb⟩; exact ⟨rfl, Ext.next hW hb⟩)
              | exact rfl | (obtain ⟨hcW, hfW, hzW⟩ := cif (Ext.of hW); (try simp only [World.size_alloc, World.size_setCell, World.size_drew, World.heap_drewN] at hzW); simp [go_sem, *, ↓IntWalk.iteOmega]; (try exact rfl)))); go_big_quiet_on)))
            refine wpQuiet_nil ?_
            intro w' hw'
            have hbl := Ext.of hw'
            obtain ⟨hc, hf, hz⟩ := cif hbl
            (try simp only [World.size_alloc, World.size_setCell, World.size_drew, World.heap_drewN] at hz)
            clear hw'
            have hzc := hz
            go_wp2_with fail
            go_cut [19, 20] (fun s19 s20 wx => ∃ (b19 : Nat), s19 = .pointer (some ⟨b19, 0, none⟩) ∧ s20 = .bool go ∧ Below w.heap.size w wx ∧ b7 < wx.heap.size ∧ b8 < wx.heap.size ∧ b11 < wx.heap.size ∧ b19 < wx.heap.size ∧ (wx.cell? ⟨b7, 0, none⟩ = some (.int .i64 k1) ∧ wx.cell? ⟨b7, 1, none⟩ = some (.int .i64 s1) ∧ wx.cell? ⟨b7, 2, none⟩ = some (.int .i64 l1) ∧ wx.cell? ⟨b7, 3, none⟩ = some (.bool f1) ∧ wx.cell? ⟨b7, 4, none⟩ = some (.string n1) ∧ wx.cell? ⟨b7, 5, none⟩ = some (.slice A1 m1 c1) ∧ wx.cell? ⟨b8, 0, none⟩ = some (.int .i64 k2) ∧ wx.cell? ⟨b8, 1, none⟩ = some (.int .i64 s2) ∧ wx.cell? ⟨b8, 2, none⟩ = some (.int .i64 l2) ∧ wx.cell? ⟨b8, 3, none⟩ = some (.bool f2) ∧ wx.cell? ⟨b8, 4, none⟩ = some (.string n2) ∧ wx.cell? ⟨b8, 5, none⟩ = some (.slice A2 m2 c2)) ∧ (wx.cell? ⟨b11, 0, none⟩ = some (.int .i64 wk) ∧ wx.cell? ⟨b11, 1, none⟩ = some (.int .u64 wb) ∧ wx.cell? ⟨b11, 2, none⟩ = some (.int .i64 wl)) ∧ (wx.cell? ⟨b19, 0, none⟩ = some (.int .i64 gk) ∧ wx.cell? ⟨b19, 1, none⟩ = some (.int .u64 gb) ∧ wx.cell? ⟨b19, 2, none⟩ = some (.int .i64 gl)))
            case first =>
              go_region_held3 (fun W => Ext w W ∧ b7 < W.heap.size ∧ b8 < W.heap.size ∧ b11 < W.heap.size ∧ b15 < W.heap.size ∧ (W.cell? ⟨b7, 0, none⟩ = some (.int .i64 k1) ∧ W.cell? ⟨b7, 1, none⟩ = some (.int .i64 s1) ∧ W.cell? ⟨b7, 2, none⟩ = some (.int .i64 l1) ∧ W.cell? ⟨b7, 3, none⟩ = some (.bool f1) ∧ W.cell? ⟨b7, 4, none⟩ = some (.string n1) ∧ W.cell? ⟨b7, 5, none⟩ = some (.slice A1 m1 c1) ∧ W.cell? ⟨b8, 0, none⟩ = some (.int .i64 k2) ∧ W.cell? ⟨b8, 1, none⟩ = some (.int .i64 s2) ∧ W.cell? ⟨b8, 2, none⟩ = some (.int .i64 l2) ∧ W.cell? ⟨b8, 3, none⟩ = some (.bool f2) ∧ W.cell? ⟨b8, 4, none⟩ = some (.string n2) ∧ W.cell? ⟨b8, 5, none⟩ = some (.slice A2 m2 c2)) ∧ (W.cell? ⟨b11, 0, none⟩ = some (.int .i64 wk) ∧ W.cell? ⟨b11, 1, none⟩ = some (.int .u64 wb) ∧ W.cell? ⟨b11, 2, none⟩ = some (.int .i64 wl)) ∧ (W.cell? ⟨b15, 0, none⟩ = some (.int .i64 fk) ∧ W.cell? ⟨b15, 1, none⟩ = some (.int .u64 fb) ∧ W.cell? ⟨b15, 2, none⟩ = some (.int .i64 fl)))
                (first | exact ⟨by unfold Ext at *; (repeat' (first | (with_reducible exact Below.refl _ _) | (with_reducible assumption) | (with_reducible refine Below.setCell ?_ ?_ _) | (with_reducible refine Below.alloc ?_ ?_ _) | (with_reducible refine Below.drew ?_) | (with_reducible refine below_drewN ?_ _) | (with_reducible refine below_next ?_ (by with_reducible assumption)) | omega | (dsimp only; omega) | (simp only [World.size_alloc, World.size_setCell, World.size_drew, World.heap_drewN]; omega))), by (first | omega | (simp; done) | (simp; omega)), by (first | omega | (simp; done) | (simp; omega)), by (first | omega | (simp; done) | (simp; omega)), by (first | omega | (simp; done) | (simp; omega)), ⟨by simp [*, ↓IntWalk.iteOmega], by simp [*, ↓IntWalk.iteOmega], by simp [*, ↓IntWalk.iteOmega], by simp [*, ↓IntWalk.iteOmega], by simp [*, ↓IntWalk.iteOmega], by simp [*, ↓IntWalk.iteOmega], by simp [*, ↓IntWalk.iteOmega], by simp [*, ↓IntWalk.iteOmega], by simp [*, ↓IntWalk.iteOmega], by simp [*, ↓IntWalk.iteOmega], by simp [*, ↓IntWalk.iteOmega], by simp [*, ↓IntWalk.iteOmega]⟩, ⟨by simp [*, ↓IntWalk.iteOmega], by simp [*, ↓IntWalk.iteOmega], by simp [*, ↓IntWalk.iteOmega]⟩, ⟨by simp [*, ↓IntWalk.iteOmega], by simp [*, ↓IntWalk.iteOmega], by simp [*, ↓IntWalk.iteOmega]⟩⟩)
                (first
                | (go_at_call 39; (with_reducible refine (numberTy_any _ _ _).mono ?_); rintro e w14 ⟨rfl, hb14⟩; obtain ⟨hc14, hf14, hz14⟩ := cif hb14; (try simp only [World.size_alloc, World.size_setCell, World.size_drew, World.heap_drewN] at hz14))
                | (go_at_call 37; (with_reducible refine (HG.out _).mono ?_); rintro e w15 ⟨rfl, hb15⟩; obtain ⟨hc15, hf15, hz15⟩ := cif hb15; (try simp only [World.size_alloc, World.size_setCell, World.size_drew, World.heap_drewN] at hz15)))
              all_goals (
                go_wp2_with fail
                go_meet
                refine ⟨_, rfl, rfl, by unfold Ext at *; (repeat' (first | (with_reducible exact Below.refl _ _) | (with_reducible assumption) | (with_reducible refine Below.setCell ?_ ?_ _) | (with_reducible refine Below.alloc ?_ ?_ _) | (with_reducible refine Below.drew ?_) | (with_reducible refine below_drewN ?_ _) | (with_reducible refine below_next ?_ (by with_reducible assumption)) | omega | (dsimp only; omega) | (simp only [World.size_alloc, World.size_setCell, World.size_drew, World.heap_drewN]; omega))), ?_, ?_, ?_, ?_, ⟨by simp [*, ↓IntWalk.iteOmega], by simp [*, ↓IntWalk.iteOmega], by simp [*, ↓IntWalk.iteOmega], by simp [*, ↓IntWalk.iteOmega], by simp [*, ↓IntWalk.iteOmega], by simp [*, ↓IntWalk.iteOmega], by simp [*, ↓IntWalk.iteOmega], by simp [*, ↓IntWalk.iteOmega], by simp [*, ↓IntWalk.iteOmega], by simp [*, ↓IntWalk.iteOmega], by simp [*, ↓IntWalk.iteOmega], by simp [*, ↓IntWalk.iteOmega]⟩, ⟨by simp [*, ↓IntWalk.iteOmega], by simp [*, ↓IntWalk.iteOmega], by simp [*, ↓IntWalk.iteOmega]⟩, ⟨by simp [*, ↓IntWalk.iteOmega], by simp [*, ↓IntWalk.iteOmega], by simp [*, ↓IntWalk.iteOmega]⟩⟩)
              all_goals (first
                | omega
                | (simp; done)
                | (simp; omega))
            case rest =>
              clear hbw hl7 hl8 hl9 hl11 hl13 hl15 x0 x1 x2 x3 x4 x5 y0 y1 y2 y3 y4 y5 z0 z1 z2 t0 t1 t2 r0 r1 r2 q0 q1 q2 hbz
              obtain ⟨b19, rfl, rfl, hbw, hl7, hl8, hl11, hl19, ⟨x0, x1, x2, x3, x4, x5, y0, y1, y2, y3, y4, y5⟩, ⟨t0, t1, t2⟩, ⟨q0, q1, q2⟩⟩ := hcut
              have hbz := hbw.size
              go_wp2_with (first
                | (go_at_call 41; (with_reducible refine (HH.out _).mono ?_); rintro e w16 ⟨rfl, hb16⟩; obtain ⟨hc16, hf16, hz16⟩ := cif hb16; (try simp only [World.size_alloc, World.size_setCell, World.size_drew, World.heap_drewN] at hz16)))
              all_goals (
                go_returns
                refine ⟨?_, by (repeat' (first | (with_reducible exact Below.refl _ _) | (with_reducible assumption) | (with_reducible refine Below.setCell ?_ ?_ _) | (with_reducible refine Below.alloc ?_ ?_ _) | (with_reducible refine Below.drew ?_) | (with_reducible refine below_drewN ?_ _) | (with_reducible refine below_next ?_ (by with_reducible assumption)) | omega | (dsimp only; omega) | (simp only [World.size_alloc, World.size_setCell, World.size_drew, World.heap_drewN]; omega)))⟩
                have hlx := LX.out
                clear hA1 hA2 hA3 LX HV HW HB HFI HG HKA HKB HR HH HOA HOB HF
                refine ret_b ?_
                first | rfl | grind)
        · have hk2 : (wk != kb) = true := by simpa using hk
          have hk3 : decide (wk = kb) = false := by simpa using hk
          have hl : wk = 3 ∨ vk = 3 := by have h := LW.out; rw [if_pos (.inl hk)] at h; exact h
          clear LW
          by_cases h3 : wk = 3
          · subst h3
            refine wp_region_ext (by kernel_rfl) (by kernel_rfl) ?_
            repeat (first | go_big_quiet_skip | (go_big_quiet_want; go_big_quiet_op; first | go_big_quiet_on | (apply Exists.intro; refine ⟨fun W hW => ?_, ?_⟩; (focus (first
              | (go_at_call 25; have hWb := Ext.of hW; (with_reducible refine (HKB.out _).mono ?_); rintro e w1 ⟨rfl, hb⟩; exact ⟨rfl, Ext.next hW hb⟩)
                | (go_at_call 40; have hWb := Ext.of hW; (with_reducible refine (HR.out _).mono ?_); rintro e w1 ⟨rfl, hb⟩; exact ⟨rfl, Ext.next hW hb⟩)
              | exact rfl | (obtain ⟨hcW, hfW, hzW⟩ := cif (Ext.of hW); (try simp only [World.size_alloc, World.size_setCell, World.size_drew, World.heap_drewN] at hzW); simp [go_sem, *, ↓IntWalk.iteOmega]; (try exact rfl)))); go_big_quiet_on)))
            refine wpQuiet_nil ?_
            intro w' hw'
            have hbl := Ext.of hw'
            obtain ⟨hc, hf, hz⟩ := cif hbl
            (try simp only [World.size_alloc, World.size_setCell, World.size_drew, World.heap_drewN] at hz)
            clear hw'
            go_wp2
            all_goals (go_returns; exact ⟨rfl, by (repeat' (first | (with_reducible exact Below.refl _ _) | (with_reducible assumption) | (with_reducible refine Below.setCell ?_ ?_ _) | (with_reducible refine Below.alloc ?_ ?_ _) | (with_reducible refine Below.drew ?_) | (with_reducible refine below_drewN ?_ _) | (with_reducible refine below_next ?_ (by with_reducible assumption)) | omega | (dsimp only; omega) | (simp only [World.size_alloc, World.size_setCell, World.size_drew, World.heap_drewN]; omega)))⟩)
          · obtain rfl : vk = 3 := hl.resolve_left h3
            refine wp_region_ext (by kernel_rfl) (by kernel_rfl) ?_
            repeat (first | go_big_quiet_skip | (go_big_quiet_want; go_big_quiet_op; first | go_big_quiet_on | (apply Exists.intro; refine ⟨fun W hW => ?_, ?_⟩; (focus (first
              | (go_at_call 25; have hWb := Ext.of hW; (with_reducible refine (HKB.out _).mono ?_); rintro e w1 ⟨rfl, hb⟩; exact ⟨rfl, Ext.next hW hb⟩)
                | (go_at_call 40; have hWb := Ext.of hW; (with_reducible refine (HR.out _).mono ?_); rintro e w1 ⟨rfl, hb⟩; exact ⟨rfl, Ext.next hW hb⟩)
              | exact rfl | (obtain ⟨hcW, hfW, hzW⟩ := cif (Ext.of hW); (try simp only [World.size_alloc, World.size_setCell, World.size_drew, World.heap_drewN] at hzW); simp [go_sem, *, ↓IntWalk.iteOmega]; (try exact rfl)))); go_big_quiet_on)))
            refine wpQuiet_nil ?_
            intro w' hw'
            have hbl := Ext.of hw'
            obtain ⟨hc, hf, hz⟩ := cif hbl
            (try simp only [World.size_alloc, World.size_setCell, World.size_drew, World.heap_drewN] at hz)
            clear hw'
            go_wp2
            all_goals (go_returns; exact ⟨rfl, by (repeat' (first | (with_reducible exact Below.refl _ _) | (with_reducible assumption) | (with_reducible refine Below.setCell ?_ ?_ _) | (with_reducible refine Below.alloc ?_ ?_ _) | (with_reducible refine Below.drew ?_) | (with_reducible refine below_drewN ?_ _) | (with_reducible refine below_next ?_ (by with_reducible assumption)) | omega | (dsimp only; omega) | (simp only [World.size_alloc, World.size_setCell, World.size_drew, World.heap_drewN]; omega)))⟩)
theorem turns_core (xf xt n : Int) (hx1 : I64 xf) (hx2 : I64 xt) (hx3 : I64 n) (w : World) (htab : TabW w) :
    Calls Tryd.prog 8 #[.int .i64 xf, .int .i64 xt, .int .i64 n] w fun e w' => e = .returned (.bool true) ∧ Below w.heap.size w w' := by
  have ca := codeE_in xf
  have cb := codeE_in xt
  have na := ty9_num _ ca
  have nb := ty9_num _ cb
  have oa : ∀ (b : Nat) W, b < W.heap.size → W.cell? ⟨b, 0, none⟩ = some (.int .i64 (wrap64 (1 + wrap64 ((IntKind.u64.wrap xf).tmod 9)))) → Calls Tryd.prog 11 #[.slice (some ⟨b, 0, none⟩) 1 1] W fun e w' => e = .returned (tyV (ty9 (codeE xf))) ∧ Below W.heap.size W w' := fun b W hb h => one_code _ ca b W hb h
  have ob : ∀ (b : Nat) W, b < W.heap.size → W.cell? ⟨b, 0, none⟩ = some (.int .i64 (wrap64 (1 + wrap64 ((IntKind.u64.wrap xt).tmod 9)))) → Calls Tryd.prog 11 #[.slice (some ⟨b, 0, none⟩) 1 1] W fun e w' => e = .returned (tyV (ty9 (codeE xt))) ∧ Below W.heap.size W w' := fun b W hb h => one_code _ cb b W hb h
  generalize ty9 (codeE xf) = a at *
  generalize ty9 (codeE xt) = b at *
  obtain ⟨k1, s1, l1, f1, n1, A1, m1, c1, e1⟩ := tyC_form a (rdt_num a na w)
  obtain ⟨k2, s2, l2, f2, n2, A2, m2, c2, e2⟩ := tyC_form b (rdt_num b nb w)
  have n8 : L8 = .flt ∨ IsNum L8 := .inr num_L8
  have e8 : tyC L8 = [.int .i64 2, .int .i64 8, .int .i64 0, .bool false, .string ⟨#[]⟩, .slice none 0 0] := rfl
  rw [tyV_of e1] at oa
  rw [tyV_of e2] at ob
  have law := turns_law a b na nb n
  unfold TurnLaw at law
  dsimp only at law
  obtain ⟨⟨⟨vk, vb, vl⟩, vo⟩, ev⟩ : ∃ r, r = turnV L8 a (longV n) := ⟨_, rfl⟩
  rw [← ev] at law
  dsimp only at law
  obtain ⟨⟨⟨wk, wb, wl⟩, wo⟩, ew⟩ : ∃ r, r = turnV a b ⟨vk, vb, vl⟩ := ⟨_, rfl⟩
  rw [← ew] at law
  dsimp only at law
  obtain ⟨⟨⟨bk, bb, bl⟩, bo⟩, eb⟩ : ∃ r, r = turnV b L8 ⟨wk, wb, wl⟩ := ⟨_, rfl⟩
  rw [← eb] at law
  obtain ⟨⟨⟨fk, fb, fl⟩, fo⟩, ef⟩ : ∃ r, r = turnV a L8 ⟨vk, vb, vl⟩ := ⟨_, rfl⟩
  rw [← ef] at law
  dsimp only at law
  obtain ⟨⟨⟨gk, gb, gl⟩, gko⟩, eg⟩ : ∃ r, r = turnV L8 b ⟨fk, fb, fl⟩ := ⟨_, rfl⟩
  rw [← eg] at law
  dsimp only at law
  have tv : Fit ⟨vk, vb, vl⟩ := by have h := fit_turnV L8 a (longV n) (fit_long n); rw [← ev] at h; exact h
  have tw : Fit ⟨wk, wb, wl⟩ := by have h := fit_turnV a b _ tv; rw [← ew] at h; exact h
  have tf : Fit ⟨fk, fb, fl⟩ := by have h := fit_turnV a L8 _ tv; rw [← ef] at h; exact h
  refine turns_walk xf xt n hx1 hx2 hx3 w (Lib.hid fun W hW => fixed_any W (htab.next hW)) (vk := vk) (vb := vb) (vl := vl) (wk := wk) (wb := wb) (wl := wl) (bk := bk) (bb := bb) (bl := bl) (fk := fk) (fb := fb) (fl := fl) (gk := gk) (gb := gb) (gl := gl) (ka := kindT a) (kb := kindT b) (vo := vo) (wo := wo) (bo := bo) (fo := fo) (go := gko) (rr := rightV wk wb wl) (hh := holdsB b (wrap64 fb))
    (Lib.hid oa) (Lib.hid ob) (Lib.hid fun W => turned_any (longV n) _ _ (fit_long n) L8 a n8 na ev.symm e8 e1 W) (Lib.hid fun W => turned_any _ _ _ tv a b na nb ew.symm e1 e2 W)
    (Lib.hid fun W => turned_any _ _ _ tw b L8 nb n8 eb.symm e2 e8 W) (Lib.hid fun W => turned_any _ _ _ tv a L8 na n8 ef.symm e1 e8 W) (Lib.hid fun W => turned_any _ _ _ tf L8 b n8 nb eg.symm e8 e2 W)
    (Lib.hid fun W => by have h := kind_any a W (rdt_num a na W); rw [tyV_of e1] at h; exact h) (Lib.hid fun W => by have h := kind_any b W (rdt_num b nb W); rw [tyV_of e2] at h; exact h)
    (Lib.hid fun W => ref_right_any wk wb wl tw.1 W) (Lib.hid fun W => by have h := holds_any b nb (wrap64 fb) W; rw [tyV_of e2] at h; exact h) (Lib.hid ?_)
  simpa only [V.mk.injEq, ne_eq] using law
end Go.Proofs.YteeojgepgjndgaaDoor
