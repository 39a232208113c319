/-
  Regions that draw their order and only read and call; the fixed examples; the laws on the program's own calls.
-/
import Derived.Test.YtonhphiajjkgaaaMachW5
import Derived.Test.YtonhphiajjkgaaaIf
namespace Go.Proofs.Ytonhphiajjkgaaa
open Go.RowKit
set_option linter.unusedVariables false
set_option linter.unusedSimpArgs false

def sizeV (c : Int) : Int := if c = 1 ∨ c = 2 then 1 else if c = 3 ∨ c = 4 then 2 else if c = 5 then 4 else if c = 6 ∨ c = 7 then 8 else 0
set_option maxHeartbeats 400000 in
theorem size_any (c : Int) (w : World) : Calls Try.prog 18 #[.int .i64 c] w fun e w' => e = .returned (.int .i64 (sizeV c)) ∧ w = w' := by
  go_enter Try.func18, Try.ntmps18
  go_wp2
  all_goals (go_returns; refine ⟨?_, rfl⟩; go_light; simp; grind [sizeV])

set_option maxRecDepth 100000 in
set_option maxHeartbeats 4000000 in
theorem fixed_any (w : World) : Calls Try.prog 10 #[] w fun e w' => e = .returned (.bool true) ∧ Below w.heap.size w w' := by
  have f1 : eval2 3 ⟨1, 2147483647, 0⟩ ⟨1, 1, 0⟩ = (⟨1, 2147483648, 0⟩, true) := by kernel_rfl
  have f2 : eval2 6 ⟨1, 4294967289, 0⟩ ⟨1, 2, 0⟩ = (⟨1, 4294967293, 0⟩, true) := by kernel_rfl
  have f3 : eval2 13 ⟨1, 1, 0⟩ ⟨1, 32, 0⟩ = (⟨0, 0, 0⟩, false) := by kernel_rfl
  have f4 : eval2 34 ⟨4, 16, 3⟩ ⟨4, 4, 3⟩ = (⟨2, 12, 0⟩, true) := by kernel_rfl
  have f5 : shape 93 = (3, 0, 2) := by kernel_rfl
  have g1 := eval2_any 3 1 2147483647 0 1 1 0 (by unfold I64; omega) (by unfold U64; omega) (by unfold U64; omega)
  have g2 := eval2_any 6 1 4294967289 0 1 2 0 (by unfold I64; omega) (by unfold U64; omega) (by unfold U64; omega)
  have g3 := eval2_any 13 1 1 0 1 32 0 (by unfold I64; omega) (by unfold U64; omega) (by unfold U64; omega)
  have g4 := eval2_any 34 4 16 3 4 4 3 (by unfold I64; omega) (by unfold U64; omega) (by unfold U64; omega)
  have g5 := shape_any 93 (by unfold I64; omega)
  have i1 := intOf_any 2147483647
  have i2 := intOf_any 1
  have i3 := intOf_any (-7)
  have i4 := intOf_any 2
  have i5 := intOf_any 32
  have p1 := ptrOf_any 3 16
  have p2 := ptrOf_any 3 4
  simp only [f1, f2, f3, f4, f5] at g1 g2 g3 g4 g5
  simp [ptrV] at i1 i2 i3 i4 i5 p1 p2
  have s6 := size_any 6
  simp [sizeV] at s6
  have S6 := Lib.hid s6
  clear s6
  have G1 := Lib.hid g1
  have G2 := Lib.hid g2
  have G3 := Lib.hid g3
  have G4 := Lib.hid g4
  have G5 := Lib.hid g5
  have I1 := Lib.hid i1
  have I2 := Lib.hid i2
  have I3 := Lib.hid i3
  have I4 := Lib.hid i4
  have I5 := Lib.hid i5
  have P1 := Lib.hid p1
  have P2 := Lib.hid p2
  clear f1 f2 f3 f4 f5 g1 g2 g3 g4 g5 i1 i2 i3 i4 i5 p1 p2
  have hA1 := cell_alloc_if
  have hA2 := frozen_alloc_if
  have hA3 := cell_set_if
  go_enter Try.func10, Try.ntmps10
  go_wp2_with (first
    | (go_at_call 13; with_reducible refine (I1.out _).mono ?_; rintro e w' ⟨rfl, hbl⟩; obtain ⟨hc, hf, hz⟩ := cif hbl; (try simp only [World.size_alloc, World.size_setCell, World.size_drew, World.heap_drewN] at hz))
    | (go_at_call 13; with_reducible refine (I2.out _).mono ?_; rintro e w' ⟨rfl, hbl⟩; obtain ⟨hc, hf, hz⟩ := cif hbl; (try simp only [World.size_alloc, World.size_setCell, World.size_drew, World.heap_drewN] at hz))
    | (go_at_call 13; with_reducible refine (I3.out _).mono ?_; rintro e w' ⟨rfl, hbl⟩; obtain ⟨hc, hf, hz⟩ := cif hbl; (try simp only [World.size_alloc, World.size_setCell, World.size_drew, World.heap_drewN] at hz))
    | (go_at_call 13; with_reducible refine (I4.out _).mono ?_; rintro e w' ⟨rfl, hbl⟩; obtain ⟨hc, hf, hz⟩ := cif hbl; (try simp only [World.size_alloc, World.size_setCell, World.size_drew, World.heap_drewN] at hz))
    | (go_at_call 13; with_reducible refine (I5.out _).mono ?_; rintro e w' ⟨rfl, hbl⟩; obtain ⟨hc, hf, hz⟩ := cif hbl; (try simp only [World.size_alloc, World.size_setCell, World.size_drew, World.heap_drewN] at hz))
    | (go_at_call 24; with_reducible refine (P1.out _).mono ?_; rintro e w' ⟨rfl, hbl⟩; obtain ⟨hc, hf, hz⟩ := cif hbl; (try simp only [World.size_alloc, World.size_setCell, World.size_drew, World.heap_drewN] at hz))
    | (go_at_call 24; with_reducible refine (P2.out _).mono ?_; rintro e w' ⟨rfl, hbl⟩; obtain ⟨hc, hf, hz⟩ := cif hbl; (try simp only [World.size_alloc, World.size_setCell, World.size_drew, World.heap_drewN] at hz))
    | (go_at_call 11; with_reducible refine (G1.out _).mono ?_; rintro e w' ⟨rfl, hbl⟩; obtain ⟨hc, hf, hz⟩ := cif hbl; (try simp only [World.size_alloc, World.size_setCell, World.size_drew, World.heap_drewN] at hz))
    | (go_at_call 11; with_reducible refine (G2.out _).mono ?_; rintro e w' ⟨rfl, hbl⟩; obtain ⟨hc, hf, hz⟩ := cif hbl; (try simp only [World.size_alloc, World.size_setCell, World.size_drew, World.heap_drewN] at hz))
    | (go_at_call 11; with_reducible refine (G3.out _).mono ?_; rintro e w' ⟨rfl, hbl⟩; obtain ⟨hc, hf, hz⟩ := cif hbl; (try simp only [World.size_alloc, World.size_setCell, World.size_drew, World.heap_drewN] at hz))
    | (go_at_call 11; with_reducible refine (G4.out _).mono ?_; rintro e w' ⟨rfl, hbl⟩; obtain ⟨hc, hf, hz⟩ := cif hbl; (try simp only [World.size_alloc, World.size_setCell, World.size_drew, World.heap_drewN] at hz))
    | (go_at_call 16; with_reducible refine (G5.out _).mono ?_; rintro e w' ⟨rfl, rfl⟩))
  refine wp_region_ext (by kernel_rfl) (by kernel_rfl) ?_
  repeat (first | go_big_quiet_skip | (go_big_quiet_want; go_big_quiet_op; first | go_big_quiet_on | (apply Exists.intro; refine ⟨fun W hW => ?_, ?_⟩; (focus (first
    | (go_at_call 13; refine (intOf_any _ _).mono ?_; rintro e w1 ⟨rfl, hb⟩; exact ⟨rfl, Ext.next hW hb⟩)
    | (go_at_call 14; refine (longOf_any _ _).mono ?_; rintro e w1 ⟨rfl, hb⟩; exact ⟨rfl, Ext.next hW hb⟩)
    | (go_at_call 18; refine (S6.out _).mono ?_; rintro e w1 ⟨rfl, rfl⟩; exact ⟨rfl, hW⟩)
    | exact rfl | (obtain ⟨hcW, hfW, hzW⟩ := cif (Ext.of hW); (try simp only [World.size_alloc, World.size_setCell, World.size_drew, World.heap_drewN] at hzW); simp [go_sem, *, ↓IntWalk.iteOmega]; (try exact rfl)))); go_big_quiet_on)))
  refine wpQuiet_nil ?_
  intro w' hw'
  have hbl := Ext.of hw'
  obtain ⟨hc, hf, hz⟩ := cif hbl
  (try simp only [World.size_alloc, World.size_setCell, World.size_drew, World.heap_drewN] at hz)
  go_wp2
  go_returns
  exact ⟨rfl, by (repeat' (first | exact Below.refl _ _ | assumption | refine below_next ?_ (by assumption) | refine Below.alloc ?_ ?_ _ | refine Below.setCell ?_ ?_ _ | refine Below.drew ?_ | refine below_drewN ?_ _ | go_size | (simp; omega)))⟩

end Go.Proofs.Ytonhphiajjkgaaa
