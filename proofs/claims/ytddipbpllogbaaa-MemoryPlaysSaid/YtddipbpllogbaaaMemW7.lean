/-
  The fixed examples of layer 2.
-/
import Derived.Test.YtddipbpllogbaaaMemW6
import Derived.Deep.RegionWith
import Derived.Deep.RegionHeld3
namespace Go.Proofs.Ytddipbpllogbaaa
open Go.RowKit
set_option linter.unusedVariables false
set_option linter.unusedSimpArgs false

def M0 : Int → Option Bk := fun _ => none
/-- A new block of n empty cells. -/
def newB (s n : Nat) : Bk := ⟨s + 2, s, s + 1, 0, List.replicate n 256, fun _ => none, false⟩
theorem alloc_lit {W : World} {base pm bm nb last cap : Nat} {M : Int → Option Bk} (h : MemS W base pm bm nb last cap M) (n : Nat) (m k : Int) (hm : m = n) (hk : k = (last : Int) + 1) (hn : n ≤ 16777216) (hcap : cap + 1 < 9223372036854775807) :
    Calls Try.prog 9 #[.pointer (some ⟨pm, 0, none⟩), .int .i64 m] W fun e w' => e = .returned (.int .i64 k) ∧ Left W w' base pm bm (nb + 1) (last + 1) (cap + 1) (setK M k (some (newB W.heap.size n))) := by
  subst hm hk
  exact alloc_yes h n hn hcap
theorem store_lit {W : World} {base pm bm nb last cap : Nat} {M M' : Int → Option Bk} (h : MemS W base pm bm nb last cap M) (chunk b l vk vb vl : Int) (hl : I64 l) (hvb : U64 vb) (hcap : cap + 1 < 9223372036854775807) (hs : storeA M chunk ⟨4, b, l⟩ ⟨vk, vb, vl⟩ = some M') :
    Calls Try.prog 17 #[.pointer (some ⟨pm, 0, none⟩), .int .i64 chunk, .agg #[.int .i64 4, .int .u64 b, .int .i64 l], .agg #[.int .i64 vk, .int .u64 vb, .int .i64 vl]] W fun e w' => e = .returned (.bool true) ∧ Left W w' base pm bm nb last (cap + 1) M' := by
  have := store_any h chunk 4 b l vk vb vl hl hvb hcap
  rw [hs] at this
  exact this
theorem load_lit {W : World} {base pm bm nb last cap : Nat} {M : Int → Option Bk} (h : MemS W base pm bm nb last cap M) (chunk b l : Int) (hl : I64 l) (o : Option V) (ho : loadA M chunk ⟨4, b, l⟩ = o) :
    Calls Try.prog 15 #[.pointer (some ⟨pm, 0, none⟩), .int .i64 chunk, .agg #[.int .i64 4, .int .u64 b, .int .i64 l]] W fun e w' => e = .returned (.tuple #[.agg #[.int .i64 (ptrV_ o).k, .int .u64 (ptrV_ o).b, .int .i64 (ptrV_ o).l], .bool o.isSome]) ∧ Below W.heap.size W w' := by
  have := load_any h chunk 4 b l hl
  rw [ho] at this
  exact this

theorem load_some {W : World} {base pm bm nb last cap : Nat} {M : Int → Option Bk} (h : MemS W base pm bm nb last cap M) (chunk b l x y z : Int) (hl : I64 l) (ho : loadA M chunk ⟨4, b, l⟩ = some ⟨x, y, z⟩) :
    Calls Try.prog 15 #[.pointer (some ⟨pm, 0, none⟩), .int .i64 chunk, .agg #[.int .i64 4, .int .u64 b, .int .i64 l]] W fun e w' => e = .returned (.tuple #[.agg #[.int .i64 x, .int .u64 y, .int .i64 z], .bool true]) ∧ Below W.heap.size W w' := load_lit h chunk b l hl _ ho
theorem load_noth {W : World} {base pm bm nb last cap : Nat} {M : Int → Option Bk} (h : MemS W base pm bm nb last cap M) (chunk b l : Int) (hl : I64 l) (ho : loadA M chunk ⟨4, b, l⟩ = none) :
    Calls Try.prog 15 #[.pointer (some ⟨pm, 0, none⟩), .int .i64 chunk, .agg #[.int .i64 4, .int .u64 b, .int .i64 l]] W fun e w' => e = .returned (.tuple #[.agg #[.int .i64 0, .int .u64 0, .int .i64 0], .bool false]) ∧ Below W.heap.size W w' := load_lit h chunk b l hl _ ho

def MM (s1 s2 : Nat) : Int → Option Bk := setK (setK (setK M0 1 (some (newB s1 8))) 2 (some (newB s2 1))) 1 (some { newB s1 8 with cells := [256, 256, 256, 256, 254, 255, 255, 255] })
theorem mm_store (s1 s2 : Nat) : storeA (setK (setK M0 1 (some (newB s1 8))) 2 (some (newB s2 1))) 5 ⟨4, 4, 1⟩ ⟨1, 4294967294, 0⟩ = some (MM s1 s2) := by kernel_rfl
theorem mm_1 (s1 s2 : Nat) : loadA (MM s1 s2) 1 ⟨4, 4, 1⟩ = some ⟨1, 4294967294, 0⟩ := by kernel_rfl
theorem mm_2 (s1 s2 : Nat) : loadA (MM s1 s2) 2 ⟨4, 5, 1⟩ = some ⟨1, 255, 0⟩ := by kernel_rfl
theorem mm_3 (s1 s2 : Nat) : loadA (MM s1 s2) 6 ⟨4, 0, 1⟩ = some ⟨0, 0, 0⟩ := by kernel_rfl
theorem mm_4 (s1 s2 : Nat) : loadA (MM s1 s2) 5 ⟨4, 2, 1⟩ = none := by kernel_rfl

theorem mm_at1 (s1 s2 : Nat) : MM s1 s2 1 = some { newB s1 8 with cells := [256, 256, 256, 256, 254, 255, 255, 255] } := by kernel_rfl
theorem mm_at2 (s1 s2 : Nat) : MM s1 s2 2 = some (newB s2 1) := by kernel_rfl

theorem size8 {W : World} {base pm bm nb last cap s1 s2 : Nat} (h : MemS W base pm bm nb last cap (MM s1 s2)) :
    Calls Try.prog 21 #[.pointer (some ⟨pm, 0, none⟩), .int .i64 1] W fun e w' => e = .returned (.tuple #[.int .i64 8, .bool true]) ∧ w' = W := by
  have := memsize_any h 1 (by unfold I64; omega)
  rw [mm_at1] at this
  exact this
/-- The answers of the fixed loads, where they lie. -/
def Bx (W : World) (a b c e : Nat) : Prop :=
  W.heap[a]? = some (.cells #[.int .i64 1, .int .u64 4294967294, .int .i64 0] 32 (0, 0)) ∧ W.heap[b]? = some (.cells #[.int .i64 1, .int .u64 255, .int .i64 0] 32 (0, 0)) ∧
  W.heap[c]? = some (.cells #[.int .i64 0, .int .u64 0, .int .i64 0] 32 (0, 0)) ∧ W.heap[e]? = some (.cells #[.int .i64 1, .int .u64 0, .int .i64 0] 32 (0, 0))
theorem bx_cells {W : World} {ga gb gc ge : Nat} (h : Bx W ga gb gc ge) : (W.cell? ⟨ga, 0, none⟩ = some (.int .i64 1) ∧ W.cell? ⟨ga, 1, none⟩ = some (.int .u64 4294967294) ∧ W.cell? ⟨ga, 2, none⟩ = some (.int .i64 0) ∧ W.cell? ⟨gb, 0, none⟩ = some (.int .i64 1) ∧ W.cell? ⟨gb, 1, none⟩ = some (.int .u64 255) ∧ W.cell? ⟨gb, 2, none⟩ = some (.int .i64 0) ∧ W.cell? ⟨gc, 0, none⟩ = some (.int .i64 0) ∧ W.cell? ⟨ge, 0, none⟩ = some (.int .i64 1) ∧ W.cell? ⟨ge, 1, none⟩ = some (.int .u64 0) ∧ W.cell? ⟨ge, 2, none⟩ = some (.int .i64 0) ∧ Bx W ga gb gc ge) := by
  obtain ⟨qA, qB, qC, qE⟩ := h
  refine ⟨?_, ?_, ?_, ?_, ?_, ?_, ?_, ?_, ?_, ?_, qA, qB, qC, qE⟩
  · rw [Lib.cell_of_heap qA]; rfl
  · rw [Lib.cell_of_heap qA]; rfl
  · rw [Lib.cell_of_heap qA]; rfl
  · rw [Lib.cell_of_heap qB]; rfl
  · rw [Lib.cell_of_heap qB]; rfl
  · rw [Lib.cell_of_heap qB]; rfl
  · rw [Lib.cell_of_heap qC]; rfl
  · rw [Lib.cell_of_heap qE]; rfl
  · rw [Lib.cell_of_heap qE]; rfl
  · rw [Lib.cell_of_heap qE]; rfl
theorem bx_kept {W W' : World} {ga gb gc ge : Nat} (k : KeptT W W') (h : (W.cell? ⟨ga, 0, none⟩ = some (.int .i64 1) ∧ W.cell? ⟨ga, 1, none⟩ = some (.int .u64 4294967294) ∧ W.cell? ⟨ga, 2, none⟩ = some (.int .i64 0) ∧ W.cell? ⟨gb, 0, none⟩ = some (.int .i64 1) ∧ W.cell? ⟨gb, 1, none⟩ = some (.int .u64 255) ∧ W.cell? ⟨gb, 2, none⟩ = some (.int .i64 0) ∧ W.cell? ⟨gc, 0, none⟩ = some (.int .i64 0) ∧ W.cell? ⟨ge, 0, none⟩ = some (.int .i64 1) ∧ W.cell? ⟨ge, 1, none⟩ = some (.int .u64 0) ∧ W.cell? ⟨ge, 2, none⟩ = some (.int .i64 0) ∧ Bx W ga gb gc ge)) : Bx W' ga gb gc ge := by
  obtain ⟨_, _, _, _, _, _, _, _, _, _, qA, qB, qC, qE⟩ := h
  exact ⟨k.cells qA (by decide), k.cells qB (by decide), k.cells qC (by decide), k.cells qE (by decide)⟩
theorem bx_below {W W' : World} {ga gb gc ge : Nat} (hb : Below W.heap.size W W') (h : (W.cell? ⟨ga, 0, none⟩ = some (.int .i64 1) ∧ W.cell? ⟨ga, 1, none⟩ = some (.int .u64 4294967294) ∧ W.cell? ⟨ga, 2, none⟩ = some (.int .i64 0) ∧ W.cell? ⟨gb, 0, none⟩ = some (.int .i64 1) ∧ W.cell? ⟨gb, 1, none⟩ = some (.int .u64 255) ∧ W.cell? ⟨gb, 2, none⟩ = some (.int .i64 0) ∧ W.cell? ⟨gc, 0, none⟩ = some (.int .i64 0) ∧ W.cell? ⟨ge, 0, none⟩ = some (.int .i64 1) ∧ W.cell? ⟨ge, 1, none⟩ = some (.int .u64 0) ∧ W.cell? ⟨ge, 2, none⟩ = some (.int .i64 0) ∧ Bx W ga gb gc ge)) : Bx W' ga gb gc ge := bx_kept (KeptT.of_below hb) h
def MF (s1 s2 : Nat) : Int → Option Bk := setK (MM s1 s2) 1 (some { newB s1 8 with cells := [256, 256, 256, 256, 254, 255, 255, 255], fixed := true })
theorem fix1 {W : World} {base pm bm nb last cap s1 s2 : Nat} (h : MemS W base pm bm nb last cap (MM s1 s2)) :
    Calls Try.prog 13 #[.pointer (some ⟨pm, 0, none⟩), .int .i64 1] W fun e w' => e = .returned (.bool true) ∧ Left W w' base pm bm nb last cap (MF s1 s2) := by
  have := fix_any h 1 (by unfold I64; omega)
  rw [mm_at1] at this
  exact this
theorem mf_at2 (s1 s2 : Nat) : MF s1 s2 2 = some (newB s2 1) := by kernel_rfl
theorem free2 {W : World} {base pm bm nb last cap s1 s2 : Nat} (h : MemS W base pm bm nb last cap (MF s1 s2)) :
    Calls Try.prog 11 #[.pointer (some ⟨pm, 0, none⟩), .int .i64 2] W fun e w' => e = .returned (.bool true) ∧ Left W w' base pm bm nb last cap (setK (MF s1 s2) 2 none) := by
  have := free_any h 2 (by unfold I64; omega)
  rw [mf_at2] at this
  exact this
theorem free2b {W : World} {base pm bm nb last cap s1 s2 : Nat} (h : MemS W base pm bm nb last cap (setK (MF s1 s2) 2 none)) :
    Calls Try.prog 11 #[.pointer (some ⟨pm, 0, none⟩), .int .i64 2] W fun e w' => e = .returned (.bool false) ∧ Left W w' base pm bm nb last cap (setK (setK (MF s1 s2) 2 none) 2 none) := by
  have := free_any h 2 (by unfold I64; omega)
  rw [show setK (MF s1 s2) 2 none 2 = none from by kernel_rfl] at this
  exact this
set_option maxRecDepth 100000 in
set_option maxHeartbeats 8000000 in
theorem fixed_any (w : World) : Calls Try.prog 7 #[] w fun e w' => e = .returned (.bool true) ∧ Below w.heap.size w w' := by
  have P14 := Lib.hid (ptrOf_any 1 4)
  have P15 := Lib.hid (ptrOf_any 1 5)
  have P10 := Lib.hid (ptrOf_any 1 0)
  have P12 := Lib.hid (ptrOf_any 1 2)
  have P20 := Lib.hid (ptrOf_any 2 0)
  have I2 := Lib.hid (intOf_any (-2))
  rw [show ptrV 1 4 = ⟨4, 4, 1⟩ from by kernel_rfl] at P14
  rw [show ptrV 1 5 = ⟨4, 5, 1⟩ from by kernel_rfl] at P15
  rw [show ptrV 1 0 = ⟨4, 0, 1⟩ from by kernel_rfl] at P10
  rw [show ptrV 1 2 = ⟨4, 2, 1⟩ from by kernel_rfl] at P12
  rw [show ptrV 2 0 = ⟨4, 0, 2⟩ from by kernel_rfl] at P20
  rw [show (-2 : Int) % 4294967296 = 4294967294 from by decide] at I2
  have I255 := Lib.hid (intOf_any 255)
  rw [show (255 : Int) % 4294967296 = 255 from by decide] at I255
  have I0 := Lib.hid (intOf_any 0)
  rw [show (0 : Int) % 4294967296 = 0 from by decide] at I0
  have hA1 := cell_alloc_if
  have hA2 := frozen_alloc_if
  have hA3 := cell_set_if
  go_enter Try.func7, Try.ntmps7
  go_wp2_with (first
    | (go_at_call 8; refine (new_any _ w.heap.size (by (repeat' (first | (with_reducible exact Below.refl _ _) | (with_reducible assumption) | (with_reducible refine Below.setCell ?_ ?_ _) | (with_reducible refine Below.alloc ?_ ?_ _) | (with_reducible refine Below.drew ?_) | (with_reducible refine below_drewN ?_ _) | (with_reducible refine below_next ?_ (by with_reducible assumption)) | omega | (dsimp only; omega) | (simp only [World.size_alloc, World.size_setCell, World.size_drew, World.heap_drewN]; omega))))).mono ?_; rintro e w1 ⟨pm, bm, rfl, hm1, hb1⟩; have HM1 := Lib.hid (show MemS _ _ _ _ _ _ _ M0 from hm1); clear hm1)
    | (go_at_call 23; (with_reducible refine (P14.out _).mono ?_); rintro e w' ⟨rfl, hbl⟩; have hz := hbl.size; (try simp only [World.size_alloc, World.size_setCell, World.size_drew, World.heap_drewN] at hz))
    | (go_at_call 23; (with_reducible refine (P15.out _).mono ?_); rintro e w' ⟨rfl, hbl⟩; have hz := hbl.size; (try simp only [World.size_alloc, World.size_setCell, World.size_drew, World.heap_drewN] at hz))
    | (go_at_call 23; (with_reducible refine (P10.out _).mono ?_); rintro e w' ⟨rfl, hbl⟩; have hz := hbl.size; (try simp only [World.size_alloc, World.size_setCell, World.size_drew, World.heap_drewN] at hz))
    | (go_at_call 23; (with_reducible refine (P12.out _).mono ?_); rintro e w' ⟨rfl, hbl⟩; have hz := hbl.size; (try simp only [World.size_alloc, World.size_setCell, World.size_drew, World.heap_drewN] at hz))
    | (go_at_call 23; (with_reducible refine (P20.out _).mono ?_); rintro e w' ⟨rfl, hbl⟩; have hz := hbl.size; (try simp only [World.size_alloc, World.size_setCell, World.size_drew, World.heap_drewN] at hz))
    | (go_at_call 25; (with_reducible refine (I2.out _).mono ?_); rintro e w' ⟨rfl, hbl⟩; have hz := hbl.size; (try simp only [World.size_alloc, World.size_setCell, World.size_drew, World.heap_drewN] at hz))
    | (go_at_call 9; (with_reducible refine (alloc_no _ (-1) (by omega)).mono ?_); rintro e w' ⟨rfl, rfl⟩)
    | (go_at_call 9; (with_reducible refine (alloc_lit (HM1.out.next (by (repeat' (first | (with_reducible exact Below.refl _ _) | (with_reducible assumption) | (with_reducible refine Below.setCell ?_ ?_ _) | (with_reducible refine Below.alloc ?_ ?_ _) | (with_reducible refine Below.drew ?_) | (with_reducible refine below_drewN ?_ _) | (with_reducible refine below_next ?_ (by with_reducible assumption)) | omega | (dsimp only; omega) | (simp only [World.size_alloc, World.size_setCell, World.size_drew, World.heap_drewN]; omega))))) 8 8 1 (by decide) (by decide) (by omega) (by omega)).mono ?_); rintro e w2 ⟨rfl, hL2⟩; have HL2 := Lib.hid hL2; have hcw2 : Below w.heap.size w w2 := Below.trans (by (repeat' (first | (with_reducible exact Below.refl _ _) | (with_reducible assumption) | (with_reducible refine Below.setCell ?_ ?_ _) | (with_reducible refine Below.alloc ?_ ?_ _) | (with_reducible refine Below.drew ?_) | (with_reducible refine below_drewN ?_ _) | (with_reducible refine below_next ?_ (by with_reducible assumption)) | omega | (dsimp only; omega) | (simp only [World.size_alloc, World.size_setCell, World.size_drew, World.heap_drewN]; omega)))) hL2.low; clear hL2)
    | (go_at_call 9; (with_reducible refine (alloc_lit (HL2.out.mem.next (by (repeat' (first | (with_reducible exact Below.refl _ _) | (with_reducible assumption) | (with_reducible refine Below.setCell ?_ ?_ _) | (with_reducible refine Below.alloc ?_ ?_ _) | (with_reducible refine Below.drew ?_) | (with_reducible refine below_drewN ?_ _) | (with_reducible refine below_next ?_ (by with_reducible assumption)) | omega | (dsimp only; omega) | (simp only [World.size_alloc, World.size_setCell, World.size_drew, World.heap_drewN]; omega))))) 1 1 2 (by decide) (by decide) (by omega) (by omega)).mono ?_); rintro e w3 ⟨rfl, hL3⟩; have HL3 := Lib.hid hL3; have hcw3 : Below w.heap.size w w3 := Below.trans (by (repeat' (first | (with_reducible exact Below.refl _ _) | (with_reducible assumption) | (with_reducible refine Below.setCell ?_ ?_ _) | (with_reducible refine Below.alloc ?_ ?_ _) | (with_reducible refine Below.drew ?_) | (with_reducible refine below_drewN ?_ _) | (with_reducible refine below_next ?_ (by with_reducible assumption)) | omega | (dsimp only; omega) | (simp only [World.size_alloc, World.size_setCell, World.size_drew, World.heap_drewN]; omega)))) hL3.low; clear hL3)
    | (go_at_call 17; (with_reducible refine (store_lit (HL3.out.mem.next (by (repeat' (first | (with_reducible exact Below.refl _ _) | (with_reducible assumption) | (with_reducible refine Below.setCell ?_ ?_ _) | (with_reducible refine Below.alloc ?_ ?_ _) | (with_reducible refine Below.drew ?_) | (with_reducible refine below_drewN ?_ _) | (with_reducible refine below_next ?_ (by with_reducible assumption)) | omega | (dsimp only; omega) | (simp only [World.size_alloc, World.size_setCell, World.size_drew, World.heap_drewN]; omega))))) 5 4 1 1 4294967294 0 (by unfold I64; omega) (by unfold U64; omega) (by omega) (mm_store _ _)).mono ?_); rintro e w4 ⟨rfl, hL4⟩; have HL4 := Lib.hid hL4; have hcw4 : Below w.heap.size w w4 := Below.trans (by (repeat' (first | (with_reducible exact Below.refl _ _) | (with_reducible assumption) | (with_reducible refine Below.setCell ?_ ?_ _) | (with_reducible refine Below.alloc ?_ ?_ _) | (with_reducible refine Below.drew ?_) | (with_reducible refine below_drewN ?_ _) | (with_reducible refine below_next ?_ (by with_reducible assumption)) | omega | (dsimp only; omega) | (simp only [World.size_alloc, World.size_setCell, World.size_drew, World.heap_drewN]; omega)))) hL4.low; clear hL4)
    | (go_at_call 15; (with_reducible refine (load_some (HL4.out.mem.next (by (repeat' (first | (with_reducible exact Below.refl _ _) | (with_reducible assumption) | (with_reducible refine Below.setCell ?_ ?_ _) | (with_reducible refine Below.alloc ?_ ?_ _) | (with_reducible refine Below.drew ?_) | (with_reducible refine below_drewN ?_ _) | (with_reducible refine below_next ?_ (by with_reducible assumption)) | omega | (dsimp only; omega) | (simp only [World.size_alloc, World.size_setCell, World.size_drew, World.heap_drewN]; omega))))) 1 4 1 1 4294967294 0 (by unfold I64; omega) (mm_1 _ _)).mono ?_); rintro e wA ⟨rfl, hbwA⟩; have hzwA := hbwA.size; (try simp only [World.size_alloc, World.size_setCell, World.size_drew, World.heap_drewN] at hzwA))
    | (go_at_call 15; (with_reducible refine (load_some (HL4.out.mem.next (by (repeat' (first | (with_reducible exact Below.refl _ _) | (with_reducible assumption) | (with_reducible refine Below.setCell ?_ ?_ _) | (with_reducible refine Below.alloc ?_ ?_ _) | (with_reducible refine Below.drew ?_) | (with_reducible refine below_drewN ?_ _) | (with_reducible refine below_next ?_ (by with_reducible assumption)) | omega | (dsimp only; omega) | (simp only [World.size_alloc, World.size_setCell, World.size_drew, World.heap_drewN]; omega))))) 2 5 1 1 255 0 (by unfold I64; omega) (mm_2 _ _)).mono ?_); rintro e wB ⟨rfl, hbwB⟩; have hzwB := hbwB.size; (try simp only [World.size_alloc, World.size_setCell, World.size_drew, World.heap_drewN] at hzwB))
    | (go_at_call 15; (with_reducible refine (load_some (HL4.out.mem.next (by (repeat' (first | (with_reducible exact Below.refl _ _) | (with_reducible assumption) | (with_reducible refine Below.setCell ?_ ?_ _) | (with_reducible refine Below.alloc ?_ ?_ _) | (with_reducible refine Below.drew ?_) | (with_reducible refine below_drewN ?_ _) | (with_reducible refine below_next ?_ (by with_reducible assumption)) | omega | (dsimp only; omega) | (simp only [World.size_alloc, World.size_setCell, World.size_drew, World.heap_drewN]; omega))))) 6 0 1 0 0 0 (by unfold I64; omega) (mm_3 _ _)).mono ?_); rintro e wC ⟨rfl, hbwC⟩; have hzwC := hbwC.size; (try simp only [World.size_alloc, World.size_setCell, World.size_drew, World.heap_drewN] at hzwC))
    | (go_at_call 15; (with_reducible refine (load_noth (HL4.out.mem.next (by (repeat' (first | (with_reducible exact Below.refl _ _) | (with_reducible assumption) | (with_reducible refine Below.setCell ?_ ?_ _) | (with_reducible refine Below.alloc ?_ ?_ _) | (with_reducible refine Below.drew ?_) | (with_reducible refine below_drewN ?_ _) | (with_reducible refine below_next ?_ (by with_reducible assumption)) | omega | (dsimp only; omega) | (simp only [World.size_alloc, World.size_setCell, World.size_drew, World.heap_drewN]; omega))))) 5 2 1 (by unfold I64; omega) (mm_4 _ _)).mono ?_); rintro e wD ⟨rfl, hbwD⟩; have hzwD := hbwD.size; (try simp only [World.size_alloc, World.size_setCell, World.size_drew, World.heap_drewN] at hzwD))
    | (go_at_call 19; (with_reducible refine (eval2_unlike (HL4.out.mem.next (by (repeat' (first | (with_reducible exact Below.refl _ _) | (with_reducible assumption) | (with_reducible refine Below.setCell ?_ ?_ _) | (with_reducible refine Below.alloc ?_ ?_ _) | (with_reducible refine Below.drew ?_) | (with_reducible refine below_drewN ?_ _) | (with_reducible refine below_next ?_ (by with_reducible assumption)) | omega | (dsimp only; omega) | (simp only [World.size_alloc, World.size_setCell, World.size_drew, World.heap_drewN]; omega))))) 0 1 0 2 (by unfold I64; omega) (by unfold I64; omega) (by decide) _ _ (mm_at1 _ _) (by simp) (mm_at2 _ _) (by simp [newB])).mono ?_); rintro e wE ⟨rfl, hbwE⟩; have hzwE := hbwE.size; (try simp only [World.size_alloc, World.size_setCell, World.size_drew, World.heap_drewN] at hzwE))
    | (go_at_call 21; (with_reducible refine (size8 (HL4.out.mem.next (by (repeat' (first | (with_reducible exact Below.refl _ _) | (with_reducible assumption) | (with_reducible refine Below.setCell ?_ ?_ _) | (with_reducible refine Below.alloc ?_ ?_ _) | (with_reducible refine Below.drew ?_) | (with_reducible refine below_drewN ?_ _) | (with_reducible refine below_next ?_ (by with_reducible assumption)) | omega | (dsimp only; omega) | (simp only [World.size_alloc, World.size_setCell, World.size_drew, World.heap_drewN]; omega)))))).mono ?_); rintro e w' ⟨rfl, rfl⟩))
  have oA := heap_alloc_new wA (.cells #[.int .i64 1, .int .u64 4294967294, .int .i64 0] 32)
  have oB := heap_alloc_new wB (.cells #[.int .i64 1, .int .u64 255, .int .i64 0] 32)
  have oC := heap_alloc_new wC (.cells #[.int .i64 0, .int .u64 0, .int .i64 0] 32)
  have oE := heap_alloc_new wE (.cells #[.int .i64 1, .int .u64 0, .int .i64 0] 32)
  obtain ⟨WZ, hWZ⟩ : ∃ WZ, WZ = wE.alloc (.cells #[.int .i64 1, .int .u64 0, .int .i64 0] 32) := ⟨_, rfl⟩
  have hzz : WZ.heap.size = wE.heap.size + 1 := by rw [hWZ]; simp
  have hAZ : Below (wA.alloc (.cells #[.int .i64 1, .int .u64 4294967294, .int .i64 0] 32)).heap.size (wA.alloc (.cells #[.int .i64 1, .int .u64 4294967294, .int .i64 0] 32)) WZ := by rw [hWZ]; (repeat' (first | (with_reducible exact Below.refl _ _) | (with_reducible assumption) | (with_reducible refine Below.setCell ?_ ?_ _) | (with_reducible refine Below.alloc ?_ ?_ _) | (with_reducible refine Below.drew ?_) | (with_reducible refine below_drewN ?_ _) | (with_reducible refine below_next ?_ (by with_reducible assumption)) | omega | (dsimp only; omega) | (simp only [World.size_alloc, World.size_setCell, World.size_drew, World.heap_drewN]; omega)))
  have hBZ : Below (wB.alloc (.cells #[.int .i64 1, .int .u64 255, .int .i64 0] 32)).heap.size (wB.alloc (.cells #[.int .i64 1, .int .u64 255, .int .i64 0] 32)) WZ := by rw [hWZ]; (repeat' (first | (with_reducible exact Below.refl _ _) | (with_reducible assumption) | (with_reducible refine Below.setCell ?_ ?_ _) | (with_reducible refine Below.alloc ?_ ?_ _) | (with_reducible refine Below.drew ?_) | (with_reducible refine below_drewN ?_ _) | (with_reducible refine below_next ?_ (by with_reducible assumption)) | omega | (dsimp only; omega) | (simp only [World.size_alloc, World.size_setCell, World.size_drew, World.heap_drewN]; omega)))
  have hCZ : Below (wC.alloc (.cells #[.int .i64 0, .int .u64 0, .int .i64 0] 32)).heap.size (wC.alloc (.cells #[.int .i64 0, .int .u64 0, .int .i64 0] 32)) WZ := by rw [hWZ]; (repeat' (first | (with_reducible exact Below.refl _ _) | (with_reducible assumption) | (with_reducible refine Below.setCell ?_ ?_ _) | (with_reducible refine Below.alloc ?_ ?_ _) | (with_reducible refine Below.drew ?_) | (with_reducible refine below_drewN ?_ _) | (with_reducible refine below_next ?_ (by with_reducible assumption)) | omega | (dsimp only; omega) | (simp only [World.size_alloc, World.size_setCell, World.size_drew, World.heap_drewN]; omega)))
  have qA := (hAZ.block wA.heap.size (by simp)).trans oA
  have qB := (hBZ.block wB.heap.size (by simp)).trans oB
  have qC := (hCZ.block wC.heap.size (by simp)).trans oC
  have qE := oE
  rw [← hWZ] at qE
  have hM4 : Hid (MemS WZ w.heap.size pm bm 2 2 3 (MM w1.heap.size w2.heap.size)) := Lib.hid (HL4.out.mem.next (by rw [hWZ]; (repeat' (first | (with_reducible exact Below.refl _ _) | (with_reducible assumption) | (with_reducible refine Below.setCell ?_ ?_ _) | (with_reducible refine Below.alloc ?_ ?_ _) | (with_reducible refine Below.drew ?_) | (with_reducible refine below_drewN ?_ _) | (with_reducible refine below_next ?_ (by with_reducible assumption)) | omega | (dsimp only; omega) | (simp only [World.size_alloc, World.size_setCell, World.size_drew, World.heap_drewN]; omega)))))
  have hz4 := hcw4.size
  have hlow : Below w.heap.size w WZ := by rw [hWZ]; (repeat' (first | (with_reducible exact Below.refl _ _) | (with_reducible assumption) | (with_reducible refine Below.setCell ?_ ?_ _) | (with_reducible refine Below.alloc ?_ ?_ _) | (with_reducible refine Below.drew ?_) | (with_reducible refine below_drewN ?_ _) | (with_reducible refine below_next ?_ (by with_reducible assumption)) | omega | (dsimp only; omega) | (simp only [World.size_alloc, World.size_setCell, World.size_drew, World.heap_drewN]; omega)))
  rw [← hWZ]
  obtain ⟨ga, hga⟩ : ∃ g, g = wA.heap.size := ⟨_, rfl⟩
  obtain ⟨gb, hgb⟩ : ∃ g, g = wB.heap.size := ⟨_, rfl⟩
  obtain ⟨gc, hgc⟩ : ∃ g, g = wC.heap.size := ⟨_, rfl⟩
  obtain ⟨gd, hgd⟩ : ∃ g, g = wD.heap.size := ⟨_, rfl⟩
  obtain ⟨ge, hge⟩ : ∃ g, g = wE.heap.size := ⟨_, rfl⟩
  have la : ga < WZ.heap.size := by omega
  have lb : gb < WZ.heap.size := by omega
  have lc : gc < WZ.heap.size := by omega
  have le : ge < WZ.heap.size := by omega
  rw [← hga] at qA ⊢
  rw [← hgb] at qB ⊢
  rw [← hgc] at qC ⊢
  rw [← hgd]
  rw [← hge] at qE ⊢
  have hBx0 : Bx WZ ga gb gc ge := ⟨qA, qB, qC, qE⟩
  have hzw := hlow.size
  clear hga hgb hgc hgd hge
  clear hWZ hAZ hBZ hCZ oA oB oC oE qA qB qC qE hA1 hA2 hA3
  clear hbwA hbwB hbwC hbwD hbwE hzwA hzwB hzwC hzwD hzwE hcw2 hcw3 hcw4 HL2 HL3 HL4 HM1 hz4 hb1 hzz
  go_region_held3 (fun w' => (w'.cell? ⟨ga, 0, none⟩ = some (.int .i64 1) ∧ w'.cell? ⟨ga, 1, none⟩ = some (.int .u64 4294967294) ∧ w'.cell? ⟨ga, 2, none⟩ = some (.int .i64 0) ∧ w'.cell? ⟨gb, 0, none⟩ = some (.int .i64 1) ∧ w'.cell? ⟨gb, 1, none⟩ = some (.int .u64 255) ∧ w'.cell? ⟨gb, 2, none⟩ = some (.int .i64 0) ∧ w'.cell? ⟨gc, 0, none⟩ = some (.int .i64 0) ∧ w'.cell? ⟨ge, 0, none⟩ = some (.int .i64 1) ∧ w'.cell? ⟨ge, 1, none⟩ = some (.int .u64 0) ∧ w'.cell? ⟨ge, 2, none⟩ = some (.int .i64 0) ∧ Bx w' ga gb gc ge)) (first | exact bx_cells hBX | exact bx_cells hBx0) (first
    | (go_at_call 25; (with_reducible refine (I2.out _).mono ?_); rintro e w' ⟨rfl, hbl⟩; have hz := hbl.size; (try simp only [World.size_alloc, World.size_setCell, World.size_drew, World.heap_drewN] at hz); have hBX := bx_below hbl (by assumption))
    | (go_at_call 25; (with_reducible refine (I255.out _).mono ?_); rintro e w' ⟨rfl, hbl⟩; have hz := hbl.size; (try simp only [World.size_alloc, World.size_setCell, World.size_drew, World.heap_drewN] at hz); have hBX := bx_below hbl (by assumption))
    | (go_at_call 25; (with_reducible refine (I0.out _).mono ?_); rintro e w' ⟨rfl, hbl⟩; have hz := hbl.size; (try simp only [World.size_alloc, World.size_setCell, World.size_drew, World.heap_drewN] at hz); have hBX := bx_below hbl (by assumption))
    | (go_at_call 11; (with_reducible refine (free2b (HF2.out.next (by (repeat' (first | (with_reducible exact Below.refl _ _) | (with_reducible assumption) | (with_reducible refine Below.setCell ?_ ?_ _) | (with_reducible refine Below.alloc ?_ ?_ _) | (with_reducible refine Below.drew ?_) | (with_reducible refine below_drewN ?_ _) | (with_reducible refine below_next ?_ (by with_reducible assumption)) | omega | (dsimp only; omega) | (simp only [World.size_alloc, World.size_setCell, World.size_drew, World.heap_drewN]; omega)))))).mono ?_); rintro e wY ⟨rfl, hL⟩; have hlow4 : Below w.heap.size w wY := Below.trans (by (repeat' (first | (with_reducible exact Below.refl _ _) | (with_reducible assumption) | (with_reducible refine Below.setCell ?_ ?_ _) | (with_reducible refine Below.alloc ?_ ?_ _) | (with_reducible refine Below.drew ?_) | (with_reducible refine below_drewN ?_ _) | (with_reducible refine below_next ?_ (by with_reducible assumption)) | omega | (dsimp only; omega) | (simp only [World.size_alloc, World.size_setCell, World.size_drew, World.heap_drewN]; omega)))) hL.low; have hzw4 := hlow4.size; have hBX := bx_kept hL.kept (by assumption); clear hL)
    | (go_at_call 11; (with_reducible refine (free2 (HF1.out.next (by (repeat' (first | (with_reducible exact Below.refl _ _) | (with_reducible assumption) | (with_reducible refine Below.setCell ?_ ?_ _) | (with_reducible refine Below.alloc ?_ ?_ _) | (with_reducible refine Below.drew ?_) | (with_reducible refine below_drewN ?_ _) | (with_reducible refine below_next ?_ (by with_reducible assumption)) | omega | (dsimp only; omega) | (simp only [World.size_alloc, World.size_setCell, World.size_drew, World.heap_drewN]; omega)))))).mono ?_); rintro e wX ⟨rfl, hL⟩; have HF2 := Lib.hid hL.mem; have hlow3 : Below w.heap.size w wX := Below.trans (by (repeat' (first | (with_reducible exact Below.refl _ _) | (with_reducible assumption) | (with_reducible refine Below.setCell ?_ ?_ _) | (with_reducible refine Below.alloc ?_ ?_ _) | (with_reducible refine Below.drew ?_) | (with_reducible refine below_drewN ?_ _) | (with_reducible refine below_next ?_ (by with_reducible assumption)) | omega | (dsimp only; omega) | (simp only [World.size_alloc, World.size_setCell, World.size_drew, World.heap_drewN]; omega)))) hL.low; have hzw3 := hlow3.size; have hBX := bx_kept hL.kept (by assumption); clear hL)
    | (go_at_call 13; (with_reducible refine (fix1 (hM4.out.next (by (repeat' (first | (with_reducible exact Below.refl _ _) | (with_reducible assumption) | (with_reducible refine Below.setCell ?_ ?_ _) | (with_reducible refine Below.alloc ?_ ?_ _) | (with_reducible refine Below.drew ?_) | (with_reducible refine below_drewN ?_ _) | (with_reducible refine below_next ?_ (by with_reducible assumption)) | omega | (dsimp only; omega) | (simp only [World.size_alloc, World.size_setCell, World.size_drew, World.heap_drewN]; omega)))))).mono ?_); rintro e wW ⟨rfl, hL⟩; have HF1 := Lib.hid hL.mem; have hlow2 : Below w.heap.size w wW := Below.trans (by (repeat' (first | (with_reducible exact Below.refl _ _) | (with_reducible assumption) | (with_reducible refine Below.setCell ?_ ?_ _) | (with_reducible refine Below.alloc ?_ ?_ _) | (with_reducible refine Below.drew ?_) | (with_reducible refine below_drewN ?_ _) | (with_reducible refine below_next ?_ (by with_reducible assumption)) | omega | (dsimp only; omega) | (simp only [World.size_alloc, World.size_setCell, World.size_drew, World.heap_drewN]; omega)))) hL.low; have hzw2 := hlow2.size; have hBX := bx_kept hL.kept (by assumption); clear hL))
  all_goals (go_wp2; go_returns; exact ⟨rfl, by (repeat' (first | (with_reducible exact Below.refl _ _) | (with_reducible assumption) | (with_reducible refine Below.setCell ?_ ?_ _) | (with_reducible refine Below.alloc ?_ ?_ _) | (with_reducible refine Below.drew ?_) | (with_reducible refine below_drewN ?_ _) | (with_reducible refine below_next ?_ (by with_reducible assumption)) | omega | (dsimp only; omega) | (simp only [World.size_alloc, World.size_setCell, World.size_drew, World.heap_drewN]; omega)))⟩)

end Go.Proofs.Ytddipbpllogbaaa
