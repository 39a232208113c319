/-
  The walks of layer 1's Eval2, in the program and in the reference: both answer the plain function eval2.
-/
import Derived.Test.YteeojgepgjndgaaDoorMachW3
import Derived.Deep.QuietTactic
import Derived.BigQuiet
namespace Go.Proofs.YteeojgepgjndgaaDoor
open Go.RowKit
set_option linter.unusedVariables false
set_option maxRecDepth 100000
set_option linter.unusedSimpArgs false

def pointersV (op : Int) (x y : V) : V × Bool :=
  if (x.k = 4 ∧ x.l = 0) ∨ (y.k = 4 ∧ y.l = 0) then (undefV, false)
  else if x.k = 4 ∧ y.k = 4 then
    if x.l ≠ y.l then (undefV, false)
    else if op = 4 then (longV (wrap64 x.b - wrap64 y.b), true)
    else if 22 ≤ op then (flagV (cmpd op (decide (x.b < y.b)) (decide (x.b = y.b))), true)
    else if 16 ≤ op then (flagV (cmpd op (decide (wrap64 x.b < wrap64 y.b)) (decide (x.b = y.b))), true)
    else (undefV, false)
  else if (x.k = 4 ∧ y.k ≠ 2) ∨ (x.k ≠ 4 ∧ x.k ≠ 2) then (undefV, false)
  else if op = 3 then (ptrV (if x.k = 4 then x.l else y.l) (wrap64 x.b + wrap64 y.b), true)
  else if op = 4 ∧ x.k = 4 then (ptrV x.l (wrap64 x.b - wrap64 y.b), true)
  else if (op = 16 ∨ op = 17) ∧ (if x.k = 4 then y.b else x.b) = 0 then (flagV (decide (op = 17)), true)
  else (undefV, false)

def intsV (op x y : Int) : V × Bool :=
  if 22 ≤ op then (flagV (cmpd op (decide (x < y)) (decide (x = y))), true)
  else if 16 ≤ op then (flagV (cmpd op (decide (wrap32 x < wrap32 y)) (decide (x = y))), true)
  else if 13 ≤ op then if 31 < y then (undefV, false) else (intV (shiftU op (wrap32 x) x y), true)
  else if (wholeU (-2147483648) op (wrap32 x) (wrap32 y) x y).2 then (intV (wholeU (-2147483648) op (wrap32 x) (wrap32 y) x y).1, true) else (undefV, false)

def longsV (op x y : Int) : V × Bool :=
  if 22 ≤ op then (flagV (cmpd op (decide (x < y)) (decide (x = y))), true)
  else if 16 ≤ op then (flagV (cmpd op (decide (wrap64 x < wrap64 y)) (decide (x = y))), true)
  else if 13 ≤ op then if 63 < y % 4294967296 then (undefV, false) else (longV (shiftU op (wrap64 x) x (y % 4294967296)), true)
  else if (wholeU (-9223372036854775808) op (wrap64 x) (wrap64 y) x y).2 then (longV (wholeU (-9223372036854775808) op (wrap64 x) (wrap64 y) x y).1, true) else (undefV, false)

def eval2 (op : Int) (x y : V) : V × Bool :=
  if (shape op).2.1 = 0 then (undefV, false)
  else if (shape op).1 = 2 ∧ (shape op).2.1 = 2 ∧ (x.k = 4 ∨ y.k = 4) then pointersV (split op).1 x y
  else if x.k ≠ (shape op).1 ∨ y.k ≠ (shape op).2.1 then (undefV, false)
  else if (shape op).1 = 3 then (floatsV op x.b.toNat y.b.toNat, true)
  else if (shape op).1 = 2 then longsV (split op).1 x.b y.b
  else intsV (split op).1 (x.b % 4294967296) (y.b % 4294967296)

theorem shape_two (op : Int) : (shape op).2.1 = 0 ∨ ((shape op).1 = 3 ∧ (shape op).2.1 = 3 ∧ 62 ≤ op ∧ op ≤ 71) ∨
    ((shape op).1 = 1 ∧ (shape op).2.1 = 1 ∧ (split op).1 = op ∧ 3 ≤ op ∧ op ≤ 25) ∨
    ((shape op).1 = 2 ∧ (shape op).2.1 = 1 ∧ (split op).1 = op - 30 ∧ 13 ≤ op - 30 ∧ op - 30 ≤ 15) ∨
    ((shape op).1 = 2 ∧ (shape op).2.1 = 2 ∧ (split op).1 = op - 30 ∧ (3 ≤ op - 30 ∧ op - 30 < 13 ∨ 16 ≤ op - 30 ∧ op - 30 ≤ 25)) := by
  grind (splits := 60) [shape, split]

theorem wrap64_inj (x y : Int) (hx : U64 x) (hy : U64 y) : wrap64 x = wrap64 y ↔ x = y := by
  have := hx.1; have := hx.2; have := hy.1; have := hy.2
  unfold wrap64; omega
theorem wrap32_inj (x y : Int) (hx : U32 x) (hy : U32 y) : wrap32 x = wrap32 y ↔ x = y := by
  have := hx.1; have := hx.2; have := hy.1; have := hy.2
  unfold wrap32; omega
theorem wrap64_zero (x : Int) (hx : U64 x) : wrap64 x = 0 ↔ x = 0 := by
  have := hx.1; have := hx.2
  unfold wrap64; omega
theorem u64_wrap64 (x : Int) (hx : U64 x) : IntKind.u64.wrap (wrap64 x) = x := by
  have := hx.1; have := hx.2
  rw [IntKind.wrap_u64]; unfold wrap64; omega

end Go.Proofs.YteeojgepgjndgaaDoor
