/-
  No cell of these rows narrows 'for every input' (looked for: loops, veiled, ifaces, maps, wideKeys, modest, calm, conditions, laid).
  DERIVED. THE GIVEN ROWS OF THIS SEAT. 7 by the template 'for every input the law returns true; each argument reads behind the call as it read before'; 0 by the template 'total and deterministic' (their statements: YtonhphiajjkgaaaTotals.lean).
  GIVEN WITH THE SEED: the statements are not yours to turn. If you find one false, say at which input.
  Laid BY PROGRAM, IN A SANDBOX (cutbox-rows.mjs): the forced cells as the released guide's own fill.sh prints them over the translation 4f189e7caf02313e… (all of the seat's roots in one cut). By AI agents, Wed Nov 11 2026. No macro, syntax, notation, axiom, sorry.
-/
import Derived.Test.YtonhphiajjkgaaaChecked
import GoSem.Claim
import GoSem.ClaimJoined
import GoSem.ClaimMapViews
import Derived.JoinedTies
import Derived.KernelRfl
namespace Go.Proofs.Ytonhphiajjkgaaa
/- THE CELL 'sum', in the pinned program and in every row, IS THE sha256 OF THE DUMP (.gsa) THAT YtonhphiajjkgaaaProg.lean LOADS. Nothing in Lean hashes anything: it is a label: what it is worth is what the hold of that sum in a sandbox is worth. -/
noncomputable def Try.pinned : Pinned := { name := "ytonhphiajjkgaaa", sum := "4f189e7caf02313e47ce31b1ac85232947f0d73aa1e5e7726d7c5c07552d00b3", checked := Try.checked }
namespace Rows
def none {H : Type} : Left H := { results := [], args := [] }

/-- 'alembiclaw01.MachTwo': WHATEVER THE INPUT: true; the input reads as it did. -/
def machTwoSpec : ChangeSpec := { name := "machTwo", fn := fun _ => fun
  | [d1, d2, d3] => { results := [.lit (.bool true)], args := [d1, d2, d3] }
  | _ => none }
def machTwoRow : OpenClaim := { program := "ytonhphiajjkgaaa", sum := "4f189e7caf02313e47ce31b1ac85232947f0d73aa1e5e7726d7c5c07552d00b3", func := "alembic/alembiclaw01.MachTwo", spec := "machTwo", inPlace := ["math.Float64frombits", "math.Float64bits"], apart := false }
def MachTwoSaid : Prop := machTwoRow.holds Try.pinned (OpenSpec.ofChange machTwoSpec)

/-- ITS FALSE NEIGHBOUR: 'it returns false'. Refute it at one input. -/
def machTwoWrong : ChangeSpec := { name := "machTwo", fn := fun _ => fun
  | [d1, d2, d3] => { results := [.lit (.bool false)], args := [d1, d2, d3] }
  | _ => none }
def MachTwoWrongFalsely : Prop := machTwoRow.holds Try.pinned (OpenSpec.ofChange machTwoWrong)

/-- 'alembiclaw01.MachOrder': WHATEVER THE INPUT: true; the input reads as it did. -/
def machOrderSpec : ChangeSpec := { name := "machOrder", fn := fun _ => fun
  | [d1, d2, d3, d4] => { results := [.lit (.bool true)], args := [d1, d2, d3, d4] }
  | _ => none }
def machOrderRow : OpenClaim := { program := "ytonhphiajjkgaaa", sum := "4f189e7caf02313e47ce31b1ac85232947f0d73aa1e5e7726d7c5c07552d00b3", func := "alembic/alembiclaw01.MachOrder", spec := "machOrder", inPlace := ["math.Float64frombits", "math.Float64bits"], apart := false }
def MachOrderSaid : Prop := machOrderRow.holds Try.pinned (OpenSpec.ofChange machOrderSpec)

/-- ITS FALSE NEIGHBOUR: 'it returns false'. Refute it at one input. -/
def machOrderWrong : ChangeSpec := { name := "machOrder", fn := fun _ => fun
  | [d1, d2, d3, d4] => { results := [.lit (.bool false)], args := [d1, d2, d3, d4] }
  | _ => none }
def MachOrderWrongFalsely : Prop := machOrderRow.holds Try.pinned (OpenSpec.ofChange machOrderWrong)

/-- 'alembiclaw01.MachShifts': WHATEVER THE INPUT: true; the input reads as it did. -/
def machShiftsSpec : ChangeSpec := { name := "machShifts", fn := fun _ => fun
  | [d1, d2] => { results := [.lit (.bool true)], args := [d1, d2] }
  | _ => none }
def machShiftsRow : OpenClaim := { program := "ytonhphiajjkgaaa", sum := "4f189e7caf02313e47ce31b1ac85232947f0d73aa1e5e7726d7c5c07552d00b3", func := "alembic/alembiclaw01.MachShifts", spec := "machShifts", inPlace := ["math.Float64frombits", "math.Float64bits"], apart := false }
def MachShiftsSaid : Prop := machShiftsRow.holds Try.pinned (OpenSpec.ofChange machShiftsSpec)

/-- ITS FALSE NEIGHBOUR: 'it returns false'. Refute it at one input. -/
def machShiftsWrong : ChangeSpec := { name := "machShifts", fn := fun _ => fun
  | [d1, d2] => { results := [.lit (.bool false)], args := [d1, d2] }
  | _ => none }
def MachShiftsWrongFalsely : Prop := machShiftsRow.holds Try.pinned (OpenSpec.ofChange machShiftsWrong)

/-- 'alembiclaw01.MachTables': WHATEVER THE INPUT: true; the input reads as it did. -/
def machTablesSpec : ChangeSpec := { name := "machTables", fn := fun _ => fun
  | [d1, d2, d3, d4] => { results := [.lit (.bool true)], args := [d1, d2, d3, d4] }
  | _ => none }
def machTablesRow : OpenClaim := { program := "ytonhphiajjkgaaa", sum := "4f189e7caf02313e47ce31b1ac85232947f0d73aa1e5e7726d7c5c07552d00b3", func := "alembic/alembiclaw01.MachTables", spec := "machTables", inPlace := ["math.Float64frombits", "math.Float64bits"], apart := false }
def MachTablesSaid : Prop := machTablesRow.holds Try.pinned (OpenSpec.ofChange machTablesSpec)

/-- ITS FALSE NEIGHBOUR: 'it returns false'. Refute it at one input. -/
def machTablesWrong : ChangeSpec := { name := "machTables", fn := fun _ => fun
  | [d1, d2, d3, d4] => { results := [.lit (.bool false)], args := [d1, d2, d3, d4] }
  | _ => none }
def MachTablesWrongFalsely : Prop := machTablesRow.holds Try.pinned (OpenSpec.ofChange machTablesWrong)

/-- 'alembiclaw01.MachLaws': WHATEVER THE INPUT: true; the input reads as it did. -/
def machLawsSpec : ChangeSpec := { name := "machLaws", fn := fun _ => fun
  | [d1, d2] => { results := [.lit (.bool true)], args := [d1, d2] }
  | _ => none }
def machLawsRow : OpenClaim := { program := "ytonhphiajjkgaaa", sum := "4f189e7caf02313e47ce31b1ac85232947f0d73aa1e5e7726d7c5c07552d00b3", func := "alembic/alembiclaw01.MachLaws", spec := "machLaws", inPlace := ["math.Float64frombits", "math.Float64bits", "math.archTrunc"], unfollowed := true, recurses := true, apart := false }
def MachLawsSaid : Prop := machLawsRow.holds Try.pinned (OpenSpec.ofChange machLawsSpec)

/-- ITS FALSE NEIGHBOUR: 'it returns false'. Refute it at one input. -/
def machLawsWrong : ChangeSpec := { name := "machLaws", fn := fun _ => fun
  | [d1, d2] => { results := [.lit (.bool false)], args := [d1, d2] }
  | _ => none }
def MachLawsWrongFalsely : Prop := machLawsRow.holds Try.pinned (OpenSpec.ofChange machLawsWrong)

/-- 'alembiclaw01.MachRight': WHATEVER THE INPUT: true; the input reads as it did. -/
def machRightSpec : ChangeSpec := { name := "machRight", fn := fun _ => fun
  | [d1, d2, d3] => { results := [.lit (.bool true)], args := [d1, d2, d3] }
  | _ => none }
def machRightRow : OpenClaim := { program := "ytonhphiajjkgaaa", sum := "4f189e7caf02313e47ce31b1ac85232947f0d73aa1e5e7726d7c5c07552d00b3", func := "alembic/alembiclaw01.MachRight", spec := "machRight", inPlace := ["math.Float64frombits", "math.Float64bits", "math.archTrunc"], unfollowed := true, recurses := true, apart := false }
def MachRightSaid : Prop := machRightRow.holds Try.pinned (OpenSpec.ofChange machRightSpec)

/-- ITS FALSE NEIGHBOUR: 'it returns false'. Refute it at one input. -/
def machRightWrong : ChangeSpec := { name := "machRight", fn := fun _ => fun
  | [d1, d2, d3] => { results := [.lit (.bool false)], args := [d1, d2, d3] }
  | _ => none }
def MachRightWrongFalsely : Prop := machRightRow.holds Try.pinned (OpenSpec.ofChange machRightWrong)

/-- 'alembiclaw01.MachOne': WHATEVER THE INPUT: true; the input reads as it did. -/
def machOneSpec : ChangeSpec := { name := "machOne", fn := fun _ => fun
  | [d1, d2, d3] => { results := [.lit (.bool true)], args := [d1, d2, d3] }
  | _ => none }
def machOneRow : OpenClaim := { program := "ytonhphiajjkgaaa", sum := "4f189e7caf02313e47ce31b1ac85232947f0d73aa1e5e7726d7c5c07552d00b3", func := "alembic/alembiclaw01.MachOne", spec := "machOne", inPlace := ["math.Float64frombits", "math.Float64bits", "math.archTrunc"], unfollowed := true, recurses := true, apart := false }
def MachOneSaid : Prop := machOneRow.holds Try.pinned (OpenSpec.ofChange machOneSpec)

/-- ITS FALSE NEIGHBOUR: 'it returns false'. Refute it at one input. -/
def machOneWrong : ChangeSpec := { name := "machOne", fn := fun _ => fun
  | [d1, d2, d3] => { results := [.lit (.bool false)], args := [d1, d2, d3] }
  | _ => none }
def MachOneWrongFalsely : Prop := machOneRow.holds Try.pinned (OpenSpec.ofChange machOneWrong)

/- THE SECOND FORM. 'bulk': how many values and letters a reading holds, each counted each time it is reached (what is shared counts as often as it is met; a slice's spare places count too). A statement '..UptoSaid' is the law's where the arguments, and the package variables that the reading takes, are together of bulk at most 1048576: NARROWER than '..Said'. Prove '..Said' where nothing that the law and all that it calls make is longer than what came in: it says more and counts as full. Else prove '..UptoSaid'. A law counts once. -/
mutual
def uptoBulk {H : Type} : DataW H → Nat
  | .lit (.string bytes) => bytes.length + 1
  | .lit _ => 1
  | .nil => 1
  | .ptr d => uptoBulk d + 1
  | .slice elems spare => uptoBulkAll elems + uptoBulkAll spare + 1
  | .agg parts => uptoBulkAll parts + 1
  | .iface _ d => uptoBulk d + 1
  | .map entries => uptoBulkEntries entries + 1
  | .held _ => 1
def uptoBulkAll {H : Type} : List (DataW H) → Nat
  | [] => 0
  | d :: r => uptoBulk d + uptoBulkAll r
def uptoBulkEntries {H : Type} : List (Lit × DataW H) → Nat
  | [] => 0
  | x :: r => uptoBulkEntry x + uptoBulkEntries r
def uptoBulkEntry {H : Type} : Lit × DataW H → Nat
  | (.string bytes, d) => bytes.length + uptoBulk d + 1
  | (_, d) => uptoBulk d + 1
 end
def uptoSmall : (H : Type) → List (DataW H) → Bool := fun _ ds => decide (uptoBulkAll ds ≤ 1048576)
def OpenSpec.upto (s : _root_.Go.ChangeSpec) : _root_.Go.OpenSpec := { _root_.Go.OpenSpec.ofChange s with cond := some uptoSmall }

/-- 'alembiclaw01.MachTwo', WHERE WHAT IT READS IS OF BULK AT MOST 1048576: true; the input reads as it did. -/
def machTwoUptoRow : OpenClaim := { program := "ytonhphiajjkgaaa", sum := "4f189e7caf02313e47ce31b1ac85232947f0d73aa1e5e7726d7c5c07552d00b3", func := "alembic/alembiclaw01.MachTwo", spec := "machTwo", inPlace := ["math.Float64frombits", "math.Float64bits"], apart := false, narrowed := true }
def MachTwoUptoSaid : Prop := machTwoUptoRow.holds Try.pinned (OpenSpec.upto machTwoSpec)

/-- 'alembiclaw01.MachOrder', WHERE WHAT IT READS IS OF BULK AT MOST 1048576: true; the input reads as it did. -/
def machOrderUptoRow : OpenClaim := { program := "ytonhphiajjkgaaa", sum := "4f189e7caf02313e47ce31b1ac85232947f0d73aa1e5e7726d7c5c07552d00b3", func := "alembic/alembiclaw01.MachOrder", spec := "machOrder", inPlace := ["math.Float64frombits", "math.Float64bits"], apart := false, narrowed := true }
def MachOrderUptoSaid : Prop := machOrderUptoRow.holds Try.pinned (OpenSpec.upto machOrderSpec)

/-- 'alembiclaw01.MachShifts', WHERE WHAT IT READS IS OF BULK AT MOST 1048576: true; the input reads as it did. -/
def machShiftsUptoRow : OpenClaim := { program := "ytonhphiajjkgaaa", sum := "4f189e7caf02313e47ce31b1ac85232947f0d73aa1e5e7726d7c5c07552d00b3", func := "alembic/alembiclaw01.MachShifts", spec := "machShifts", inPlace := ["math.Float64frombits", "math.Float64bits"], apart := false, narrowed := true }
def MachShiftsUptoSaid : Prop := machShiftsUptoRow.holds Try.pinned (OpenSpec.upto machShiftsSpec)

/-- 'alembiclaw01.MachTables', WHERE WHAT IT READS IS OF BULK AT MOST 1048576: true; the input reads as it did. -/
def machTablesUptoRow : OpenClaim := { program := "ytonhphiajjkgaaa", sum := "4f189e7caf02313e47ce31b1ac85232947f0d73aa1e5e7726d7c5c07552d00b3", func := "alembic/alembiclaw01.MachTables", spec := "machTables", inPlace := ["math.Float64frombits", "math.Float64bits"], apart := false, narrowed := true }
def MachTablesUptoSaid : Prop := machTablesUptoRow.holds Try.pinned (OpenSpec.upto machTablesSpec)

/-- 'alembiclaw01.MachLaws', WHERE WHAT IT READS IS OF BULK AT MOST 1048576: true; the input reads as it did. -/
def machLawsUptoRow : OpenClaim := { program := "ytonhphiajjkgaaa", sum := "4f189e7caf02313e47ce31b1ac85232947f0d73aa1e5e7726d7c5c07552d00b3", func := "alembic/alembiclaw01.MachLaws", spec := "machLaws", inPlace := ["math.Float64frombits", "math.Float64bits", "math.archTrunc"], unfollowed := true, recurses := true, apart := false, narrowed := true }
def MachLawsUptoSaid : Prop := machLawsUptoRow.holds Try.pinned (OpenSpec.upto machLawsSpec)

/-- 'alembiclaw01.MachRight', WHERE WHAT IT READS IS OF BULK AT MOST 1048576: true; the input reads as it did. -/
def machRightUptoRow : OpenClaim := { program := "ytonhphiajjkgaaa", sum := "4f189e7caf02313e47ce31b1ac85232947f0d73aa1e5e7726d7c5c07552d00b3", func := "alembic/alembiclaw01.MachRight", spec := "machRight", inPlace := ["math.Float64frombits", "math.Float64bits", "math.archTrunc"], unfollowed := true, recurses := true, apart := false, narrowed := true }
def MachRightUptoSaid : Prop := machRightUptoRow.holds Try.pinned (OpenSpec.upto machRightSpec)

/-- 'alembiclaw01.MachOne', WHERE WHAT IT READS IS OF BULK AT MOST 1048576: true; the input reads as it did. -/
def machOneUptoRow : OpenClaim := { program := "ytonhphiajjkgaaa", sum := "4f189e7caf02313e47ce31b1ac85232947f0d73aa1e5e7726d7c5c07552d00b3", func := "alembic/alembiclaw01.MachOne", spec := "machOne", inPlace := ["math.Float64frombits", "math.Float64bits", "math.archTrunc"], unfollowed := true, recurses := true, apart := false, narrowed := true }
def MachOneUptoSaid : Prop := machOneUptoRow.holds Try.pinned (OpenSpec.upto machOneSpec)

end Rows
end Go.Proofs.Ytonhphiajjkgaaa
