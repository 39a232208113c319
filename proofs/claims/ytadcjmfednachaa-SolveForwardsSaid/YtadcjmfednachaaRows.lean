/-
  No cell of these rows narrows 'for every input' (looked for: loops, veiled, ifaces, maps, wideKeys, modest, calm, conditions, laid).
  DERIVED. THE GIVEN ROWS OF THIS SEAT. 5 by the template 'for every input the law returns true; each argument reads behind the call as it read before'; 0 by the template 'total and deterministic' (their statements: YtadcjmfednachaaTotals.lean).
  GIVEN WITH THE SEED: the statements are not yours to turn. If you find one false, say at which input.
  Laid BY PROGRAM, IN A SANDBOX (cutbox-rows.mjs): the forced cells as the released guide's own fill.sh prints them over the translation 6120118e2e4ae9b7… (all of the seat's roots in one cut). By AI agents, Wed Nov 11 2026. No macro, syntax, notation, axiom, sorry.
-/
import Derived.Test.YtadcjmfednachaaChecked
import GoSem.Claim
import GoSem.ClaimJoined
import GoSem.ClaimMapViews
import Derived.JoinedTies
import Derived.KernelRfl
namespace Go.Proofs.Ytadcjmfednachaa
/- THE CELL 'sum', in the pinned program and in every row, IS THE sha256 OF THE DUMP (.gsa) THAT YtadcjmfednachaaProg.lean LOADS. Nothing in Lean hashes anything: it is a label: what it is worth is what the hold of that sum in a sandbox is worth. -/
noncomputable def Try.pinned : Pinned := { name := "ytadcjmfednachaa", sum := "6120118e2e4ae9b73d89281e00e9b50343362f40abf1b30f32065a3558f7e58b", checked := Try.checked }
namespace Rows
def none {H : Type} : Left H := { results := [], args := [] }

/-- 'alembiclaw13.SolveGraphs': WHATEVER THE INPUT: true; the input reads as it did. -/
def solveGraphsSpec : ChangeSpec := { name := "solveGraphs", fn := fun _ => fun
  | [d1, d2] => { results := [.lit (.bool true)], args := [d1, d2] }
  | _ => none }
def solveGraphsRow : OpenClaim := { program := "ytadcjmfednachaa", sum := "6120118e2e4ae9b73d89281e00e9b50343362f40abf1b30f32065a3558f7e58b", func := "alembic/alembiclaw13.SolveGraphs", spec := "solveGraphs", unfollowed := true, recurses := true, apart := false }
def SolveGraphsSaid : Prop := solveGraphsRow.holds Try.pinned (OpenSpec.ofChange solveGraphsSpec)

/-- ITS FALSE NEIGHBOUR: 'it returns false'. Refute it at one input. -/
def solveGraphsWrong : ChangeSpec := { name := "solveGraphs", fn := fun _ => fun
  | [d1, d2] => { results := [.lit (.bool false)], args := [d1, d2] }
  | _ => none }
def SolveGraphsWrongFalsely : Prop := solveGraphsRow.holds Try.pinned (OpenSpec.ofChange solveGraphsWrong)

/-- 'alembiclaw13.SolveSets': WHATEVER THE INPUT: true; the input reads as it did. -/
def solveSetsSpec : ChangeSpec := { name := "solveSets", fn := fun _ => fun
  | [d1, d2, d3, d4, d5] => { results := [.lit (.bool true)], args := [d1, d2, d3, d4, d5] }
  | _ => none }
def solveSetsRow : OpenClaim := { program := "ytadcjmfednachaa", sum := "6120118e2e4ae9b73d89281e00e9b50343362f40abf1b30f32065a3558f7e58b", func := "alembic/alembiclaw13.SolveSets", spec := "solveSets", unfollowed := true, recurses := true, apart := false }
def SolveSetsSaid : Prop := solveSetsRow.holds Try.pinned (OpenSpec.ofChange solveSetsSpec)

/-- ITS FALSE NEIGHBOUR: 'it returns false'. Refute it at one input. -/
def solveSetsWrong : ChangeSpec := { name := "solveSets", fn := fun _ => fun
  | [d1, d2, d3, d4, d5] => { results := [.lit (.bool false)], args := [d1, d2, d3, d4, d5] }
  | _ => none }
def SolveSetsWrongFalsely : Prop := solveSetsRow.holds Try.pinned (OpenSpec.ofChange solveSetsWrong)

/-- 'alembiclaw13.SolveLeast': WHATEVER THE INPUT: true; the input reads as it did. -/
def solveLeastSpec : ChangeSpec := { name := "solveLeast", fn := fun _ => fun
  | [d1, d2, d3] => { results := [.lit (.bool true)], args := [d1, d2, d3] }
  | _ => none }
def solveLeastRow : OpenClaim := { program := "ytadcjmfednachaa", sum := "6120118e2e4ae9b73d89281e00e9b50343362f40abf1b30f32065a3558f7e58b", func := "alembic/alembiclaw13.SolveLeast", spec := "solveLeast", unfollowed := true, recurses := true, apart := false }
def SolveLeastSaid : Prop := solveLeastRow.holds Try.pinned (OpenSpec.ofChange solveLeastSpec)

/-- ITS FALSE NEIGHBOUR: 'it returns false'. Refute it at one input. -/
def solveLeastWrong : ChangeSpec := { name := "solveLeast", fn := fun _ => fun
  | [d1, d2, d3] => { results := [.lit (.bool false)], args := [d1, d2, d3] }
  | _ => none }
def SolveLeastWrongFalsely : Prop := solveLeastRow.holds Try.pinned (OpenSpec.ofChange solveLeastWrong)

/-- 'alembiclaw13.SolveOrder': WHATEVER THE INPUT: true; the input reads as it did. -/
def solveOrderSpec : ChangeSpec := { name := "solveOrder", fn := fun _ => fun
  | [d1, d2] => { results := [.lit (.bool true)], args := [d1, d2] }
  | _ => none }
def solveOrderRow : OpenClaim := { program := "ytadcjmfednachaa", sum := "6120118e2e4ae9b73d89281e00e9b50343362f40abf1b30f32065a3558f7e58b", func := "alembic/alembiclaw13.SolveOrder", spec := "solveOrder", unfollowed := true, recurses := true, apart := false }
def SolveOrderSaid : Prop := solveOrderRow.holds Try.pinned (OpenSpec.ofChange solveOrderSpec)

/-- ITS FALSE NEIGHBOUR: 'it returns false'. Refute it at one input. -/
def solveOrderWrong : ChangeSpec := { name := "solveOrder", fn := fun _ => fun
  | [d1, d2] => { results := [.lit (.bool false)], args := [d1, d2] }
  | _ => none }
def SolveOrderWrongFalsely : Prop := solveOrderRow.holds Try.pinned (OpenSpec.ofChange solveOrderWrong)

/-- 'alembiclaw13.SolveForwards': WHATEVER THE INPUT: true; the input reads as it did. -/
def solveForwardsSpec : ChangeSpec := { name := "solveForwards", fn := fun _ => fun
  | [d1, d2, d3, d4, d5] => { results := [.lit (.bool true)], args := [d1, d2, d3, d4, d5] }
  | _ => none }
def solveForwardsRow : OpenClaim := { program := "ytadcjmfednachaa", sum := "6120118e2e4ae9b73d89281e00e9b50343362f40abf1b30f32065a3558f7e58b", func := "alembic/alembiclaw13.SolveForwards", spec := "solveForwards", unfollowed := true, recurses := true, apart := false }
def SolveForwardsSaid : Prop := solveForwardsRow.holds Try.pinned (OpenSpec.ofChange solveForwardsSpec)

/-- ITS FALSE NEIGHBOUR: 'it returns false'. Refute it at one input. -/
def solveForwardsWrong : ChangeSpec := { name := "solveForwards", fn := fun _ => fun
  | [d1, d2, d3, d4, d5] => { results := [.lit (.bool false)], args := [d1, d2, d3, d4, d5] }
  | _ => none }
def SolveForwardsWrongFalsely : Prop := solveForwardsRow.holds Try.pinned (OpenSpec.ofChange solveForwardsWrong)

/- THE SECOND FORM. 'bulk': how many values and letters a reading holds, each counted each time it is reached (what is shared counts as often as it is met; a slice's spare places count too). A statement '..UptoSaid' is the law's where the arguments, and the package variables that the reading takes, are together of bulk at most 1048576: NARROWER than '..Said'. Prove '..Said' where nothing that the law and all that it calls make is longer than what came in: it says more and counts as full. Else prove '..UptoSaid'. A law counts once. -/
mutual
def uptoBulk {H : Type} : DataW H → Nat
  | .lit (.string bytes) => bytes.length + 1
  | .lit _ => 1
  | .nil => 1
  | .ptr d => uptoBulk d + 1
  | .slice elems spare => uptoBulkAll elems + uptoBulkAll spare + 1
  | .agg parts => uptoBulkAll parts + 1
  | .iface _ d => uptoBulk d + 1
  | .map entries => uptoBulkEntries entries + 1
  | .held _ => 1
def uptoBulkAll {H : Type} : List (DataW H) → Nat
  | [] => 0
  | d :: r => uptoBulk d + uptoBulkAll r
def uptoBulkEntries {H : Type} : List (Lit × DataW H) → Nat
  | [] => 0
  | x :: r => uptoBulkEntry x + uptoBulkEntries r
def uptoBulkEntry {H : Type} : Lit × DataW H → Nat
  | (.string bytes, d) => bytes.length + uptoBulk d + 1
  | (_, d) => uptoBulk d + 1
 end
def uptoSmall : (H : Type) → List (DataW H) → Bool := fun _ ds => decide (uptoBulkAll ds ≤ 1048576)
def OpenSpec.upto (s : _root_.Go.ChangeSpec) : _root_.Go.OpenSpec := { _root_.Go.OpenSpec.ofChange s with cond := some uptoSmall }

/-- 'alembiclaw13.SolveGraphs', WHERE WHAT IT READS IS OF BULK AT MOST 1048576: true; the input reads as it did. -/
def solveGraphsUptoRow : OpenClaim := { program := "ytadcjmfednachaa", sum := "6120118e2e4ae9b73d89281e00e9b50343362f40abf1b30f32065a3558f7e58b", func := "alembic/alembiclaw13.SolveGraphs", spec := "solveGraphs", unfollowed := true, recurses := true, apart := false, narrowed := true }
def SolveGraphsUptoSaid : Prop := solveGraphsUptoRow.holds Try.pinned (OpenSpec.upto solveGraphsSpec)

/-- 'alembiclaw13.SolveSets', WHERE WHAT IT READS IS OF BULK AT MOST 1048576: true; the input reads as it did. -/
def solveSetsUptoRow : OpenClaim := { program := "ytadcjmfednachaa", sum := "6120118e2e4ae9b73d89281e00e9b50343362f40abf1b30f32065a3558f7e58b", func := "alembic/alembiclaw13.SolveSets", spec := "solveSets", unfollowed := true, recurses := true, apart := false, narrowed := true }
def SolveSetsUptoSaid : Prop := solveSetsUptoRow.holds Try.pinned (OpenSpec.upto solveSetsSpec)

/-- 'alembiclaw13.SolveLeast', WHERE WHAT IT READS IS OF BULK AT MOST 1048576: true; the input reads as it did. -/
def solveLeastUptoRow : OpenClaim := { program := "ytadcjmfednachaa", sum := "6120118e2e4ae9b73d89281e00e9b50343362f40abf1b30f32065a3558f7e58b", func := "alembic/alembiclaw13.SolveLeast", spec := "solveLeast", unfollowed := true, recurses := true, apart := false, narrowed := true }
def SolveLeastUptoSaid : Prop := solveLeastUptoRow.holds Try.pinned (OpenSpec.upto solveLeastSpec)

/-- 'alembiclaw13.SolveOrder', WHERE WHAT IT READS IS OF BULK AT MOST 1048576: true; the input reads as it did. -/
def solveOrderUptoRow : OpenClaim := { program := "ytadcjmfednachaa", sum := "6120118e2e4ae9b73d89281e00e9b50343362f40abf1b30f32065a3558f7e58b", func := "alembic/alembiclaw13.SolveOrder", spec := "solveOrder", unfollowed := true, recurses := true, apart := false, narrowed := true }
def SolveOrderUptoSaid : Prop := solveOrderUptoRow.holds Try.pinned (OpenSpec.upto solveOrderSpec)

/-- 'alembiclaw13.SolveForwards', WHERE WHAT IT READS IS OF BULK AT MOST 1048576: true; the input reads as it did. -/
def solveForwardsUptoRow : OpenClaim := { program := "ytadcjmfednachaa", sum := "6120118e2e4ae9b73d89281e00e9b50343362f40abf1b30f32065a3558f7e58b", func := "alembic/alembiclaw13.SolveForwards", spec := "solveForwards", unfollowed := true, recurses := true, apart := false, narrowed := true }
def SolveForwardsUptoSaid : Prop := solveForwardsUptoRow.holds Try.pinned (OpenSpec.upto solveForwardsSpec)

end Rows
end Go.Proofs.Ytadcjmfednachaa
