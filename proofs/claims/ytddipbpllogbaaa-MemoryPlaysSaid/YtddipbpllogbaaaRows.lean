/-
  No cell of these rows narrows 'for every input' (looked for: loops, veiled, ifaces, maps, wideKeys, modest, calm, conditions, laid).
  DERIVED. THE GIVEN ROWS OF THIS SEAT. 4 by the template 'for every input the law returns true; each argument reads behind the call as it read before'; 0 by the template 'total and deterministic' (their statements: YtddipbpllogbaaaTotals.lean).
  GIVEN WITH THE SEED: the statements are not yours to turn. If you find one false, say at which input.
  Laid BY PROGRAM, IN A SANDBOX (cutbox-rows.mjs): the forced cells as the released guide's own fill.sh prints them over the translation 76efc273a34b0591… (all of the seat's roots in one cut). By AI agents, Wed Nov 11 2026. No macro, syntax, notation, axiom, sorry.
-/
import Derived.Test.YtddipbpllogbaaaChecked
import GoSem.Claim
import GoSem.ClaimJoined
import GoSem.ClaimMapViews
import Derived.JoinedTies
import Derived.KernelRfl
namespace Go.Proofs.Ytddipbpllogbaaa
/- THE CELL 'sum', in the pinned program and in every row, IS THE sha256 OF THE DUMP (.gsa) THAT YtddipbpllogbaaaProg.lean LOADS. Nothing in Lean hashes anything: it is a label: what it is worth is what the hold of that sum in a sandbox is worth. -/
noncomputable def Try.pinned : Pinned := { name := "ytddipbpllogbaaa", sum := "76efc273a34b059122ecd3ead4a82aeaacda54ac24cdea64e007ccb672a10fd7", checked := Try.checked }
namespace Rows
def none {H : Type} : Left H := { results := [], args := [] }

/-- 'alembiclaw02.MemoryPlays': WHATEVER THE INPUT: true; the input reads as it did. -/
def memoryPlaysSpec : ChangeSpec := { name := "memoryPlays", fn := fun _ => fun
  | [d] => { results := [.lit (.bool true)], args := [d] }
  | _ => none }
def memoryPlaysRow : OpenClaim := { program := "ytddipbpllogbaaa", sum := "76efc273a34b059122ecd3ead4a82aeaacda54ac24cdea64e007ccb672a10fd7", func := "alembic/alembiclaw02.MemoryPlays", spec := "memoryPlays", inPlace := ["math.Float64frombits", "math.Float64bits"], apart := false }
def MemoryPlaysSaid : Prop := memoryPlaysRow.holds Try.pinned (OpenSpec.ofChange memoryPlaysSpec)

/-- ITS FALSE NEIGHBOUR: 'it returns false'. Refute it at one input. -/
def memoryPlaysWrong : ChangeSpec := { name := "memoryPlays", fn := fun _ => fun
  | [d] => { results := [.lit (.bool false)], args := [d] }
  | _ => none }
def MemoryPlaysWrongFalsely : Prop := memoryPlaysRow.holds Try.pinned (OpenSpec.ofChange memoryPlaysWrong)

/-- 'alembiclaw02.MemoryEnds': WHATEVER THE INPUT: true; the input reads as it did. -/
def memoryEndsSpec : ChangeSpec := { name := "memoryEnds", fn := fun _ => fun
  | [d1, d2, d3, d4, d5] => { results := [.lit (.bool true)], args := [d1, d2, d3, d4, d5] }
  | _ => none }
def memoryEndsRow : OpenClaim := { program := "ytddipbpllogbaaa", sum := "76efc273a34b059122ecd3ead4a82aeaacda54ac24cdea64e007ccb672a10fd7", func := "alembic/alembiclaw02.MemoryEnds", spec := "memoryEnds", inPlace := ["math.Float64frombits", "math.Float64bits"], apart := false }
def MemoryEndsSaid : Prop := memoryEndsRow.holds Try.pinned (OpenSpec.ofChange memoryEndsSpec)

/-- ITS FALSE NEIGHBOUR: 'it returns false'. Refute it at one input. -/
def memoryEndsWrong : ChangeSpec := { name := "memoryEnds", fn := fun _ => fun
  | [d1, d2, d3, d4, d5] => { results := [.lit (.bool false)], args := [d1, d2, d3, d4, d5] }
  | _ => none }
def MemoryEndsWrongFalsely : Prop := memoryEndsRow.holds Try.pinned (OpenSpec.ofChange memoryEndsWrong)

/-- 'alembiclaw02.MemoryPieces': WHATEVER THE INPUT: true; the input reads as it did. -/
def memoryPiecesSpec : ChangeSpec := { name := "memoryPieces", fn := fun _ => fun
  | [d1, d2, d3, d4] => { results := [.lit (.bool true)], args := [d1, d2, d3, d4] }
  | _ => none }
def memoryPiecesRow : OpenClaim := { program := "ytddipbpllogbaaa", sum := "76efc273a34b059122ecd3ead4a82aeaacda54ac24cdea64e007ccb672a10fd7", func := "alembic/alembiclaw02.MemoryPieces", spec := "memoryPieces", inPlace := ["math.Float64frombits", "math.Float64bits"], apart := false }
def MemoryPiecesSaid : Prop := memoryPiecesRow.holds Try.pinned (OpenSpec.ofChange memoryPiecesSpec)

/-- ITS FALSE NEIGHBOUR: 'it returns false'. Refute it at one input. -/
def memoryPiecesWrong : ChangeSpec := { name := "memoryPieces", fn := fun _ => fun
  | [d1, d2, d3, d4] => { results := [.lit (.bool false)], args := [d1, d2, d3, d4] }
  | _ => none }
def MemoryPiecesWrongFalsely : Prop := memoryPiecesRow.holds Try.pinned (OpenSpec.ofChange memoryPiecesWrong)

/-- 'alembiclaw02.MemoryKeeps': WHATEVER THE INPUT: true; the input reads as it did. -/
def memoryKeepsSpec : ChangeSpec := { name := "memoryKeeps", fn := fun _ => fun
  | [d1, d2, d3, d4, d5] => { results := [.lit (.bool true)], args := [d1, d2, d3, d4, d5] }
  | _ => none }
def memoryKeepsRow : OpenClaim := { program := "ytddipbpllogbaaa", sum := "76efc273a34b059122ecd3ead4a82aeaacda54ac24cdea64e007ccb672a10fd7", func := "alembic/alembiclaw02.MemoryKeeps", spec := "memoryKeeps", inPlace := ["math.Float64frombits", "math.Float64bits", "math.archTrunc"], unfollowed := true, recurses := true, apart := false }
def MemoryKeepsSaid : Prop := memoryKeepsRow.holds Try.pinned (OpenSpec.ofChange memoryKeepsSpec)

/-- ITS FALSE NEIGHBOUR: 'it returns false'. Refute it at one input. -/
def memoryKeepsWrong : ChangeSpec := { name := "memoryKeeps", fn := fun _ => fun
  | [d1, d2, d3, d4, d5] => { results := [.lit (.bool false)], args := [d1, d2, d3, d4, d5] }
  | _ => none }
def MemoryKeepsWrongFalsely : Prop := memoryKeepsRow.holds Try.pinned (OpenSpec.ofChange memoryKeepsWrong)

/- THE SECOND FORM. 'bulk': how many values and letters a reading holds, each counted each time it is reached (what is shared counts as often as it is met; a slice's spare places count too). A statement '..UptoSaid' is the law's where the arguments, and the package variables that the reading takes, are together of bulk at most 1048576: NARROWER than '..Said'. Prove '..Said' where nothing that the law and all that it calls make is longer than what came in: it says more and counts as full. Else prove '..UptoSaid'. A law counts once. -/
mutual
def uptoBulk {H : Type} : DataW H → Nat
  | .lit (.string bytes) => bytes.length + 1
  | .lit _ => 1
  | .nil => 1
  | .ptr d => uptoBulk d + 1
  | .slice elems spare => uptoBulkAll elems + uptoBulkAll spare + 1
  | .agg parts => uptoBulkAll parts + 1
  | .iface _ d => uptoBulk d + 1
  | .map entries => uptoBulkEntries entries + 1
  | .held _ => 1
def uptoBulkAll {H : Type} : List (DataW H) → Nat
  | [] => 0
  | d :: r => uptoBulk d + uptoBulkAll r
def uptoBulkEntries {H : Type} : List (Lit × DataW H) → Nat
  | [] => 0
  | x :: r => uptoBulkEntry x + uptoBulkEntries r
def uptoBulkEntry {H : Type} : Lit × DataW H → Nat
  | (.string bytes, d) => bytes.length + uptoBulk d + 1
  | (_, d) => uptoBulk d + 1
 end
def uptoSmall : (H : Type) → List (DataW H) → Bool := fun _ ds => decide (uptoBulkAll ds ≤ 1048576)
def OpenSpec.upto (s : _root_.Go.ChangeSpec) : _root_.Go.OpenSpec := { _root_.Go.OpenSpec.ofChange s with cond := some uptoSmall }

/-- 'alembiclaw02.MemoryPlays', WHERE WHAT IT READS IS OF BULK AT MOST 1048576: true; the input reads as it did. -/
def memoryPlaysUptoRow : OpenClaim := { program := "ytddipbpllogbaaa", sum := "76efc273a34b059122ecd3ead4a82aeaacda54ac24cdea64e007ccb672a10fd7", func := "alembic/alembiclaw02.MemoryPlays", spec := "memoryPlays", inPlace := ["math.Float64frombits", "math.Float64bits"], apart := false, narrowed := true }
def MemoryPlaysUptoSaid : Prop := memoryPlaysUptoRow.holds Try.pinned (OpenSpec.upto memoryPlaysSpec)

/-- 'alembiclaw02.MemoryEnds', WHERE WHAT IT READS IS OF BULK AT MOST 1048576: true; the input reads as it did. -/
def memoryEndsUptoRow : OpenClaim := { program := "ytddipbpllogbaaa", sum := "76efc273a34b059122ecd3ead4a82aeaacda54ac24cdea64e007ccb672a10fd7", func := "alembic/alembiclaw02.MemoryEnds", spec := "memoryEnds", inPlace := ["math.Float64frombits", "math.Float64bits"], apart := false, narrowed := true }
def MemoryEndsUptoSaid : Prop := memoryEndsUptoRow.holds Try.pinned (OpenSpec.upto memoryEndsSpec)

/-- 'alembiclaw02.MemoryPieces', WHERE WHAT IT READS IS OF BULK AT MOST 1048576: true; the input reads as it did. -/
def memoryPiecesUptoRow : OpenClaim := { program := "ytddipbpllogbaaa", sum := "76efc273a34b059122ecd3ead4a82aeaacda54ac24cdea64e007ccb672a10fd7", func := "alembic/alembiclaw02.MemoryPieces", spec := "memoryPieces", inPlace := ["math.Float64frombits", "math.Float64bits"], apart := false, narrowed := true }
def MemoryPiecesUptoSaid : Prop := memoryPiecesUptoRow.holds Try.pinned (OpenSpec.upto memoryPiecesSpec)

/-- 'alembiclaw02.MemoryKeeps', WHERE WHAT IT READS IS OF BULK AT MOST 1048576: true; the input reads as it did. -/
def memoryKeepsUptoRow : OpenClaim := { program := "ytddipbpllogbaaa", sum := "76efc273a34b059122ecd3ead4a82aeaacda54ac24cdea64e007ccb672a10fd7", func := "alembic/alembiclaw02.MemoryKeeps", spec := "memoryKeeps", inPlace := ["math.Float64frombits", "math.Float64bits", "math.archTrunc"], unfollowed := true, recurses := true, apart := false, narrowed := true }
def MemoryKeepsUptoSaid : Prop := memoryKeepsUptoRow.holds Try.pinned (OpenSpec.upto memoryKeepsSpec)

end Rows
end Go.Proofs.Ytddipbpllogbaaa
