/-
  NARROWER THAN 'FOR EVERY INPUT', by the rows' own cells (each row's printed sentence says how): CtypeLays: laid · CtypeOne: laid · CtypeTwo: laid · CtypeMeets: laid · CtypeCommon: laid · CtypeTurns: laid.
  DERIVED. THE GIVEN ROWS OF THIS SEAT. 6 by the template 'for every input the law returns true; each argument reads behind the call as it read before'; 0 by the template 'total and deterministic' (their statements: YteeojgepgjndgaaDoorTotals.lean).
  GIVEN WITH THE SEED: the statements are not yours to turn. If you find one false, say at which input.
  Laid BY PROGRAM, IN A SANDBOX (cutbox-rows.mjs): the forced cells as the released guide's own fill.sh prints them over the translation 9b44d5c05580f422… (all of the seat's roots in one cut). By AI agents, Wed Nov 11 2026. No macro, syntax, notation, axiom, sorry.
-/
import Derived.Test.YteeojgepgjndgaaDoorChecked
import GoSem.Claim
import GoSem.ClaimJoined
import GoSem.ClaimMapViews
import Derived.JoinedTies
import Derived.KernelRfl
namespace Go.Proofs.YteeojgepgjndgaaDoor
/- THE CELL 'sum', in the pinned program and in every row, IS THE sha256 OF THE DUMP (.gsa) THAT YteeojgepgjndgaaDoorProg.lean LOADS. Nothing in Lean hashes anything: it is a label: what it is worth is what the hold of that sum in a sandbox is worth. -/
noncomputable def Tryd.pinned : Pinned := { name := "yteeojgepgjndgaadoor", sum := "9b44d5c05580f4222a2a0baf4976d0fb158f0a37337d50b5dd0ce0e0d420eeeb", checked := Tryd.checked }
namespace Rows
def none {H : Type} : Left H := { results := [], args := [] }

/- WHAT THE LISTED PACKAGE-LEVEL VARIABLES READ AS WHEN THE CALL BEGINS. Each datum BY PROGRAM (the guide's laid-datum.mjs) off the statement by which the dump's own 'gosem.cut.vars' lays the variable. In a bare row this is a premise. The card (YteeojgepgjndgaaDoorCards.lean) ties it to the program's text. -/
def laid_math_bits_deBruijn32tab {H : Type} : DataW H := .agg [.lit (.int .u8 0), .lit (.int .u8 1), .lit (.int .u8 28), .lit (.int .u8 2), .lit (.int .u8 29), .lit (.int .u8 14), .lit (.int .u8 24), .lit (.int .u8 3), .lit (.int .u8 30), .lit (.int .u8 22), .lit (.int .u8 20), .lit (.int .u8 15), .lit (.int .u8 25), .lit (.int .u8 17), .lit (.int .u8 4), .lit (.int .u8 8), .lit (.int .u8 31), .lit (.int .u8 27), .lit (.int .u8 13), .lit (.int .u8 23), .lit (.int .u8 21), .lit (.int .u8 19), .lit (.int .u8 16), .lit (.int .u8 7), .lit (.int .u8 26), .lit (.int .u8 12), .lit (.int .u8 18), .lit (.int .u8 6), .lit (.int .u8 11), .lit (.int .u8 5), .lit (.int .u8 10), .lit (.int .u8 9)]
def laid_math_bits_deBruijn64tab {H : Type} : DataW H := .agg [.lit (.int .u8 0), .lit (.int .u8 1), .lit (.int .u8 56), .lit (.int .u8 2), .lit (.int .u8 57), .lit (.int .u8 49), .lit (.int .u8 28), .lit (.int .u8 3), .lit (.int .u8 61), .lit (.int .u8 58), .lit (.int .u8 42), .lit (.int .u8 50), .lit (.int .u8 38), .lit (.int .u8 29), .lit (.int .u8 17), .lit (.int .u8 4), .lit (.int .u8 62), .lit (.int .u8 47), .lit (.int .u8 59), .lit (.int .u8 36), .lit (.int .u8 45), .lit (.int .u8 43), .lit (.int .u8 51), .lit (.int .u8 22), .lit (.int .u8 53), .lit (.int .u8 39), .lit (.int .u8 33), .lit (.int .u8 30), .lit (.int .u8 24), .lit (.int .u8 18), .lit (.int .u8 12), .lit (.int .u8 5), .lit (.int .u8 63), .lit (.int .u8 55), .lit (.int .u8 48), .lit (.int .u8 27), .lit (.int .u8 60), .lit (.int .u8 41), .lit (.int .u8 37), .lit (.int .u8 16), .lit (.int .u8 46), .lit (.int .u8 35), .lit (.int .u8 44), .lit (.int .u8 21), .lit (.int .u8 52), .lit (.int .u8 32), .lit (.int .u8 23), .lit (.int .u8 11), .lit (.int .u8 54), .lit (.int .u8 26), .lit (.int .u8 40), .lit (.int .u8 15), .lit (.int .u8 34), .lit (.int .u8 20), .lit (.int .u8 31), .lit (.int .u8 10), .lit (.int .u8 25), .lit (.int .u8 14), .lit (.int .u8 19), .lit (.int .u8 9), .lit (.int .u8 13), .lit (.int .u8 8), .lit (.int .u8 7), .lit (.int .u8 6)]
def laid_internal_strconv_uint64pow10 {H : Type} : DataW H := .agg [.lit (.int .u64 1), .lit (.int .u64 10), .lit (.int .u64 100), .lit (.int .u64 1000), .lit (.int .u64 10000), .lit (.int .u64 100000), .lit (.int .u64 1000000), .lit (.int .u64 10000000), .lit (.int .u64 100000000), .lit (.int .u64 1000000000), .lit (.int .u64 10000000000), .lit (.int .u64 100000000000), .lit (.int .u64 1000000000000), .lit (.int .u64 10000000000000), .lit (.int .u64 100000000000000), .lit (.int .u64 1000000000000000), .lit (.int .u64 10000000000000000), .lit (.int .u64 100000000000000000), .lit (.int .u64 1000000000000000000), .lit (.int .u64 10000000000000000000)]

/-- 'alembiclaw05.CtypeLays': WHATEVER THE INPUT: true; the input reads as it did. -/
def ctypeLaysSpec : ChangeSpec := { name := "ctypeLays", fn := fun _ => fun
  | [d1, d2, d3] => { results := [.lit (.bool true)], args := [d1, d2, d3] }
  | _ => none }
def ctypeLaysRow : OpenClaim := { program := "yteeojgepgjndgaadoor", sum := "9b44d5c05580f4222a2a0baf4976d0fb158f0a37337d50b5dd0ce0e0d420eeeb", func := "alembic/alembiclaw05.CtypeLays", spec := "ctypeLays", inPlace := ["internal/abi.NoEscape", "internal/bytealg.MakeNoZero"], unfollowed := true, recurses := true, named := ["internal/strconv.uint64pow10", "math/bits.deBruijn32tab", "math/bits.deBruijn64tab"], apart := false, laid := [("math/bits.deBruijn32tab", laid_math_bits_deBruijn32tab), ("math/bits.deBruijn64tab", laid_math_bits_deBruijn64tab), ("internal/strconv.uint64pow10", laid_internal_strconv_uint64pow10)] }
def CtypeLaysSaid : Prop := ctypeLaysRow.holds Tryd.pinned (OpenSpec.ofChange ctypeLaysSpec)

/-- ITS FALSE NEIGHBOUR: 'it returns false'. Refute it at one input. -/
def ctypeLaysWrong : ChangeSpec := { name := "ctypeLays", fn := fun _ => fun
  | [d1, d2, d3] => { results := [.lit (.bool false)], args := [d1, d2, d3] }
  | _ => none }
def CtypeLaysWrongFalsely : Prop := ctypeLaysRow.holds Tryd.pinned (OpenSpec.ofChange ctypeLaysWrong)

/-- 'alembiclaw05.CtypeOne': WHATEVER THE INPUT: true; the input reads as it did. -/
def ctypeOneSpec : ChangeSpec := { name := "ctypeOne", fn := fun _ => fun
  | [d1, d2] => { results := [.lit (.bool true)], args := [d1, d2] }
  | _ => none }
def ctypeOneRow : OpenClaim := { program := "yteeojgepgjndgaadoor", sum := "9b44d5c05580f4222a2a0baf4976d0fb158f0a37337d50b5dd0ce0e0d420eeeb", func := "alembic/alembiclaw05.CtypeOne", spec := "ctypeOne", inPlace := ["internal/abi.NoEscape", "internal/bytealg.MakeNoZero"], unfollowed := true, recurses := true, named := ["internal/strconv.uint64pow10", "math/bits.deBruijn32tab", "math/bits.deBruijn64tab"], apart := false, laid := [("math/bits.deBruijn32tab", laid_math_bits_deBruijn32tab), ("math/bits.deBruijn64tab", laid_math_bits_deBruijn64tab), ("internal/strconv.uint64pow10", laid_internal_strconv_uint64pow10)] }
def CtypeOneSaid : Prop := ctypeOneRow.holds Tryd.pinned (OpenSpec.ofChange ctypeOneSpec)

/-- ITS FALSE NEIGHBOUR: 'it returns false'. Refute it at one input. -/
def ctypeOneWrong : ChangeSpec := { name := "ctypeOne", fn := fun _ => fun
  | [d1, d2] => { results := [.lit (.bool false)], args := [d1, d2] }
  | _ => none }
def CtypeOneWrongFalsely : Prop := ctypeOneRow.holds Tryd.pinned (OpenSpec.ofChange ctypeOneWrong)

/-- 'alembiclaw05.CtypeTwo': WHATEVER THE INPUT: true; the input reads as it did. -/
def ctypeTwoSpec : ChangeSpec := { name := "ctypeTwo", fn := fun _ => fun
  | [d1, d2] => { results := [.lit (.bool true)], args := [d1, d2] }
  | _ => none }
def ctypeTwoRow : OpenClaim := { program := "yteeojgepgjndgaadoor", sum := "9b44d5c05580f4222a2a0baf4976d0fb158f0a37337d50b5dd0ce0e0d420eeeb", func := "alembic/alembiclaw05.CtypeTwo", spec := "ctypeTwo", inPlace := ["internal/abi.NoEscape", "internal/bytealg.MakeNoZero"], unfollowed := true, recurses := true, named := ["internal/strconv.uint64pow10", "math/bits.deBruijn32tab", "math/bits.deBruijn64tab"], apart := false, laid := [("math/bits.deBruijn32tab", laid_math_bits_deBruijn32tab), ("math/bits.deBruijn64tab", laid_math_bits_deBruijn64tab), ("internal/strconv.uint64pow10", laid_internal_strconv_uint64pow10)] }
def CtypeTwoSaid : Prop := ctypeTwoRow.holds Tryd.pinned (OpenSpec.ofChange ctypeTwoSpec)

/-- ITS FALSE NEIGHBOUR: 'it returns false'. Refute it at one input. -/
def ctypeTwoWrong : ChangeSpec := { name := "ctypeTwo", fn := fun _ => fun
  | [d1, d2] => { results := [.lit (.bool false)], args := [d1, d2] }
  | _ => none }
def CtypeTwoWrongFalsely : Prop := ctypeTwoRow.holds Tryd.pinned (OpenSpec.ofChange ctypeTwoWrong)

/-- 'alembiclaw05.CtypeMeets': WHATEVER THE INPUT: true; the input reads as it did. -/
def ctypeMeetsSpec : ChangeSpec := { name := "ctypeMeets", fn := fun _ => fun
  | [d] => { results := [.lit (.bool true)], args := [d] }
  | _ => none }
def ctypeMeetsRow : OpenClaim := { program := "yteeojgepgjndgaadoor", sum := "9b44d5c05580f4222a2a0baf4976d0fb158f0a37337d50b5dd0ce0e0d420eeeb", func := "alembic/alembiclaw05.CtypeMeets", spec := "ctypeMeets", inPlace := ["internal/abi.NoEscape", "internal/bytealg.MakeNoZero"], unfollowed := true, recurses := true, named := ["internal/strconv.uint64pow10", "math/bits.deBruijn32tab", "math/bits.deBruijn64tab"], apart := false, laid := [("math/bits.deBruijn32tab", laid_math_bits_deBruijn32tab), ("math/bits.deBruijn64tab", laid_math_bits_deBruijn64tab), ("internal/strconv.uint64pow10", laid_internal_strconv_uint64pow10)] }
def CtypeMeetsSaid : Prop := ctypeMeetsRow.holds Tryd.pinned (OpenSpec.ofChange ctypeMeetsSpec)

/-- ITS FALSE NEIGHBOUR: 'it returns false'. Refute it at one input. -/
def ctypeMeetsWrong : ChangeSpec := { name := "ctypeMeets", fn := fun _ => fun
  | [d] => { results := [.lit (.bool false)], args := [d] }
  | _ => none }
def CtypeMeetsWrongFalsely : Prop := ctypeMeetsRow.holds Tryd.pinned (OpenSpec.ofChange ctypeMeetsWrong)

/-- 'alembiclaw05.CtypeCommon': WHATEVER THE INPUT: true; the input reads as it did. -/
def ctypeCommonSpec : ChangeSpec := { name := "ctypeCommon", fn := fun _ => fun
  | [d1, d2] => { results := [.lit (.bool true)], args := [d1, d2] }
  | _ => none }
def ctypeCommonRow : OpenClaim := { program := "yteeojgepgjndgaadoor", sum := "9b44d5c05580f4222a2a0baf4976d0fb158f0a37337d50b5dd0ce0e0d420eeeb", func := "alembic/alembiclaw05.CtypeCommon", spec := "ctypeCommon", inPlace := ["internal/abi.NoEscape", "internal/bytealg.MakeNoZero"], unfollowed := true, recurses := true, named := ["internal/strconv.uint64pow10", "math/bits.deBruijn32tab", "math/bits.deBruijn64tab"], apart := false, laid := [("math/bits.deBruijn32tab", laid_math_bits_deBruijn32tab), ("math/bits.deBruijn64tab", laid_math_bits_deBruijn64tab), ("internal/strconv.uint64pow10", laid_internal_strconv_uint64pow10)] }
def CtypeCommonSaid : Prop := ctypeCommonRow.holds Tryd.pinned (OpenSpec.ofChange ctypeCommonSpec)

/-- ITS FALSE NEIGHBOUR: 'it returns false'. Refute it at one input. -/
def ctypeCommonWrong : ChangeSpec := { name := "ctypeCommon", fn := fun _ => fun
  | [d1, d2] => { results := [.lit (.bool false)], args := [d1, d2] }
  | _ => none }
def CtypeCommonWrongFalsely : Prop := ctypeCommonRow.holds Tryd.pinned (OpenSpec.ofChange ctypeCommonWrong)

/-- 'alembiclaw05.CtypeTurns': WHATEVER THE INPUT: true; the input reads as it did. -/
def ctypeTurnsSpec : ChangeSpec := { name := "ctypeTurns", fn := fun _ => fun
  | [d1, d2, d3] => { results := [.lit (.bool true)], args := [d1, d2, d3] }
  | _ => none }
def ctypeTurnsRow : OpenClaim := { program := "yteeojgepgjndgaadoor", sum := "9b44d5c05580f4222a2a0baf4976d0fb158f0a37337d50b5dd0ce0e0d420eeeb", func := "alembic/alembiclaw05.CtypeTurns", spec := "ctypeTurns", inPlace := ["internal/abi.NoEscape", "internal/bytealg.MakeNoZero", "math.Float64frombits", "math.Float64bits", "math.archTrunc"], unfollowed := true, recurses := true, named := ["internal/strconv.uint64pow10", "math/bits.deBruijn32tab", "math/bits.deBruijn64tab"], apart := false, laid := [("math/bits.deBruijn32tab", laid_math_bits_deBruijn32tab), ("math/bits.deBruijn64tab", laid_math_bits_deBruijn64tab), ("internal/strconv.uint64pow10", laid_internal_strconv_uint64pow10)] }
def CtypeTurnsSaid : Prop := ctypeTurnsRow.holds Tryd.pinned (OpenSpec.ofChange ctypeTurnsSpec)

/-- ITS FALSE NEIGHBOUR: 'it returns false'. Refute it at one input. -/
def ctypeTurnsWrong : ChangeSpec := { name := "ctypeTurns", fn := fun _ => fun
  | [d1, d2, d3] => { results := [.lit (.bool false)], args := [d1, d2, d3] }
  | _ => none }
def CtypeTurnsWrongFalsely : Prop := ctypeTurnsRow.holds Tryd.pinned (OpenSpec.ofChange ctypeTurnsWrong)

/- THE SECOND FORM. 'bulk': how many values and letters a reading holds, each counted each time it is reached (what is shared counts as often as it is met; a slice's spare places count too). A statement '..UptoSaid' is the law's where the arguments, and the package variables that the reading takes, are together of bulk at most 1048576: NARROWER than '..Said'. Prove '..Said' where nothing that the law and all that it calls make is longer than what came in: it says more and counts as full. Else prove '..UptoSaid'. A law counts once. -/
mutual
def uptoBulk {H : Type} : DataW H → Nat
  | .lit (.string bytes) => bytes.length + 1
  | .lit _ => 1
  | .nil => 1
  | .ptr d => uptoBulk d + 1
  | .slice elems spare => uptoBulkAll elems + uptoBulkAll spare + 1
  | .agg parts => uptoBulkAll parts + 1
  | .iface _ d => uptoBulk d + 1
  | .map entries => uptoBulkEntries entries + 1
  | .held _ => 1
def uptoBulkAll {H : Type} : List (DataW H) → Nat
  | [] => 0
  | d :: r => uptoBulk d + uptoBulkAll r
def uptoBulkEntries {H : Type} : List (Lit × DataW H) → Nat
  | [] => 0
  | x :: r => uptoBulkEntry x + uptoBulkEntries r
def uptoBulkEntry {H : Type} : Lit × DataW H → Nat
  | (.string bytes, d) => bytes.length + uptoBulk d + 1
  | (_, d) => uptoBulk d + 1
 end
def uptoSmall : (H : Type) → List (DataW H) → Bool := fun _ ds => decide (uptoBulkAll ds ≤ 1048576)
def OpenSpec.upto (s : _root_.Go.ChangeSpec) : _root_.Go.OpenSpec := { _root_.Go.OpenSpec.ofChange s with cond := some uptoSmall }

/-- 'alembiclaw05.CtypeLays', WHERE WHAT IT READS IS OF BULK AT MOST 1048576: true; the input reads as it did. -/
def ctypeLaysUptoRow : OpenClaim := { program := "yteeojgepgjndgaadoor", sum := "9b44d5c05580f4222a2a0baf4976d0fb158f0a37337d50b5dd0ce0e0d420eeeb", func := "alembic/alembiclaw05.CtypeLays", spec := "ctypeLays", inPlace := ["internal/abi.NoEscape", "internal/bytealg.MakeNoZero"], unfollowed := true, recurses := true, named := ["internal/strconv.uint64pow10", "math/bits.deBruijn32tab", "math/bits.deBruijn64tab"], apart := false, laid := [("math/bits.deBruijn32tab", laid_math_bits_deBruijn32tab), ("math/bits.deBruijn64tab", laid_math_bits_deBruijn64tab), ("internal/strconv.uint64pow10", laid_internal_strconv_uint64pow10)], narrowed := true }
def CtypeLaysUptoSaid : Prop := ctypeLaysUptoRow.holds Tryd.pinned (OpenSpec.upto ctypeLaysSpec)

/-- 'alembiclaw05.CtypeOne', WHERE WHAT IT READS IS OF BULK AT MOST 1048576: true; the input reads as it did. -/
def ctypeOneUptoRow : OpenClaim := { program := "yteeojgepgjndgaadoor", sum := "9b44d5c05580f4222a2a0baf4976d0fb158f0a37337d50b5dd0ce0e0d420eeeb", func := "alembic/alembiclaw05.CtypeOne", spec := "ctypeOne", inPlace := ["internal/abi.NoEscape", "internal/bytealg.MakeNoZero"], unfollowed := true, recurses := true, named := ["internal/strconv.uint64pow10", "math/bits.deBruijn32tab", "math/bits.deBruijn64tab"], apart := false, laid := [("math/bits.deBruijn32tab", laid_math_bits_deBruijn32tab), ("math/bits.deBruijn64tab", laid_math_bits_deBruijn64tab), ("internal/strconv.uint64pow10", laid_internal_strconv_uint64pow10)], narrowed := true }
def CtypeOneUptoSaid : Prop := ctypeOneUptoRow.holds Tryd.pinned (OpenSpec.upto ctypeOneSpec)

/-- 'alembiclaw05.CtypeTwo', WHERE WHAT IT READS IS OF BULK AT MOST 1048576: true; the input reads as it did. -/
def ctypeTwoUptoRow : OpenClaim := { program := "yteeojgepgjndgaadoor", sum := "9b44d5c05580f4222a2a0baf4976d0fb158f0a37337d50b5dd0ce0e0d420eeeb", func := "alembic/alembiclaw05.CtypeTwo", spec := "ctypeTwo", inPlace := ["internal/abi.NoEscape", "internal/bytealg.MakeNoZero"], unfollowed := true, recurses := true, named := ["internal/strconv.uint64pow10", "math/bits.deBruijn32tab", "math/bits.deBruijn64tab"], apart := false, laid := [("math/bits.deBruijn32tab", laid_math_bits_deBruijn32tab), ("math/bits.deBruijn64tab", laid_math_bits_deBruijn64tab), ("internal/strconv.uint64pow10", laid_internal_strconv_uint64pow10)], narrowed := true }
def CtypeTwoUptoSaid : Prop := ctypeTwoUptoRow.holds Tryd.pinned (OpenSpec.upto ctypeTwoSpec)

/-- 'alembiclaw05.CtypeMeets', WHERE WHAT IT READS IS OF BULK AT MOST 1048576: true; the input reads as it did. -/
def ctypeMeetsUptoRow : OpenClaim := { program := "yteeojgepgjndgaadoor", sum := "9b44d5c05580f4222a2a0baf4976d0fb158f0a37337d50b5dd0ce0e0d420eeeb", func := "alembic/alembiclaw05.CtypeMeets", spec := "ctypeMeets", inPlace := ["internal/abi.NoEscape", "internal/bytealg.MakeNoZero"], unfollowed := true, recurses := true, named := ["internal/strconv.uint64pow10", "math/bits.deBruijn32tab", "math/bits.deBruijn64tab"], apart := false, laid := [("math/bits.deBruijn32tab", laid_math_bits_deBruijn32tab), ("math/bits.deBruijn64tab", laid_math_bits_deBruijn64tab), ("internal/strconv.uint64pow10", laid_internal_strconv_uint64pow10)], narrowed := true }
def CtypeMeetsUptoSaid : Prop := ctypeMeetsUptoRow.holds Tryd.pinned (OpenSpec.upto ctypeMeetsSpec)

/-- 'alembiclaw05.CtypeCommon', WHERE WHAT IT READS IS OF BULK AT MOST 1048576: true; the input reads as it did. -/
def ctypeCommonUptoRow : OpenClaim := { program := "yteeojgepgjndgaadoor", sum := "9b44d5c05580f4222a2a0baf4976d0fb158f0a37337d50b5dd0ce0e0d420eeeb", func := "alembic/alembiclaw05.CtypeCommon", spec := "ctypeCommon", inPlace := ["internal/abi.NoEscape", "internal/bytealg.MakeNoZero"], unfollowed := true, recurses := true, named := ["internal/strconv.uint64pow10", "math/bits.deBruijn32tab", "math/bits.deBruijn64tab"], apart := false, laid := [("math/bits.deBruijn32tab", laid_math_bits_deBruijn32tab), ("math/bits.deBruijn64tab", laid_math_bits_deBruijn64tab), ("internal/strconv.uint64pow10", laid_internal_strconv_uint64pow10)], narrowed := true }
def CtypeCommonUptoSaid : Prop := ctypeCommonUptoRow.holds Tryd.pinned (OpenSpec.upto ctypeCommonSpec)

/-- 'alembiclaw05.CtypeTurns', WHERE WHAT IT READS IS OF BULK AT MOST 1048576: true; the input reads as it did. -/
def ctypeTurnsUptoRow : OpenClaim := { program := "yteeojgepgjndgaadoor", sum := "9b44d5c05580f4222a2a0baf4976d0fb158f0a37337d50b5dd0ce0e0d420eeeb", func := "alembic/alembiclaw05.CtypeTurns", spec := "ctypeTurns", inPlace := ["internal/abi.NoEscape", "internal/bytealg.MakeNoZero", "math.Float64frombits", "math.Float64bits", "math.archTrunc"], unfollowed := true, recurses := true, named := ["internal/strconv.uint64pow10", "math/bits.deBruijn32tab", "math/bits.deBruijn64tab"], apart := false, laid := [("math/bits.deBruijn32tab", laid_math_bits_deBruijn32tab), ("math/bits.deBruijn64tab", laid_math_bits_deBruijn64tab), ("internal/strconv.uint64pow10", laid_internal_strconv_uint64pow10)], narrowed := true }
def CtypeTurnsUptoSaid : Prop := ctypeTurnsUptoRow.holds Tryd.pinned (OpenSpec.upto ctypeTurnsSpec)

end Rows
end Go.Proofs.YteeojgepgjndgaaDoor
