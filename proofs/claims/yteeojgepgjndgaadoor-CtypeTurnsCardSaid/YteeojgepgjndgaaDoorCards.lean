/-
  DERIVED. GIVEN WITH THE SEED: THE CARDS: each row of YteeojgepgjndgaaDoorRows.lean that lists a variable, with what it lists TIED to the program's text (the seventh form; the later family's looks); each row that meets fmt, with fmt's text TOLD by the authors' own Lean function (tested against real Go, not proved from fmt's source: count such statements apart). THE CARD IS WHAT COUNTS. Prove the row's statement (the work); the ties are given (YteeojgepgjndgaaDoorTie.lean); close each card by the builder's one call (the guide's Derived/Test/ToyasCard.lean, 'card_holds'). Laid BY PROGRAM, IN A SANDBOX (cutbox-door.mjs). By AI agents, Wed Nov 11 2026. No macro, syntax, notation, axiom, sorry.
-/
import Derived.Test.YteeojgepgjndgaaDoorRows
import GoSem.ClaimSeven
namespace Go.Proofs.YteeojgepgjndgaaDoor
namespace Rows

/-- THE TIED CARD OF 'alembiclaw05.CtypeLays'. -/
def ctypeLaysCard : Claim7 := { stood := { row := ctypeLaysRow, standIns := [], harness := (true, "a34c576890040ebe1f59b805ac95bff00b3ad34ca40490cc2b5d306c43ae2841"), looks := true }, kinds := [], alts := [], laidByText := true, laidKinds := [.data, .data, .data], laidTests := true, laidLooks := .later }
def CtypeLaysCardSaid : Prop := Claim7.holds Tryd.pinned (.plain (OpenSpec.ofChange ctypeLaysSpec)) ctypeLaysCard

/-- THE TIED CARD OF 'alembiclaw05.CtypeOne'. -/
def ctypeOneCard : Claim7 := { stood := { row := ctypeOneRow, standIns := [], harness := (true, "a34c576890040ebe1f59b805ac95bff00b3ad34ca40490cc2b5d306c43ae2841"), looks := true }, kinds := [], alts := [], laidByText := true, laidKinds := [.data, .data, .data], laidTests := true, laidLooks := .later }
def CtypeOneCardSaid : Prop := Claim7.holds Tryd.pinned (.plain (OpenSpec.ofChange ctypeOneSpec)) ctypeOneCard

/-- THE TIED CARD OF 'alembiclaw05.CtypeTwo'. -/
def ctypeTwoCard : Claim7 := { stood := { row := ctypeTwoRow, standIns := [], harness := (true, "a34c576890040ebe1f59b805ac95bff00b3ad34ca40490cc2b5d306c43ae2841"), looks := true }, kinds := [], alts := [], laidByText := true, laidKinds := [.data, .data, .data], laidTests := true, laidLooks := .later }
def CtypeTwoCardSaid : Prop := Claim7.holds Tryd.pinned (.plain (OpenSpec.ofChange ctypeTwoSpec)) ctypeTwoCard

/-- THE TIED CARD OF 'alembiclaw05.CtypeMeets'. -/
def ctypeMeetsCard : Claim7 := { stood := { row := ctypeMeetsRow, standIns := [], harness := (true, "a34c576890040ebe1f59b805ac95bff00b3ad34ca40490cc2b5d306c43ae2841"), looks := true }, kinds := [], alts := [], laidByText := true, laidKinds := [.data, .data, .data], laidTests := true, laidLooks := .later }
def CtypeMeetsCardSaid : Prop := Claim7.holds Tryd.pinned (.plain (OpenSpec.ofChange ctypeMeetsSpec)) ctypeMeetsCard

/-- THE TIED CARD OF 'alembiclaw05.CtypeCommon'. -/
def ctypeCommonCard : Claim7 := { stood := { row := ctypeCommonRow, standIns := [], harness := (true, "a34c576890040ebe1f59b805ac95bff00b3ad34ca40490cc2b5d306c43ae2841"), looks := true }, kinds := [], alts := [], laidByText := true, laidKinds := [.data, .data, .data], laidTests := true, laidLooks := .later }
def CtypeCommonCardSaid : Prop := Claim7.holds Tryd.pinned (.plain (OpenSpec.ofChange ctypeCommonSpec)) ctypeCommonCard

/-- THE TIED CARD OF 'alembiclaw05.CtypeTurns'. -/
def ctypeTurnsCard : Claim7 := { stood := { row := ctypeTurnsRow, standIns := [], harness := (true, "a34c576890040ebe1f59b805ac95bff00b3ad34ca40490cc2b5d306c43ae2841"), looks := true }, kinds := [], alts := [], laidByText := true, laidKinds := [.data, .data, .data], laidTests := true, laidLooks := .later }
def CtypeTurnsCardSaid : Prop := Claim7.holds Tryd.pinned (.plain (OpenSpec.ofChange ctypeTurnsSpec)) ctypeTurnsCard

/-- THE SECOND FORM's CARD OF 'alembiclaw05.CtypeLays'. -/
def ctypeLaysUptoCard : Claim7 := { stood := { row := ctypeLaysUptoRow, standIns := [], harness := (true, "a34c576890040ebe1f59b805ac95bff00b3ad34ca40490cc2b5d306c43ae2841"), looks := true }, kinds := [], alts := [], laidByText := true, laidKinds := [.data, .data, .data], laidTests := true, laidLooks := .later }
def CtypeLaysUptoCardSaid : Prop := Claim7.holds Tryd.pinned (.plain (OpenSpec.upto ctypeLaysSpec)) ctypeLaysUptoCard

/-- THE SECOND FORM's CARD OF 'alembiclaw05.CtypeOne'. -/
def ctypeOneUptoCard : Claim7 := { stood := { row := ctypeOneUptoRow, standIns := [], harness := (true, "a34c576890040ebe1f59b805ac95bff00b3ad34ca40490cc2b5d306c43ae2841"), looks := true }, kinds := [], alts := [], laidByText := true, laidKinds := [.data, .data, .data], laidTests := true, laidLooks := .later }
def CtypeOneUptoCardSaid : Prop := Claim7.holds Tryd.pinned (.plain (OpenSpec.upto ctypeOneSpec)) ctypeOneUptoCard

/-- THE SECOND FORM's CARD OF 'alembiclaw05.CtypeTwo'. -/
def ctypeTwoUptoCard : Claim7 := { stood := { row := ctypeTwoUptoRow, standIns := [], harness := (true, "a34c576890040ebe1f59b805ac95bff00b3ad34ca40490cc2b5d306c43ae2841"), looks := true }, kinds := [], alts := [], laidByText := true, laidKinds := [.data, .data, .data], laidTests := true, laidLooks := .later }
def CtypeTwoUptoCardSaid : Prop := Claim7.holds Tryd.pinned (.plain (OpenSpec.upto ctypeTwoSpec)) ctypeTwoUptoCard

/-- THE SECOND FORM's CARD OF 'alembiclaw05.CtypeMeets'. -/
def ctypeMeetsUptoCard : Claim7 := { stood := { row := ctypeMeetsUptoRow, standIns := [], harness := (true, "a34c576890040ebe1f59b805ac95bff00b3ad34ca40490cc2b5d306c43ae2841"), looks := true }, kinds := [], alts := [], laidByText := true, laidKinds := [.data, .data, .data], laidTests := true, laidLooks := .later }
def CtypeMeetsUptoCardSaid : Prop := Claim7.holds Tryd.pinned (.plain (OpenSpec.upto ctypeMeetsSpec)) ctypeMeetsUptoCard

/-- THE SECOND FORM's CARD OF 'alembiclaw05.CtypeCommon'. -/
def ctypeCommonUptoCard : Claim7 := { stood := { row := ctypeCommonUptoRow, standIns := [], harness := (true, "a34c576890040ebe1f59b805ac95bff00b3ad34ca40490cc2b5d306c43ae2841"), looks := true }, kinds := [], alts := [], laidByText := true, laidKinds := [.data, .data, .data], laidTests := true, laidLooks := .later }
def CtypeCommonUptoCardSaid : Prop := Claim7.holds Tryd.pinned (.plain (OpenSpec.upto ctypeCommonSpec)) ctypeCommonUptoCard

/-- THE SECOND FORM's CARD OF 'alembiclaw05.CtypeTurns'. -/
def ctypeTurnsUptoCard : Claim7 := { stood := { row := ctypeTurnsUptoRow, standIns := [], harness := (true, "a34c576890040ebe1f59b805ac95bff00b3ad34ca40490cc2b5d306c43ae2841"), looks := true }, kinds := [], alts := [], laidByText := true, laidKinds := [.data, .data, .data], laidTests := true, laidLooks := .later }
def CtypeTurnsUptoCardSaid : Prop := Claim7.holds Tryd.pinned (.plain (OpenSpec.upto ctypeTurnsSpec)) ctypeTurnsUptoCard
end Rows
end Go.Proofs.YteeojgepgjndgaaDoor
