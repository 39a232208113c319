/-
  DERIVED. GIVEN WITH THE SEED: THE CARDS: each row of YteplbbjmbhgllaaGreatDoorRows.lean that lists a variable, with what it lists TIED to the program's text (the seventh form; the later family's looks); each row that meets fmt, with fmt's text TOLD by the authors' own Lean function (tested against real Go, not proved from fmt's source: count such statements apart). THE CARD IS WHAT COUNTS. Prove the row's statement (the work); the ties are given (YteplbbjmbhgllaaGreatDoorTie.lean); close each card by the builder's one call (the guide's Derived/Test/ToyasCard.lean, 'card_holds'). Laid BY PROGRAM, IN A SANDBOX (cutbox-door.mjs). By AI agents, Wed Nov 11 2026. No macro, syntax, notation, axiom, sorry.
-/
import Derived.Test.YteplbbjmbhgllaaGreatDoorRows
import GoSem.ClaimSeven
namespace Go.Proofs.YteplbbjmbhgllaaGreatDoor
namespace Rows

/-- THE TIED CARD OF 'alembiclaw04.LexPlays'. -/
def lexPlaysCard : Claim7 := { stood := { row := lexPlaysRow, standIns := [], harness := (true, "f6ffa5910c6d29c629fd2f6073e276f94114b4c7baa017cfa16e444231732f29"), looks := true }, kinds := [], alts := [], laidByText := true, laidKinds := [.data, .data, .data, .data, .data, .data, .data, .sentinel, .sentinel, .pinned, .pinned], laidTests := true, laidLooks := .later }
def LexPlaysCardSaid : Prop := Claim7.holds Tryz.pinned (.plain (OpenSpec.ofChange lexPlaysSpec)) lexPlaysCard

/-- THE TIED CARD OF 'alembiclaw04.LexCovers'. -/
def lexCoversCard : Claim7 := { stood := { row := lexCoversRow, standIns := [], harness := (true, "f6ffa5910c6d29c629fd2f6073e276f94114b4c7baa017cfa16e444231732f29"), looks := true }, kinds := [], alts := [], laidByText := true, laidKinds := [.data, .data, .data, .data, .data, .data, .data, .sentinel, .sentinel, .pinned, .pinned], laidTests := true, laidLooks := .later }
def LexCoversCardSaid : Prop := Claim7.holds Tryz.pinned (.plain (OpenSpec.ofChange lexCoversSpec)) lexCoversCard

/-- THE TIED CARD OF 'alembiclaw04.LexNumbers'. -/
def lexNumbersCard : Claim7 := { stood := { row := lexNumbersRow, standIns := [], harness := (true, "f6ffa5910c6d29c629fd2f6073e276f94114b4c7baa017cfa16e444231732f29"), looks := true }, kinds := [], alts := [], laidByText := true, laidKinds := [.data, .data, .data, .data, .data, .data, .data, .sentinel, .sentinel, .pinned, .pinned], laidTests := true, laidLooks := .later }
def LexNumbersCardSaid : Prop := Claim7.holds Tryz.pinned (.plain (OpenSpec.ofChange lexNumbersSpec)) lexNumbersCard

/-- THE TIED CARD OF 'alembiclaw04.LexAhead'. -/
def lexAheadCard : Claim7 := { stood := { row := lexAheadRow, standIns := [], harness := (true, "f6ffa5910c6d29c629fd2f6073e276f94114b4c7baa017cfa16e444231732f29"), looks := true }, kinds := [], alts := [], laidByText := true, laidKinds := [.data, .data, .data, .data, .data, .data, .data, .sentinel, .sentinel, .pinned, .pinned], laidTests := true, laidLooks := .later }
def LexAheadCardSaid : Prop := Claim7.holds Tryz.pinned (.plain (OpenSpec.ofChange lexAheadSpec)) lexAheadCard

/-- THE SECOND FORM's CARD OF 'alembiclaw04.LexPlays'. -/
def lexPlaysUptoCard : Claim7 := { stood := { row := lexPlaysUptoRow, standIns := [], harness := (true, "f6ffa5910c6d29c629fd2f6073e276f94114b4c7baa017cfa16e444231732f29"), looks := true }, kinds := [], alts := [], laidByText := true, laidKinds := [.data, .data, .data, .data, .data, .data, .data, .sentinel, .sentinel, .pinned, .pinned], laidTests := true, laidLooks := .later }
def LexPlaysUptoCardSaid : Prop := Claim7.holds Tryz.pinned (.plain (OpenSpec.upto lexPlaysSpec)) lexPlaysUptoCard

/-- THE SECOND FORM's CARD OF 'alembiclaw04.LexCovers'. -/
def lexCoversUptoCard : Claim7 := { stood := { row := lexCoversUptoRow, standIns := [], harness := (true, "f6ffa5910c6d29c629fd2f6073e276f94114b4c7baa017cfa16e444231732f29"), looks := true }, kinds := [], alts := [], laidByText := true, laidKinds := [.data, .data, .data, .data, .data, .data, .data, .sentinel, .sentinel, .pinned, .pinned], laidTests := true, laidLooks := .later }
def LexCoversUptoCardSaid : Prop := Claim7.holds Tryz.pinned (.plain (OpenSpec.upto lexCoversSpec)) lexCoversUptoCard

/-- THE SECOND FORM's CARD OF 'alembiclaw04.LexNumbers'. -/
def lexNumbersUptoCard : Claim7 := { stood := { row := lexNumbersUptoRow, standIns := [], harness := (true, "f6ffa5910c6d29c629fd2f6073e276f94114b4c7baa017cfa16e444231732f29"), looks := true }, kinds := [], alts := [], laidByText := true, laidKinds := [.data, .data, .data, .data, .data, .data, .data, .sentinel, .sentinel, .pinned, .pinned], laidTests := true, laidLooks := .later }
def LexNumbersUptoCardSaid : Prop := Claim7.holds Tryz.pinned (.plain (OpenSpec.upto lexNumbersSpec)) lexNumbersUptoCard

/-- THE SECOND FORM's CARD OF 'alembiclaw04.LexAhead'. -/
def lexAheadUptoCard : Claim7 := { stood := { row := lexAheadUptoRow, standIns := [], harness := (true, "f6ffa5910c6d29c629fd2f6073e276f94114b4c7baa017cfa16e444231732f29"), looks := true }, kinds := [], alts := [], laidByText := true, laidKinds := [.data, .data, .data, .data, .data, .data, .data, .sentinel, .sentinel, .pinned, .pinned], laidTests := true, laidLooks := .later }
def LexAheadUptoCardSaid : Prop := Claim7.holds Tryz.pinned (.plain (OpenSpec.upto lexAheadSpec)) lexAheadUptoCard
end Rows
end Go.Proofs.YteplbbjmbhgllaaGreatDoor
