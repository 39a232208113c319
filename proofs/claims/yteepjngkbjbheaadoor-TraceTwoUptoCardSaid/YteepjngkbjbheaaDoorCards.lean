/-
  DERIVED. GIVEN WITH THE SEED: THE CARDS: each row of YteepjngkbjbheaaDoorRows.lean that lists a variable, with what it lists TIED to the program's text (the seventh form; the later family's looks); each row that meets fmt, with fmt's text TOLD by the authors' own Lean function (tested against real Go, not proved from fmt's source: count such statements apart). THE CARD IS WHAT COUNTS. Prove the row's statement (the work); the ties are given (YteepjngkbjbheaaDoorTie.lean); close each card by the builder's one call (the guide's Derived/Test/ToyasCard.lean, 'card_holds'). Laid BY PROGRAM, IN A SANDBOX (cutbox-door.mjs). By AI agents, Wed Nov 11 2026. No macro, syntax, notation, axiom, sorry.
-/
import Derived.Test.YteepjngkbjbheaaDoorRows
import GoSem.ClaimSeven
namespace Go.Proofs.YteepjngkbjbheaaDoor
namespace Rows

/-- THE TIED CARD OF 'alembiclaw03.TracePlays'. -/
def tracePlaysCard : Claim7 := { stood := { row := tracePlaysRow, standIns := [], harness := (true, "2e5b95e1677c43c9dd050ccd7b99f53ef1b665ce99cfcceffdd5a3c16c4ae70c"), looks := false }, kinds := [], alts := [], laidByText := true, laidKinds := [.data, .data, .data], laidTests := true, laidLooks := .later }
def TracePlaysCardSaid : Prop := Claim7.holds Tryd.pinned (.plain (OpenSpec.ofChange tracePlaysSpec)) tracePlaysCard

/-- THE TIED CARD OF 'alembiclaw03.TraceTwo'. -/
def traceTwoCard : Claim7 := { stood := { row := traceTwoRow, standIns := [], harness := (true, "2e5b95e1677c43c9dd050ccd7b99f53ef1b665ce99cfcceffdd5a3c16c4ae70c"), looks := false }, kinds := [], alts := [], laidByText := true, laidKinds := [.data, .data, .data], laidTests := true, laidLooks := .later }
def TraceTwoCardSaid : Prop := Claim7.holds Tryd.pinned (.plain (OpenSpec.ofChange traceTwoSpec)) traceTwoCard

/-- THE TIED CARD OF 'alembiclaw03.TraceOrder'. -/
def traceOrderCard : Claim7 := { stood := { row := traceOrderRow, standIns := [], harness := (true, "2e5b95e1677c43c9dd050ccd7b99f53ef1b665ce99cfcceffdd5a3c16c4ae70c"), looks := false }, kinds := [], alts := [], laidByText := true, laidKinds := [.data, .data, .data], laidTests := true, laidLooks := .later }
def TraceOrderCardSaid : Prop := Claim7.holds Tryd.pinned (.plain (OpenSpec.ofChange traceOrderSpec)) traceOrderCard

/-- THE SECOND FORM's CARD OF 'alembiclaw03.TracePlays'. -/
def tracePlaysUptoCard : Claim7 := { stood := { row := tracePlaysUptoRow, standIns := [], harness := (true, "2e5b95e1677c43c9dd050ccd7b99f53ef1b665ce99cfcceffdd5a3c16c4ae70c"), looks := false }, kinds := [], alts := [], laidByText := true, laidKinds := [.data, .data, .data], laidTests := true, laidLooks := .later }
def TracePlaysUptoCardSaid : Prop := Claim7.holds Tryd.pinned (.plain (OpenSpec.upto tracePlaysSpec)) tracePlaysUptoCard

/-- THE SECOND FORM's CARD OF 'alembiclaw03.TraceTwo'. -/
def traceTwoUptoCard : Claim7 := { stood := { row := traceTwoUptoRow, standIns := [], harness := (true, "2e5b95e1677c43c9dd050ccd7b99f53ef1b665ce99cfcceffdd5a3c16c4ae70c"), looks := false }, kinds := [], alts := [], laidByText := true, laidKinds := [.data, .data, .data], laidTests := true, laidLooks := .later }
def TraceTwoUptoCardSaid : Prop := Claim7.holds Tryd.pinned (.plain (OpenSpec.upto traceTwoSpec)) traceTwoUptoCard

/-- THE SECOND FORM's CARD OF 'alembiclaw03.TraceOrder'. -/
def traceOrderUptoCard : Claim7 := { stood := { row := traceOrderUptoRow, standIns := [], harness := (true, "2e5b95e1677c43c9dd050ccd7b99f53ef1b665ce99cfcceffdd5a3c16c4ae70c"), looks := false }, kinds := [], alts := [], laidByText := true, laidKinds := [.data, .data, .data], laidTests := true, laidLooks := .later }
def TraceOrderUptoCardSaid : Prop := Claim7.holds Tryd.pinned (.plain (OpenSpec.upto traceOrderSpec)) traceOrderUptoCard
end Rows
end Go.Proofs.YteepjngkbjbheaaDoor
