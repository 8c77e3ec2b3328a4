/-
  DERIVED. GIVEN WITH THE SEED: THE CARDS: each row of YtcobmefgefkdmaaGreatDoorRows.lean that lists a variable, with what it lists TIED to the program's text (the seventh form; the later family's looks); each row that meets fmt, with fmt's text TOLD by the authors' own Lean function (tested against real Go, not proved from fmt's source: count such statements apart). THE CARD IS WHAT COUNTS. Prove the row's statement (the work); the ties are given (YtcobmefgefkdmaaGreatDoorTie.lean); close each card by the builder's one call (the guide's Derived/Test/ToyasCard.lean, 'card_holds'). Laid BY PROGRAM, IN A SANDBOX (cutbox-door.mjs). By AI agents, Wed Nov 11 2026. No macro, syntax, notation, axiom, sorry.
-/
import Derived.Test.YtcobmefgefkdmaaGreatDoorRows
import GoSem.ClaimSeven
namespace Go.Proofs.YtcobmefgefkdmaaGreatDoor
namespace Rows

/-- THE TIED CARD OF 'quashlaw17.BankNames'. -/
def bankNamesCard : Claim7 := { stood := { row := bankNamesRow, standIns := [], harness := (true, "daa485b64de11c6040364f00818903ef38ce93caf44eea367fcbb46b906a3513"), looks := true }, kinds := [], alts := [], laidByText := true, laidKinds := [.data, .data, .data, .data, .sentinel, .sentinel, .pinned], laidTests := true, laidLooks := .later }
def BankNamesCardSaid : Prop := Claim7.holds Tryz.pinned (.plain (OpenSpec.ofChange bankNamesSpec)) bankNamesCard

/-- THE TIED CARD OF 'quashlaw17.BankDoes'. -/
def bankDoesCard : Claim7 := { stood := { row := bankDoesRow, standIns := [], harness := (true, "daa485b64de11c6040364f00818903ef38ce93caf44eea367fcbb46b906a3513"), looks := true }, kinds := [], alts := [], laidByText := true, laidKinds := [.data, .data, .data, .data, .sentinel, .sentinel, .pinned], laidTests := true, laidLooks := .later }
def BankDoesCardSaid : Prop := Claim7.holds Tryz.pinned (.plain (OpenSpec.ofChange bankDoesSpec)) bankDoesCard

/-- THE TIED CARD OF 'quashlaw17.BankSums'. -/
def bankSumsCard : Claim7 := { stood := { row := bankSumsRow, standIns := [], harness := (true, "daa485b64de11c6040364f00818903ef38ce93caf44eea367fcbb46b906a3513"), looks := true }, kinds := [], alts := [], laidByText := true, laidKinds := [.data, .data, .data, .data, .sentinel, .sentinel, .pinned], laidTests := true, laidLooks := .later }
def BankSumsCardSaid : Prop := Claim7.holds Tryz.pinned (.plain (OpenSpec.ofChange bankSumsSpec)) bankSumsCard

/-- THE TIED CARD OF 'quashlaw17.BankRooms'. -/
def bankRoomsCard : Claim7 := { stood := { row := bankRoomsRow, standIns := [], harness := (true, "daa485b64de11c6040364f00818903ef38ce93caf44eea367fcbb46b906a3513"), looks := true }, kinds := [], alts := [], laidByText := true, laidKinds := [.data, .data, .data, .data, .sentinel, .sentinel, .pinned], laidTests := true, laidLooks := .later }
def BankRoomsCardSaid : Prop := Claim7.holds Tryz.pinned (.plain (OpenSpec.ofChange bankRoomsSpec)) bankRoomsCard

/-- THE TIED CARD OF 'quashlaw17.BankCodes'. -/
def bankCodesCard : Claim7 := { stood := { row := bankCodesRow, standIns := [], harness := (true, "daa485b64de11c6040364f00818903ef38ce93caf44eea367fcbb46b906a3513"), looks := true }, kinds := [], alts := [], laidByText := true, laidKinds := [.data, .data, .data, .data, .sentinel, .sentinel, .pinned], laidTests := true, laidLooks := .later }
def BankCodesCardSaid : Prop := Claim7.holds Tryz.pinned (.plain (OpenSpec.ofChange bankCodesSpec)) bankCodesCard

/-- THE SECOND FORM's CARD OF 'quashlaw17.BankNames'. -/
def bankNamesUptoCard : Claim7 := { stood := { row := bankNamesUptoRow, standIns := [], harness := (true, "daa485b64de11c6040364f00818903ef38ce93caf44eea367fcbb46b906a3513"), looks := true }, kinds := [], alts := [], laidByText := true, laidKinds := [.data, .data, .data, .data, .sentinel, .sentinel, .pinned], laidTests := true, laidLooks := .later }
def BankNamesUptoCardSaid : Prop := Claim7.holds Tryz.pinned (.plain (OpenSpec.upto bankNamesSpec)) bankNamesUptoCard

/-- THE SECOND FORM's CARD OF 'quashlaw17.BankDoes'. -/
def bankDoesUptoCard : Claim7 := { stood := { row := bankDoesUptoRow, standIns := [], harness := (true, "daa485b64de11c6040364f00818903ef38ce93caf44eea367fcbb46b906a3513"), looks := true }, kinds := [], alts := [], laidByText := true, laidKinds := [.data, .data, .data, .data, .sentinel, .sentinel, .pinned], laidTests := true, laidLooks := .later }
def BankDoesUptoCardSaid : Prop := Claim7.holds Tryz.pinned (.plain (OpenSpec.upto bankDoesSpec)) bankDoesUptoCard

/-- THE SECOND FORM's CARD OF 'quashlaw17.BankSums'. -/
def bankSumsUptoCard : Claim7 := { stood := { row := bankSumsUptoRow, standIns := [], harness := (true, "daa485b64de11c6040364f00818903ef38ce93caf44eea367fcbb46b906a3513"), looks := true }, kinds := [], alts := [], laidByText := true, laidKinds := [.data, .data, .data, .data, .sentinel, .sentinel, .pinned], laidTests := true, laidLooks := .later }
def BankSumsUptoCardSaid : Prop := Claim7.holds Tryz.pinned (.plain (OpenSpec.upto bankSumsSpec)) bankSumsUptoCard

/-- THE SECOND FORM's CARD OF 'quashlaw17.BankRooms'. -/
def bankRoomsUptoCard : Claim7 := { stood := { row := bankRoomsUptoRow, standIns := [], harness := (true, "daa485b64de11c6040364f00818903ef38ce93caf44eea367fcbb46b906a3513"), looks := true }, kinds := [], alts := [], laidByText := true, laidKinds := [.data, .data, .data, .data, .sentinel, .sentinel, .pinned], laidTests := true, laidLooks := .later }
def BankRoomsUptoCardSaid : Prop := Claim7.holds Tryz.pinned (.plain (OpenSpec.upto bankRoomsSpec)) bankRoomsUptoCard

/-- THE SECOND FORM's CARD OF 'quashlaw17.BankCodes'. -/
def bankCodesUptoCard : Claim7 := { stood := { row := bankCodesUptoRow, standIns := [], harness := (true, "daa485b64de11c6040364f00818903ef38ce93caf44eea367fcbb46b906a3513"), looks := true }, kinds := [], alts := [], laidByText := true, laidKinds := [.data, .data, .data, .data, .sentinel, .sentinel, .pinned], laidTests := true, laidLooks := .later }
def BankCodesUptoCardSaid : Prop := Claim7.holds Tryz.pinned (.plain (OpenSpec.upto bankCodesSpec)) bankCodesUptoCard
end Rows
end Go.Proofs.YtcobmefgefkdmaaGreatDoor
