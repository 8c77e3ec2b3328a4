/-
  DERIVED. GIVEN WITH THE SEED: THE CARDS: each row of YtkioddgolmaaeaaGreatDoorRows.lean that lists a variable, with what it lists TIED to the program's text (the seventh form; the later family's looks); each row that meets fmt, with fmt's text TOLD by the authors' own Lean function (tested against real Go, not proved from fmt's source: count such statements apart). THE CARD IS WHAT COUNTS. Prove the row's statement (the work); the ties are given (YtkioddgolmaaeaaGreatDoorTie.lean); close each card by the builder's one call (the guide's Derived/Test/ToyasCard.lean, 'card_holds'). Laid BY PROGRAM, IN A SANDBOX (cutbox-door.mjs). By AI agents, Wed Nov 11 2026. No macro, syntax, notation, axiom, sorry.
-/
import Derived.Test.YtkioddgolmaaeaaGreatDoorRows
import GoSem.ClaimSeven
namespace Go.Proofs.YtkioddgolmaaeaaGreatDoor
namespace Rows

/-- THE TIED CARD OF 'quashlaw18.SetNames'. -/
def setNamesCard : Claim7 := { stood := { row := setNamesRow, standIns := [], harness := (true, "72ddb33be0dccd5e3ee3fce719f99740309803bb96eb570f63e09379d87b9442"), looks := true }, kinds := [], alts := [], laidByText := true, laidKinds := [.data, .data, .data, .data, .sentinel, .sentinel, .pinned], laidTests := true, laidLooks := .later }
def SetNamesCardSaid : Prop := Claim7.holds Tryz.pinned (.plain (OpenSpec.ofChange setNamesSpec)) setNamesCard

/-- THE TIED CARD OF 'quashlaw18.SetReads'. -/
def setReadsCard : Claim7 := { stood := { row := setReadsRow, standIns := [], harness := (true, "72ddb33be0dccd5e3ee3fce719f99740309803bb96eb570f63e09379d87b9442"), looks := true }, kinds := [], alts := [], laidByText := true, laidKinds := [.data, .data, .data, .data, .sentinel, .sentinel, .pinned], laidTests := true, laidLooks := .later }
def SetReadsCardSaid : Prop := Claim7.holds Tryz.pinned (.plain (OpenSpec.ofChange setReadsSpec)) setReadsCard

/-- THE TIED CARD OF 'quashlaw18.SetDoes'. -/
def setDoesCard : Claim7 := { stood := { row := setDoesRow, standIns := [], harness := (true, "72ddb33be0dccd5e3ee3fce719f99740309803bb96eb570f63e09379d87b9442"), looks := true }, kinds := [], alts := [], laidByText := true, laidKinds := [.data, .data, .data, .data, .sentinel, .sentinel, .pinned], laidTests := true, laidLooks := .later }
def SetDoesCardSaid : Prop := Claim7.holds Tryz.pinned (.plain (OpenSpec.ofChange setDoesSpec)) setDoesCard

/-- THE TIED CARD OF 'quashlaw18.SetKeeps'. -/
def setKeepsCard : Claim7 := { stood := { row := setKeepsRow, standIns := [], harness := (true, "72ddb33be0dccd5e3ee3fce719f99740309803bb96eb570f63e09379d87b9442"), looks := true }, kinds := [], alts := [], laidByText := true, laidKinds := [.data, .data, .data, .data, .sentinel, .sentinel, .pinned], laidTests := true, laidLooks := .later }
def SetKeepsCardSaid : Prop := Claim7.holds Tryz.pinned (.plain (OpenSpec.ofChange setKeepsSpec)) setKeepsCard

/-- THE TIED CARD OF 'quashlaw18.SetRooms'. -/
def setRoomsCard : Claim7 := { stood := { row := setRoomsRow, standIns := [], harness := (true, "72ddb33be0dccd5e3ee3fce719f99740309803bb96eb570f63e09379d87b9442"), looks := true }, kinds := [], alts := [], laidByText := true, laidKinds := [.data, .data, .data, .data, .sentinel, .sentinel, .pinned], laidTests := true, laidLooks := .later }
def SetRoomsCardSaid : Prop := Claim7.holds Tryz.pinned (.plain (OpenSpec.ofChange setRoomsSpec)) setRoomsCard

/-- THE TIED CARD OF 'quashlaw18.SetCodes'. -/
def setCodesCard : Claim7 := { stood := { row := setCodesRow, standIns := [], harness := (true, "72ddb33be0dccd5e3ee3fce719f99740309803bb96eb570f63e09379d87b9442"), looks := true }, kinds := [], alts := [], laidByText := true, laidKinds := [.data, .data, .data, .data, .sentinel, .sentinel, .pinned], laidTests := true, laidLooks := .later }
def SetCodesCardSaid : Prop := Claim7.holds Tryz.pinned (.plain (OpenSpec.ofChange setCodesSpec)) setCodesCard

/-- THE SECOND FORM's CARD OF 'quashlaw18.SetNames'. -/
def setNamesUptoCard : Claim7 := { stood := { row := setNamesUptoRow, standIns := [], harness := (true, "72ddb33be0dccd5e3ee3fce719f99740309803bb96eb570f63e09379d87b9442"), looks := true }, kinds := [], alts := [], laidByText := true, laidKinds := [.data, .data, .data, .data, .sentinel, .sentinel, .pinned], laidTests := true, laidLooks := .later }
def SetNamesUptoCardSaid : Prop := Claim7.holds Tryz.pinned (.plain (OpenSpec.upto setNamesSpec)) setNamesUptoCard

/-- THE SECOND FORM's CARD OF 'quashlaw18.SetReads'. -/
def setReadsUptoCard : Claim7 := { stood := { row := setReadsUptoRow, standIns := [], harness := (true, "72ddb33be0dccd5e3ee3fce719f99740309803bb96eb570f63e09379d87b9442"), looks := true }, kinds := [], alts := [], laidByText := true, laidKinds := [.data, .data, .data, .data, .sentinel, .sentinel, .pinned], laidTests := true, laidLooks := .later }
def SetReadsUptoCardSaid : Prop := Claim7.holds Tryz.pinned (.plain (OpenSpec.upto setReadsSpec)) setReadsUptoCard

/-- THE SECOND FORM's CARD OF 'quashlaw18.SetDoes'. -/
def setDoesUptoCard : Claim7 := { stood := { row := setDoesUptoRow, standIns := [], harness := (true, "72ddb33be0dccd5e3ee3fce719f99740309803bb96eb570f63e09379d87b9442"), looks := true }, kinds := [], alts := [], laidByText := true, laidKinds := [.data, .data, .data, .data, .sentinel, .sentinel, .pinned], laidTests := true, laidLooks := .later }
def SetDoesUptoCardSaid : Prop := Claim7.holds Tryz.pinned (.plain (OpenSpec.upto setDoesSpec)) setDoesUptoCard

/-- THE SECOND FORM's CARD OF 'quashlaw18.SetKeeps'. -/
def setKeepsUptoCard : Claim7 := { stood := { row := setKeepsUptoRow, standIns := [], harness := (true, "72ddb33be0dccd5e3ee3fce719f99740309803bb96eb570f63e09379d87b9442"), looks := true }, kinds := [], alts := [], laidByText := true, laidKinds := [.data, .data, .data, .data, .sentinel, .sentinel, .pinned], laidTests := true, laidLooks := .later }
def SetKeepsUptoCardSaid : Prop := Claim7.holds Tryz.pinned (.plain (OpenSpec.upto setKeepsSpec)) setKeepsUptoCard

/-- THE SECOND FORM's CARD OF 'quashlaw18.SetRooms'. -/
def setRoomsUptoCard : Claim7 := { stood := { row := setRoomsUptoRow, standIns := [], harness := (true, "72ddb33be0dccd5e3ee3fce719f99740309803bb96eb570f63e09379d87b9442"), looks := true }, kinds := [], alts := [], laidByText := true, laidKinds := [.data, .data, .data, .data, .sentinel, .sentinel, .pinned], laidTests := true, laidLooks := .later }
def SetRoomsUptoCardSaid : Prop := Claim7.holds Tryz.pinned (.plain (OpenSpec.upto setRoomsSpec)) setRoomsUptoCard

/-- THE SECOND FORM's CARD OF 'quashlaw18.SetCodes'. -/
def setCodesUptoCard : Claim7 := { stood := { row := setCodesUptoRow, standIns := [], harness := (true, "72ddb33be0dccd5e3ee3fce719f99740309803bb96eb570f63e09379d87b9442"), looks := true }, kinds := [], alts := [], laidByText := true, laidKinds := [.data, .data, .data, .data, .sentinel, .sentinel, .pinned], laidTests := true, laidLooks := .later }
def SetCodesUptoCardSaid : Prop := Claim7.holds Tryz.pinned (.plain (OpenSpec.upto setCodesSpec)) setCodesUptoCard
end Rows
end Go.Proofs.YtkioddgolmaaeaaGreatDoor
