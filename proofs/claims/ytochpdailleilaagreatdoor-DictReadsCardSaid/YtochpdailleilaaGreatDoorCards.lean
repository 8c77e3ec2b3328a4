/-
  DERIVED. GIVEN WITH THE SEED: THE CARDS: each row of YtochpdailleilaaGreatDoorRows.lean that lists a variable, with what it lists TIED to the program's text (the seventh form; the later family's looks); each row that meets fmt, with fmt's text TOLD by the authors' own Lean function (tested against real Go, not proved from fmt's source: count such statements apart). THE CARD IS WHAT COUNTS. Prove the row's statement (the work); the ties are given (YtochpdailleilaaGreatDoorTie.lean); close each card by the builder's one call (the guide's Derived/Test/ToyasCard.lean, 'card_holds'). Laid BY PROGRAM, IN A SANDBOX (cutbox-door.mjs). By AI agents, Wed Nov 11 2026. No macro, syntax, notation, axiom, sorry.
-/
import Derived.Test.YtochpdailleilaaGreatDoorRows
import GoSem.ClaimSeven
namespace Go.Proofs.YtochpdailleilaaGreatDoor
namespace Rows

/-- THE TIED CARD OF 'quashlaw19.DictNames'. -/
def dictNamesCard : Claim7 := { stood := { row := dictNamesRow, standIns := [], harness := (true, "edb04ab06f2055811597d2879f34604dbc661101efc9d9613cbbbe58ce6a4c5d"), looks := true }, kinds := [], alts := [], laidByText := true, laidKinds := [.data, .data, .data, .data, .sentinel, .sentinel, .pinned], laidTests := true, laidLooks := .later }
def DictNamesCardSaid : Prop := Claim7.holds Tryz.pinned (.plain (OpenSpec.ofChange dictNamesSpec)) dictNamesCard

/-- THE TIED CARD OF 'quashlaw19.DictReads'. -/
def dictReadsCard : Claim7 := { stood := { row := dictReadsRow, standIns := [], harness := (true, "edb04ab06f2055811597d2879f34604dbc661101efc9d9613cbbbe58ce6a4c5d"), looks := true }, kinds := [], alts := [], laidByText := true, laidKinds := [.data, .data, .data, .data, .sentinel, .sentinel, .pinned], laidTests := true, laidLooks := .later }
def DictReadsCardSaid : Prop := Claim7.holds Tryz.pinned (.plain (OpenSpec.ofChange dictReadsSpec)) dictReadsCard

/-- THE TIED CARD OF 'quashlaw19.DictDoes'. -/
def dictDoesCard : Claim7 := { stood := { row := dictDoesRow, standIns := [], harness := (true, "edb04ab06f2055811597d2879f34604dbc661101efc9d9613cbbbe58ce6a4c5d"), looks := true }, kinds := [], alts := [], laidByText := true, laidKinds := [.data, .data, .data, .data, .sentinel, .sentinel, .pinned], laidTests := true, laidLooks := .later }
def DictDoesCardSaid : Prop := Claim7.holds Tryz.pinned (.plain (OpenSpec.ofChange dictDoesSpec)) dictDoesCard

/-- THE TIED CARD OF 'quashlaw19.DictKeeps'. -/
def dictKeepsCard : Claim7 := { stood := { row := dictKeepsRow, standIns := [], harness := (true, "edb04ab06f2055811597d2879f34604dbc661101efc9d9613cbbbe58ce6a4c5d"), looks := true }, kinds := [], alts := [], laidByText := true, laidKinds := [.data, .data, .data, .data, .sentinel, .sentinel, .pinned], laidTests := true, laidLooks := .later }
def DictKeepsCardSaid : Prop := Claim7.holds Tryz.pinned (.plain (OpenSpec.ofChange dictKeepsSpec)) dictKeepsCard

/-- THE TIED CARD OF 'quashlaw19.DictRooms'. -/
def dictRoomsCard : Claim7 := { stood := { row := dictRoomsRow, standIns := [], harness := (true, "edb04ab06f2055811597d2879f34604dbc661101efc9d9613cbbbe58ce6a4c5d"), looks := true }, kinds := [], alts := [], laidByText := true, laidKinds := [.data, .data, .data, .data, .sentinel, .sentinel, .pinned], laidTests := true, laidLooks := .later }
def DictRoomsCardSaid : Prop := Claim7.holds Tryz.pinned (.plain (OpenSpec.ofChange dictRoomsSpec)) dictRoomsCard

/-- THE TIED CARD OF 'quashlaw19.DictCodes'. -/
def dictCodesCard : Claim7 := { stood := { row := dictCodesRow, standIns := [], harness := (true, "edb04ab06f2055811597d2879f34604dbc661101efc9d9613cbbbe58ce6a4c5d"), looks := true }, kinds := [], alts := [], laidByText := true, laidKinds := [.data, .data, .data, .data, .sentinel, .sentinel, .pinned], laidTests := true, laidLooks := .later }
def DictCodesCardSaid : Prop := Claim7.holds Tryz.pinned (.plain (OpenSpec.ofChange dictCodesSpec)) dictCodesCard

/-- THE SECOND FORM's CARD OF 'quashlaw19.DictNames'. -/
def dictNamesUptoCard : Claim7 := { stood := { row := dictNamesUptoRow, standIns := [], harness := (true, "edb04ab06f2055811597d2879f34604dbc661101efc9d9613cbbbe58ce6a4c5d"), looks := true }, kinds := [], alts := [], laidByText := true, laidKinds := [.data, .data, .data, .data, .sentinel, .sentinel, .pinned], laidTests := true, laidLooks := .later }
def DictNamesUptoCardSaid : Prop := Claim7.holds Tryz.pinned (.plain (OpenSpec.upto dictNamesSpec)) dictNamesUptoCard

/-- THE SECOND FORM's CARD OF 'quashlaw19.DictReads'. -/
def dictReadsUptoCard : Claim7 := { stood := { row := dictReadsUptoRow, standIns := [], harness := (true, "edb04ab06f2055811597d2879f34604dbc661101efc9d9613cbbbe58ce6a4c5d"), looks := true }, kinds := [], alts := [], laidByText := true, laidKinds := [.data, .data, .data, .data, .sentinel, .sentinel, .pinned], laidTests := true, laidLooks := .later }
def DictReadsUptoCardSaid : Prop := Claim7.holds Tryz.pinned (.plain (OpenSpec.upto dictReadsSpec)) dictReadsUptoCard

/-- THE SECOND FORM's CARD OF 'quashlaw19.DictDoes'. -/
def dictDoesUptoCard : Claim7 := { stood := { row := dictDoesUptoRow, standIns := [], harness := (true, "edb04ab06f2055811597d2879f34604dbc661101efc9d9613cbbbe58ce6a4c5d"), looks := true }, kinds := [], alts := [], laidByText := true, laidKinds := [.data, .data, .data, .data, .sentinel, .sentinel, .pinned], laidTests := true, laidLooks := .later }
def DictDoesUptoCardSaid : Prop := Claim7.holds Tryz.pinned (.plain (OpenSpec.upto dictDoesSpec)) dictDoesUptoCard

/-- THE SECOND FORM's CARD OF 'quashlaw19.DictKeeps'. -/
def dictKeepsUptoCard : Claim7 := { stood := { row := dictKeepsUptoRow, standIns := [], harness := (true, "edb04ab06f2055811597d2879f34604dbc661101efc9d9613cbbbe58ce6a4c5d"), looks := true }, kinds := [], alts := [], laidByText := true, laidKinds := [.data, .data, .data, .data, .sentinel, .sentinel, .pinned], laidTests := true, laidLooks := .later }
def DictKeepsUptoCardSaid : Prop := Claim7.holds Tryz.pinned (.plain (OpenSpec.upto dictKeepsSpec)) dictKeepsUptoCard

/-- THE SECOND FORM's CARD OF 'quashlaw19.DictRooms'. -/
def dictRoomsUptoCard : Claim7 := { stood := { row := dictRoomsUptoRow, standIns := [], harness := (true, "edb04ab06f2055811597d2879f34604dbc661101efc9d9613cbbbe58ce6a4c5d"), looks := true }, kinds := [], alts := [], laidByText := true, laidKinds := [.data, .data, .data, .data, .sentinel, .sentinel, .pinned], laidTests := true, laidLooks := .later }
def DictRoomsUptoCardSaid : Prop := Claim7.holds Tryz.pinned (.plain (OpenSpec.upto dictRoomsSpec)) dictRoomsUptoCard

/-- THE SECOND FORM's CARD OF 'quashlaw19.DictCodes'. -/
def dictCodesUptoCard : Claim7 := { stood := { row := dictCodesUptoRow, standIns := [], harness := (true, "edb04ab06f2055811597d2879f34604dbc661101efc9d9613cbbbe58ce6a4c5d"), looks := true }, kinds := [], alts := [], laidByText := true, laidKinds := [.data, .data, .data, .data, .sentinel, .sentinel, .pinned], laidTests := true, laidLooks := .later }
def DictCodesUptoCardSaid : Prop := Claim7.holds Tryz.pinned (.plain (OpenSpec.upto dictCodesSpec)) dictCodesUptoCard
end Rows
end Go.Proofs.YtochpdailleilaaGreatDoor
