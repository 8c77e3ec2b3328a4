/-
  DERIVED. GIVEN WITH THE SEED: THE CARDS: each row of YtocgmonfmpkkkaaGreatDoorRows.lean that lists a variable, with what it lists TIED to the program's text (the seventh form; the later family's looks); each row that meets fmt, with fmt's text TOLD by the authors' own Lean function (tested against real Go, not proved from fmt's source: count such statements apart). THE CARD IS WHAT COUNTS. Prove the row's statement (the work); the ties are given (YtocgmonfmpkkkaaGreatDoorTie.lean); close each card by the builder's one call (the guide's Derived/Test/ToyasCard.lean, 'card_holds'). Laid BY PROGRAM, IN A SANDBOX (cutbox-door.mjs). By AI agents, Wed Nov 11 2026. No macro, syntax, notation, axiom, sorry.
-/
import Derived.Test.YtocgmonfmpkkkaaGreatDoorRows
import GoSem.ClaimSeven
namespace Go.Proofs.YtocgmonfmpkkkaaGreatDoor
namespace Rows

/-- THE TIED CARD OF 'quashlaw20.DequeNames'. -/
def dequeNamesCard : Claim7 := { stood := { row := dequeNamesRow, standIns := [], harness := (true, "9a6c31b1b38632ae8428a963bee6bd174deb9e4f09c40187220f4c0c511477ef"), looks := true }, kinds := [], alts := [], laidByText := true, laidKinds := [.data, .data, .data, .data, .sentinel, .sentinel, .pinned], laidTests := true, laidLooks := .later }
def DequeNamesCardSaid : Prop := Claim7.holds Tryz.pinned (.plain (OpenSpec.ofChange dequeNamesSpec)) dequeNamesCard

/-- THE TIED CARD OF 'quashlaw20.DequeReads'. -/
def dequeReadsCard : Claim7 := { stood := { row := dequeReadsRow, standIns := [], harness := (true, "9a6c31b1b38632ae8428a963bee6bd174deb9e4f09c40187220f4c0c511477ef"), looks := true }, kinds := [], alts := [], laidByText := true, laidKinds := [.data, .data, .data, .data, .sentinel, .sentinel, .pinned], laidTests := true, laidLooks := .later }
def DequeReadsCardSaid : Prop := Claim7.holds Tryz.pinned (.plain (OpenSpec.ofChange dequeReadsSpec)) dequeReadsCard

/-- THE TIED CARD OF 'quashlaw20.DequeDoes'. -/
def dequeDoesCard : Claim7 := { stood := { row := dequeDoesRow, standIns := [], harness := (true, "9a6c31b1b38632ae8428a963bee6bd174deb9e4f09c40187220f4c0c511477ef"), looks := true }, kinds := [], alts := [], laidByText := true, laidKinds := [.data, .data, .data, .data, .sentinel, .sentinel, .pinned], laidTests := true, laidLooks := .later }
def DequeDoesCardSaid : Prop := Claim7.holds Tryz.pinned (.plain (OpenSpec.ofChange dequeDoesSpec)) dequeDoesCard

/-- THE TIED CARD OF 'quashlaw20.DequeKeeps'. -/
def dequeKeepsCard : Claim7 := { stood := { row := dequeKeepsRow, standIns := [], harness := (true, "9a6c31b1b38632ae8428a963bee6bd174deb9e4f09c40187220f4c0c511477ef"), looks := true }, kinds := [], alts := [], laidByText := true, laidKinds := [.data, .data, .data, .data, .sentinel, .sentinel, .pinned], laidTests := true, laidLooks := .later }
def DequeKeepsCardSaid : Prop := Claim7.holds Tryz.pinned (.plain (OpenSpec.ofChange dequeKeepsSpec)) dequeKeepsCard

/-- THE TIED CARD OF 'quashlaw20.DequeRooms'. -/
def dequeRoomsCard : Claim7 := { stood := { row := dequeRoomsRow, standIns := [], harness := (true, "9a6c31b1b38632ae8428a963bee6bd174deb9e4f09c40187220f4c0c511477ef"), looks := true }, kinds := [], alts := [], laidByText := true, laidKinds := [.data, .data, .data, .data, .sentinel, .sentinel, .pinned], laidTests := true, laidLooks := .later }
def DequeRoomsCardSaid : Prop := Claim7.holds Tryz.pinned (.plain (OpenSpec.ofChange dequeRoomsSpec)) dequeRoomsCard

/-- THE TIED CARD OF 'quashlaw20.DequeCodes'. -/
def dequeCodesCard : Claim7 := { stood := { row := dequeCodesRow, standIns := [], harness := (true, "9a6c31b1b38632ae8428a963bee6bd174deb9e4f09c40187220f4c0c511477ef"), looks := true }, kinds := [], alts := [], laidByText := true, laidKinds := [.data, .data, .data, .data, .sentinel, .sentinel, .pinned], laidTests := true, laidLooks := .later }
def DequeCodesCardSaid : Prop := Claim7.holds Tryz.pinned (.plain (OpenSpec.ofChange dequeCodesSpec)) dequeCodesCard

/-- THE SECOND FORM's CARD OF 'quashlaw20.DequeNames'. -/
def dequeNamesUptoCard : Claim7 := { stood := { row := dequeNamesUptoRow, standIns := [], harness := (true, "9a6c31b1b38632ae8428a963bee6bd174deb9e4f09c40187220f4c0c511477ef"), looks := true }, kinds := [], alts := [], laidByText := true, laidKinds := [.data, .data, .data, .data, .sentinel, .sentinel, .pinned], laidTests := true, laidLooks := .later }
def DequeNamesUptoCardSaid : Prop := Claim7.holds Tryz.pinned (.plain (OpenSpec.upto dequeNamesSpec)) dequeNamesUptoCard

/-- THE SECOND FORM's CARD OF 'quashlaw20.DequeReads'. -/
def dequeReadsUptoCard : Claim7 := { stood := { row := dequeReadsUptoRow, standIns := [], harness := (true, "9a6c31b1b38632ae8428a963bee6bd174deb9e4f09c40187220f4c0c511477ef"), looks := true }, kinds := [], alts := [], laidByText := true, laidKinds := [.data, .data, .data, .data, .sentinel, .sentinel, .pinned], laidTests := true, laidLooks := .later }
def DequeReadsUptoCardSaid : Prop := Claim7.holds Tryz.pinned (.plain (OpenSpec.upto dequeReadsSpec)) dequeReadsUptoCard

/-- THE SECOND FORM's CARD OF 'quashlaw20.DequeDoes'. -/
def dequeDoesUptoCard : Claim7 := { stood := { row := dequeDoesUptoRow, standIns := [], harness := (true, "9a6c31b1b38632ae8428a963bee6bd174deb9e4f09c40187220f4c0c511477ef"), looks := true }, kinds := [], alts := [], laidByText := true, laidKinds := [.data, .data, .data, .data, .sentinel, .sentinel, .pinned], laidTests := true, laidLooks := .later }
def DequeDoesUptoCardSaid : Prop := Claim7.holds Tryz.pinned (.plain (OpenSpec.upto dequeDoesSpec)) dequeDoesUptoCard

/-- THE SECOND FORM's CARD OF 'quashlaw20.DequeKeeps'. -/
def dequeKeepsUptoCard : Claim7 := { stood := { row := dequeKeepsUptoRow, standIns := [], harness := (true, "9a6c31b1b38632ae8428a963bee6bd174deb9e4f09c40187220f4c0c511477ef"), looks := true }, kinds := [], alts := [], laidByText := true, laidKinds := [.data, .data, .data, .data, .sentinel, .sentinel, .pinned], laidTests := true, laidLooks := .later }
def DequeKeepsUptoCardSaid : Prop := Claim7.holds Tryz.pinned (.plain (OpenSpec.upto dequeKeepsSpec)) dequeKeepsUptoCard

/-- THE SECOND FORM's CARD OF 'quashlaw20.DequeRooms'. -/
def dequeRoomsUptoCard : Claim7 := { stood := { row := dequeRoomsUptoRow, standIns := [], harness := (true, "9a6c31b1b38632ae8428a963bee6bd174deb9e4f09c40187220f4c0c511477ef"), looks := true }, kinds := [], alts := [], laidByText := true, laidKinds := [.data, .data, .data, .data, .sentinel, .sentinel, .pinned], laidTests := true, laidLooks := .later }
def DequeRoomsUptoCardSaid : Prop := Claim7.holds Tryz.pinned (.plain (OpenSpec.upto dequeRoomsSpec)) dequeRoomsUptoCard

/-- THE SECOND FORM's CARD OF 'quashlaw20.DequeCodes'. -/
def dequeCodesUptoCard : Claim7 := { stood := { row := dequeCodesUptoRow, standIns := [], harness := (true, "9a6c31b1b38632ae8428a963bee6bd174deb9e4f09c40187220f4c0c511477ef"), looks := true }, kinds := [], alts := [], laidByText := true, laidKinds := [.data, .data, .data, .data, .sentinel, .sentinel, .pinned], laidTests := true, laidLooks := .later }
def DequeCodesUptoCardSaid : Prop := Claim7.holds Tryz.pinned (.plain (OpenSpec.upto dequeCodesSpec)) dequeCodesUptoCard
end Rows
end Go.Proofs.YtocgmonfmpkkkaaGreatDoor
