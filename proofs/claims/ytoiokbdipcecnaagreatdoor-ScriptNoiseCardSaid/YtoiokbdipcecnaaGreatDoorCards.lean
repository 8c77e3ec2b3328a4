/-
  DERIVED. GIVEN WITH THE SEED: THE CARDS: each row of YtoiokbdipcecnaaGreatDoorRows.lean that lists a variable, with what it lists TIED to the program's text (the seventh form; the later family's looks); each row that meets fmt, with fmt's text TOLD by the authors' own Lean function (tested against real Go, not proved from fmt's source: count such statements apart). THE CARD IS WHAT COUNTS. Prove the row's statement (the work); the ties are given (YtoiokbdipcecnaaGreatDoorTie.lean); close each card by the builder's one call (the guide's Derived/Test/ToyasCard.lean, 'card_holds'). Laid BY PROGRAM, IN A SANDBOX (cutbox-door.mjs). By AI agents, Wed Nov 11 2026. No macro, syntax, notation, axiom, sorry.
-/
import Derived.Test.YtoiokbdipcecnaaGreatDoorRows
import GoSem.ClaimSeven
namespace Go.Proofs.YtoiokbdipcecnaaGreatDoor
namespace Rows

/-- THE TIED CARD OF 'quashlaw23.ScriptNames'. -/
def scriptNamesCard : Claim7 := { stood := { row := scriptNamesRow, standIns := [], harness := (true, "e78fc97b0c8de9d8fc00366896d82fc05706bc824ae741573cc156b481e63ea8"), looks := true }, kinds := [], alts := [], laidByText := true, laidKinds := [.data, .data, .data, .data, .sentinel, .sentinel, .pinned], laidTests := true, laidLooks := .later }
def ScriptNamesCardSaid : Prop := Claim7.holds Tryz.pinned (.plain (OpenSpec.ofChange scriptNamesSpec)) scriptNamesCard

/-- THE TIED CARD OF 'quashlaw23.ScriptChecks'. -/
def scriptChecksCard : Claim7 := { stood := { row := scriptChecksRow, standIns := [], harness := (true, "e78fc97b0c8de9d8fc00366896d82fc05706bc824ae741573cc156b481e63ea8"), looks := true }, kinds := [], alts := [], laidByText := true, laidKinds := [.data, .data, .data, .data, .sentinel, .sentinel, .pinned], laidTests := true, laidLooks := .later }
def ScriptChecksCardSaid : Prop := Claim7.holds Tryz.pinned (.plain (OpenSpec.ofChange scriptChecksSpec)) scriptChecksCard

/-- THE TIED CARD OF 'quashlaw23.ScriptPrints'. -/
def scriptPrintsCard : Claim7 := { stood := { row := scriptPrintsRow, standIns := [], harness := (true, "e78fc97b0c8de9d8fc00366896d82fc05706bc824ae741573cc156b481e63ea8"), looks := true }, kinds := [], alts := [], laidByText := true, laidKinds := [.data, .data, .data, .data, .sentinel, .sentinel, .pinned], laidTests := true, laidLooks := .later }
def ScriptPrintsCardSaid : Prop := Claim7.holds Tryz.pinned (.plain (OpenSpec.ofChange scriptPrintsSpec)) scriptPrintsCard

/-- THE TIED CARD OF 'quashlaw23.ScriptBack'. -/
def scriptBackCard : Claim7 := { stood := { row := scriptBackRow, standIns := [], harness := (true, "e78fc97b0c8de9d8fc00366896d82fc05706bc824ae741573cc156b481e63ea8"), looks := true }, kinds := [], alts := [], laidByText := true, laidKinds := [.data, .data, .data, .data, .sentinel, .sentinel, .pinned], laidTests := true, laidLooks := .later }
def ScriptBackCardSaid : Prop := Claim7.holds Tryz.pinned (.plain (OpenSpec.ofChange scriptBackSpec)) scriptBackCard

/-- THE TIED CARD OF 'quashlaw23.ScriptNoise'. -/
def scriptNoiseCard : Claim7 := { stood := { row := scriptNoiseRow, standIns := [], harness := (true, "e78fc97b0c8de9d8fc00366896d82fc05706bc824ae741573cc156b481e63ea8"), looks := true }, kinds := [], alts := [], laidByText := true, laidKinds := [.data, .data, .data, .data, .sentinel, .sentinel, .pinned], laidTests := true, laidLooks := .later }
def ScriptNoiseCardSaid : Prop := Claim7.holds Tryz.pinned (.plain (OpenSpec.ofChange scriptNoiseSpec)) scriptNoiseCard

/-- THE SECOND FORM's CARD OF 'quashlaw23.ScriptNames'. -/
def scriptNamesUptoCard : Claim7 := { stood := { row := scriptNamesUptoRow, standIns := [], harness := (true, "e78fc97b0c8de9d8fc00366896d82fc05706bc824ae741573cc156b481e63ea8"), looks := true }, kinds := [], alts := [], laidByText := true, laidKinds := [.data, .data, .data, .data, .sentinel, .sentinel, .pinned], laidTests := true, laidLooks := .later }
def ScriptNamesUptoCardSaid : Prop := Claim7.holds Tryz.pinned (.plain (OpenSpec.upto scriptNamesSpec)) scriptNamesUptoCard

/-- THE SECOND FORM's CARD OF 'quashlaw23.ScriptChecks'. -/
def scriptChecksUptoCard : Claim7 := { stood := { row := scriptChecksUptoRow, standIns := [], harness := (true, "e78fc97b0c8de9d8fc00366896d82fc05706bc824ae741573cc156b481e63ea8"), looks := true }, kinds := [], alts := [], laidByText := true, laidKinds := [.data, .data, .data, .data, .sentinel, .sentinel, .pinned], laidTests := true, laidLooks := .later }
def ScriptChecksUptoCardSaid : Prop := Claim7.holds Tryz.pinned (.plain (OpenSpec.upto scriptChecksSpec)) scriptChecksUptoCard

/-- THE SECOND FORM's CARD OF 'quashlaw23.ScriptPrints'. -/
def scriptPrintsUptoCard : Claim7 := { stood := { row := scriptPrintsUptoRow, standIns := [], harness := (true, "e78fc97b0c8de9d8fc00366896d82fc05706bc824ae741573cc156b481e63ea8"), looks := true }, kinds := [], alts := [], laidByText := true, laidKinds := [.data, .data, .data, .data, .sentinel, .sentinel, .pinned], laidTests := true, laidLooks := .later }
def ScriptPrintsUptoCardSaid : Prop := Claim7.holds Tryz.pinned (.plain (OpenSpec.upto scriptPrintsSpec)) scriptPrintsUptoCard

/-- THE SECOND FORM's CARD OF 'quashlaw23.ScriptBack'. -/
def scriptBackUptoCard : Claim7 := { stood := { row := scriptBackUptoRow, standIns := [], harness := (true, "e78fc97b0c8de9d8fc00366896d82fc05706bc824ae741573cc156b481e63ea8"), looks := true }, kinds := [], alts := [], laidByText := true, laidKinds := [.data, .data, .data, .data, .sentinel, .sentinel, .pinned], laidTests := true, laidLooks := .later }
def ScriptBackUptoCardSaid : Prop := Claim7.holds Tryz.pinned (.plain (OpenSpec.upto scriptBackSpec)) scriptBackUptoCard

/-- THE SECOND FORM's CARD OF 'quashlaw23.ScriptNoise'. -/
def scriptNoiseUptoCard : Claim7 := { stood := { row := scriptNoiseUptoRow, standIns := [], harness := (true, "e78fc97b0c8de9d8fc00366896d82fc05706bc824ae741573cc156b481e63ea8"), looks := true }, kinds := [], alts := [], laidByText := true, laidKinds := [.data, .data, .data, .data, .sentinel, .sentinel, .pinned], laidTests := true, laidLooks := .later }
def ScriptNoiseUptoCardSaid : Prop := Claim7.holds Tryz.pinned (.plain (OpenSpec.upto scriptNoiseSpec)) scriptNoiseUptoCard
end Rows
end Go.Proofs.YtoiokbdipcecnaaGreatDoor
