/-
  DERIVED. GIVEN WITH THE SEED: THE CARDS: each row of YtojgdabkdbchnaaDoorRows.lean that lists a variable, with what it lists TIED to the program's text (the seventh form; the later family's looks); each row that meets fmt, with fmt's text TOLD by the authors' own Lean function (tested against real Go, not proved from fmt's source: count such statements apart). THE CARD IS WHAT COUNTS. Prove the row's statement (the work); the ties are given (YtojgdabkdbchnaaDoorTie.lean); close each card by the builder's one call (the guide's Derived/Test/ToyasCard.lean, 'card_holds'). Laid BY PROGRAM, IN A SANDBOX (cutbox-door.mjs). By AI agents, Wed Nov 11 2026. No macro, syntax, notation, axiom, sorry.
-/
import Derived.Test.YtojgdabkdbchnaaDoorRows
import GoSem.ClaimSeven
namespace Go.Proofs.YtojgdabkdbchnaaDoor
namespace Rows

/-- THE TIED CARD OF 'quashlaw15.CodeNames'. -/
def codeNamesCard : Claim7 := { stood := { row := codeNamesRow, standIns := [], harness := (true, "b1bea368695f1a40d5764d683d60b1bf5e8f905e144179c7f80cfdda5fd8d5f8"), looks := true }, kinds := [], alts := [], laidByText := true, laidKinds := [.data, .data, .data, .data, .sentinel, .sentinel, .pinned], laidTests := true, laidLooks := .later }
def CodeNamesCardSaid : Prop := Claim7.holds Tryd.pinned (.plain (OpenSpec.ofChange codeNamesSpec)) codeNamesCard

/-- THE TIED CARD OF 'quashlaw15.CodeChecks'. -/
def codeChecksCard : Claim7 := { stood := { row := codeChecksRow, standIns := [], harness := (true, "b1bea368695f1a40d5764d683d60b1bf5e8f905e144179c7f80cfdda5fd8d5f8"), looks := true }, kinds := [], alts := [], laidByText := true, laidKinds := [.data, .data, .data, .data, .sentinel, .sentinel, .pinned], laidTests := true, laidLooks := .later }
def CodeChecksCardSaid : Prop := Claim7.holds Tryd.pinned (.plain (OpenSpec.ofChange codeChecksSpec)) codeChecksCard

/-- THE TIED CARD OF 'quashlaw15.CodeBack'. -/
def codeBackCard : Claim7 := { stood := { row := codeBackRow, standIns := [], harness := (true, "b1bea368695f1a40d5764d683d60b1bf5e8f905e144179c7f80cfdda5fd8d5f8"), looks := true }, kinds := [], alts := [], laidByText := true, laidKinds := [.data, .data, .data, .data, .sentinel, .sentinel, .pinned], laidTests := true, laidLooks := .later }
def CodeBackCardSaid : Prop := Claim7.holds Tryd.pinned (.plain (OpenSpec.ofChange codeBackSpec)) codeBackCard

/-- THE TIED CARD OF 'quashlaw15.CodeDeaf'. -/
def codeDeafCard : Claim7 := { stood := { row := codeDeafRow, standIns := [], harness := (true, "b1bea368695f1a40d5764d683d60b1bf5e8f905e144179c7f80cfdda5fd8d5f8"), looks := true }, kinds := [], alts := [], laidByText := true, laidKinds := [.data, .data, .data, .data, .sentinel, .sentinel, .pinned], laidTests := true, laidLooks := .later }
def CodeDeafCardSaid : Prop := Claim7.holds Tryd.pinned (.plain (OpenSpec.ofChange codeDeafSpec)) codeDeafCard

/-- THE TIED CARD OF 'quashlaw15.CodeNested'. -/
def codeNestedCard : Claim7 := { stood := { row := codeNestedRow, standIns := [], harness := (true, "b1bea368695f1a40d5764d683d60b1bf5e8f905e144179c7f80cfdda5fd8d5f8"), looks := true }, kinds := [], alts := [], laidByText := true, laidKinds := [.data, .data, .data, .data, .sentinel, .sentinel, .pinned], laidTests := true, laidLooks := .later }
def CodeNestedCardSaid : Prop := Claim7.holds Tryd.pinned (.plain (OpenSpec.ofChange codeNestedSpec)) codeNestedCard

/-- THE SECOND FORM's CARD OF 'quashlaw15.CodeNames'. -/
def codeNamesUptoCard : Claim7 := { stood := { row := codeNamesUptoRow, standIns := [], harness := (true, "b1bea368695f1a40d5764d683d60b1bf5e8f905e144179c7f80cfdda5fd8d5f8"), looks := true }, kinds := [], alts := [], laidByText := true, laidKinds := [.data, .data, .data, .data, .sentinel, .sentinel, .pinned], laidTests := true, laidLooks := .later }
def CodeNamesUptoCardSaid : Prop := Claim7.holds Tryd.pinned (.plain (OpenSpec.upto codeNamesSpec)) codeNamesUptoCard

/-- THE SECOND FORM's CARD OF 'quashlaw15.CodeChecks'. -/
def codeChecksUptoCard : Claim7 := { stood := { row := codeChecksUptoRow, standIns := [], harness := (true, "b1bea368695f1a40d5764d683d60b1bf5e8f905e144179c7f80cfdda5fd8d5f8"), looks := true }, kinds := [], alts := [], laidByText := true, laidKinds := [.data, .data, .data, .data, .sentinel, .sentinel, .pinned], laidTests := true, laidLooks := .later }
def CodeChecksUptoCardSaid : Prop := Claim7.holds Tryd.pinned (.plain (OpenSpec.upto codeChecksSpec)) codeChecksUptoCard

/-- THE SECOND FORM's CARD OF 'quashlaw15.CodeBack'. -/
def codeBackUptoCard : Claim7 := { stood := { row := codeBackUptoRow, standIns := [], harness := (true, "b1bea368695f1a40d5764d683d60b1bf5e8f905e144179c7f80cfdda5fd8d5f8"), looks := true }, kinds := [], alts := [], laidByText := true, laidKinds := [.data, .data, .data, .data, .sentinel, .sentinel, .pinned], laidTests := true, laidLooks := .later }
def CodeBackUptoCardSaid : Prop := Claim7.holds Tryd.pinned (.plain (OpenSpec.upto codeBackSpec)) codeBackUptoCard

/-- THE SECOND FORM's CARD OF 'quashlaw15.CodeDeaf'. -/
def codeDeafUptoCard : Claim7 := { stood := { row := codeDeafUptoRow, standIns := [], harness := (true, "b1bea368695f1a40d5764d683d60b1bf5e8f905e144179c7f80cfdda5fd8d5f8"), looks := true }, kinds := [], alts := [], laidByText := true, laidKinds := [.data, .data, .data, .data, .sentinel, .sentinel, .pinned], laidTests := true, laidLooks := .later }
def CodeDeafUptoCardSaid : Prop := Claim7.holds Tryd.pinned (.plain (OpenSpec.upto codeDeafSpec)) codeDeafUptoCard

/-- THE SECOND FORM's CARD OF 'quashlaw15.CodeNested'. -/
def codeNestedUptoCard : Claim7 := { stood := { row := codeNestedUptoRow, standIns := [], harness := (true, "b1bea368695f1a40d5764d683d60b1bf5e8f905e144179c7f80cfdda5fd8d5f8"), looks := true }, kinds := [], alts := [], laidByText := true, laidKinds := [.data, .data, .data, .data, .sentinel, .sentinel, .pinned], laidTests := true, laidLooks := .later }
def CodeNestedUptoCardSaid : Prop := Claim7.holds Tryd.pinned (.plain (OpenSpec.upto codeNestedSpec)) codeNestedUptoCard
end Rows
end Go.Proofs.YtojgdabkdbchnaaDoor
