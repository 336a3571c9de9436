/-
  DERIVED. GIVEN WITH THE SEED: THE CARDS: each row of YtnbckfkdmkbopaaGreatDoorRows.lean that lists a variable, with what it lists TIED to the program's text (the seventh form; the later family's looks); each row that meets fmt, with fmt's text TOLD by the authors' own Lean function (tested against real Go, not proved from fmt's source: count such statements apart). THE CARD IS WHAT COUNTS. Prove the row's statement (the work); the ties are given (YtnbckfkdmkbopaaGreatDoorTie.lean); close each card by the builder's one call (the guide's Derived/Test/ToyasCard.lean, 'card_holds'). Laid BY PROGRAM, IN A SANDBOX (cutbox-door.mjs). By AI agents, Wed Nov 11 2026. No macro, syntax, notation, axiom, sorry.
-/
import Derived.Test.YtnbckfkdmkbopaaGreatDoorRows
import GoSem.ClaimSeven
namespace Go.Proofs.YtnbckfkdmkbopaaGreatDoor
namespace Rows

/-- THE TIED CARD OF 'cadastretop.CoreReads'. -/
def coreReadsCard : Claim7 := { stood := { row := coreReadsRow, standIns := [], harness := (true, "503441a4243a37e4aa8ce4b74b6ce94932c94ee31e07efb3bc9bd9bacde969d6"), looks := true }, kinds := [], alts := [], laidByText := true, laidKinds := [.data, .listed, .data, .pinned, .pinned], laidTests := true, laidLooks := .later }
def CoreReadsCardSaid : Prop := Claim7.holds Tryz.pinned (.plain (OpenSpec.ofChange coreReadsSpec)) coreReadsCard

/-- THE TIED CARD OF 'cadastretop.CoreTexts'. -/
def coreTextsCard : Claim7 := { stood := { row := coreTextsRow, standIns := [], harness := (true, "503441a4243a37e4aa8ce4b74b6ce94932c94ee31e07efb3bc9bd9bacde969d6"), looks := true }, kinds := [], alts := [], laidByText := true, laidKinds := [.data, .data, .data, .data, .listed, .data, .pinned, .pinned], laidTests := true, laidLooks := .later }
def CoreTextsCardSaid : Prop := Claim7.holds Tryz.pinned (.plain (OpenSpec.ofChange coreTextsSpec)) coreTextsCard

/-- THE SECOND FORM's CARD OF 'cadastretop.CoreReads'. -/
def coreReadsUptoCard : Claim7 := { stood := { row := coreReadsUptoRow, standIns := [], harness := (true, "503441a4243a37e4aa8ce4b74b6ce94932c94ee31e07efb3bc9bd9bacde969d6"), looks := true }, kinds := [], alts := [], laidByText := true, laidKinds := [.data, .listed, .data, .pinned, .pinned], laidTests := true, laidLooks := .later }
def CoreReadsUptoCardSaid : Prop := Claim7.holds Tryz.pinned (.plain (OpenSpec.upto coreReadsSpec)) coreReadsUptoCard

/-- THE SECOND FORM's CARD OF 'cadastretop.CoreTexts'. -/
def coreTextsUptoCard : Claim7 := { stood := { row := coreTextsUptoRow, standIns := [], harness := (true, "503441a4243a37e4aa8ce4b74b6ce94932c94ee31e07efb3bc9bd9bacde969d6"), looks := true }, kinds := [], alts := [], laidByText := true, laidKinds := [.data, .data, .data, .data, .listed, .data, .pinned, .pinned], laidTests := true, laidLooks := .later }
def CoreTextsUptoCardSaid : Prop := Claim7.holds Tryz.pinned (.plain (OpenSpec.upto coreTextsSpec)) coreTextsUptoCard
end Rows
end Go.Proofs.YtnbckfkdmkbopaaGreatDoor
