/-
  DERIVED. GIVEN WITH THE SEED: THE CARDS: each row of YtgnmnaclndkmdaaGreatDoorRows.lean that lists a variable, with what it lists TIED to the program's text (the seventh form; the later family's looks); each row that meets fmt, with fmt's text TOLD by the authors' own Lean function (tested against real Go, not proved from fmt's source: count such statements apart). THE CARD IS WHAT COUNTS. Prove the row's statement (the work); the ties are given (YtgnmnaclndkmdaaGreatDoorTie.lean); close each card by the builder's one call (the guide's Derived/Test/ToyasCard.lean, 'card_holds'). Laid BY PROGRAM, IN A SANDBOX (cutbox-door.mjs). By AI agents, Wed Nov 11 2026. No macro, syntax, notation, axiom, sorry.
-/
import Derived.Test.YtgnmnaclndkmdaaGreatDoorRows
import GoSem.ClaimSeven
namespace Go.Proofs.YtgnmnaclndkmdaaGreatDoor
namespace Rows

/-- THE TIED CARD OF 'erasurelaw05.SyntaxExamples'. -/
def syntaxExamplesCard : Claim7 := { stood := { row := syntaxExamplesRow, standIns := [], harness := (true, "76ee0b14e2ea25ad551a07ce217a8f702dafbe6c90253ec0508743a7c97fb0ef"), looks := true }, kinds := [], alts := [], laidByText := true, laidKinds := [.data, .data, .data, .sentinel, .sentinel], laidTests := true, laidLooks := .later }
def SyntaxExamplesCardSaid : Prop := Claim7.holds Tryz.pinned (.plain (OpenSpec.ofChange syntaxExamplesSpec)) syntaxExamplesCard

/-- THE SECOND FORM's CARD OF 'erasurelaw05.SyntaxExamples'. -/
def syntaxExamplesUptoCard : Claim7 := { stood := { row := syntaxExamplesUptoRow, standIns := [], harness := (true, "76ee0b14e2ea25ad551a07ce217a8f702dafbe6c90253ec0508743a7c97fb0ef"), looks := true }, kinds := [], alts := [], laidByText := true, laidKinds := [.data, .data, .data, .sentinel, .sentinel], laidTests := true, laidLooks := .later }
def SyntaxExamplesUptoCardSaid : Prop := Claim7.holds Tryz.pinned (.plain (OpenSpec.upto syntaxExamplesSpec)) syntaxExamplesUptoCard
end Rows
end Go.Proofs.YtgnmnaclndkmdaaGreatDoor
