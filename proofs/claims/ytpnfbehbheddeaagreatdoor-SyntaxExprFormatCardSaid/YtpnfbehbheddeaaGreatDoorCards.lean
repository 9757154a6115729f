/-
  DERIVED. GIVEN WITH THE SEED: THE CARDS: each row of YtpnfbehbheddeaaGreatDoorRows.lean that lists a variable, with what it lists TIED to the program's text (the seventh form; the later family's looks); each row that meets fmt, with fmt's text TOLD by the authors' own Lean function (tested against real Go, not proved from fmt's source: count such statements apart). THE CARD IS WHAT COUNTS. Prove the row's statement (the work); the ties are given (YtpnfbehbheddeaaGreatDoorTie.lean); close each card by the builder's one call (the guide's Derived/Test/ToyasCard.lean, 'card_holds'). Laid BY PROGRAM, IN A SANDBOX (cutbox-door.mjs). By AI agents, Wed Nov 11 2026. No macro, syntax, notation, axiom, sorry.
-/
import Derived.Test.YtpnfbehbheddeaaGreatDoorRows
import GoSem.ClaimSeven
namespace Go.Proofs.YtpnfbehbheddeaaGreatDoor
namespace Rows

/-- THE TIED CARD OF 'erasurelaw05.SyntaxMeaning'. -/
def syntaxMeaningCard : Claim7 := { stood := { row := syntaxMeaningRow, standIns := [], harness := (true, "af8e9a060faf7d7d6a5e415e11c3d51b9c8dd7a605006b89861a54732a6234e6"), looks := true }, kinds := [], alts := [], laidByText := true, laidKinds := [.data, .data, .data, .sentinel, .sentinel], laidTests := true, laidLooks := .later }
def SyntaxMeaningCardSaid : Prop := Claim7.holds Tryz.pinned (.plain (OpenSpec.ofChange syntaxMeaningSpec)) syntaxMeaningCard

/-- THE TIED CARD OF 'erasurelaw05.SyntaxExprFormat'. -/
def syntaxExprFormatCard : Claim7 := { stood := { row := syntaxExprFormatRow, standIns := [], harness := (true, "af8e9a060faf7d7d6a5e415e11c3d51b9c8dd7a605006b89861a54732a6234e6"), looks := true }, kinds := [], alts := [], laidByText := true, laidKinds := [.data, .data, .data, .sentinel, .sentinel], laidTests := true, laidLooks := .later }
def SyntaxExprFormatCardSaid : Prop := Claim7.holds Tryz.pinned (.plain (OpenSpec.ofChange syntaxExprFormatSpec)) syntaxExprFormatCard

/-- THE TIED CARD OF 'erasurelaw05.SyntaxExprBack'. -/
def syntaxExprBackCard : Claim7 := { stood := { row := syntaxExprBackRow, standIns := [], harness := (true, "af8e9a060faf7d7d6a5e415e11c3d51b9c8dd7a605006b89861a54732a6234e6"), looks := true }, kinds := [], alts := [], laidByText := true, laidKinds := [.data, .data, .data, .sentinel, .sentinel], laidTests := true, laidLooks := .later }
def SyntaxExprBackCardSaid : Prop := Claim7.holds Tryz.pinned (.plain (OpenSpec.ofChange syntaxExprBackSpec)) syntaxExprBackCard

/-- THE SECOND FORM's CARD OF 'erasurelaw05.SyntaxMeaning'. -/
def syntaxMeaningUptoCard : Claim7 := { stood := { row := syntaxMeaningUptoRow, standIns := [], harness := (true, "af8e9a060faf7d7d6a5e415e11c3d51b9c8dd7a605006b89861a54732a6234e6"), looks := true }, kinds := [], alts := [], laidByText := true, laidKinds := [.data, .data, .data, .sentinel, .sentinel], laidTests := true, laidLooks := .later }
def SyntaxMeaningUptoCardSaid : Prop := Claim7.holds Tryz.pinned (.plain (OpenSpec.upto syntaxMeaningSpec)) syntaxMeaningUptoCard

/-- THE SECOND FORM's CARD OF 'erasurelaw05.SyntaxExprFormat'. -/
def syntaxExprFormatUptoCard : Claim7 := { stood := { row := syntaxExprFormatUptoRow, standIns := [], harness := (true, "af8e9a060faf7d7d6a5e415e11c3d51b9c8dd7a605006b89861a54732a6234e6"), looks := true }, kinds := [], alts := [], laidByText := true, laidKinds := [.data, .data, .data, .sentinel, .sentinel], laidTests := true, laidLooks := .later }
def SyntaxExprFormatUptoCardSaid : Prop := Claim7.holds Tryz.pinned (.plain (OpenSpec.upto syntaxExprFormatSpec)) syntaxExprFormatUptoCard

/-- THE SECOND FORM's CARD OF 'erasurelaw05.SyntaxExprBack'. -/
def syntaxExprBackUptoCard : Claim7 := { stood := { row := syntaxExprBackUptoRow, standIns := [], harness := (true, "af8e9a060faf7d7d6a5e415e11c3d51b9c8dd7a605006b89861a54732a6234e6"), looks := true }, kinds := [], alts := [], laidByText := true, laidKinds := [.data, .data, .data, .sentinel, .sentinel], laidTests := true, laidLooks := .later }
def SyntaxExprBackUptoCardSaid : Prop := Claim7.holds Tryz.pinned (.plain (OpenSpec.upto syntaxExprBackSpec)) syntaxExprBackUptoCard
end Rows
end Go.Proofs.YtpnfbehbheddeaaGreatDoor
