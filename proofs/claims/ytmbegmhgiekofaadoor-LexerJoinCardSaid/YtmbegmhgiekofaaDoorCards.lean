/-
  DERIVED. GIVEN WITH THE SEED: THE CARDS: each row of YtmbegmhgiekofaaDoorRows.lean that lists a variable, with what it lists TIED to the program's text (the seventh form; the later family's looks); each row that meets fmt, with fmt's text TOLD by the authors' own Lean function (tested against real Go, not proved from fmt's source: count such statements apart). THE CARD IS WHAT COUNTS. Prove the row's statement (the work); the ties are given (YtmbegmhgiekofaaDoorTie.lean); close each card by the builder's one call (the guide's Derived/Test/ToyasCard.lean, 'card_holds'). Laid BY PROGRAM, IN A SANDBOX (cutbox-door.mjs). By AI agents, Wed Nov 11 2026. No macro, syntax, notation, axiom, sorry.
-/
import Derived.Test.YtmbegmhgiekofaaDoorRows
import GoSem.ClaimSeven
namespace Go.Proofs.YtmbegmhgiekofaaDoor
namespace Rows

/-- THE TIED CARD OF 'erasurelaw02.LexerScan'. -/
def lexerScanCard : Claim7 := { stood := { row := lexerScanRow, standIns := [], harness := (true, "7a70622e44673d07bcbf8c1c1910c785d99e3062085dbbe2f2665b4566f1485a"), looks := true }, kinds := [], alts := [], laidByText := true, laidKinds := [.data, .data, .data, .sentinel, .sentinel], laidTests := true, laidLooks := .later }
def LexerScanCardSaid : Prop := Claim7.holds Tryd.pinned (.plain (OpenSpec.ofChange lexerScanSpec)) lexerScanCard

/-- THE TIED CARD OF 'erasurelaw02.LexerPieces'. -/
def lexerPiecesCard : Claim7 := { stood := { row := lexerPiecesRow, standIns := [], harness := (true, "7a70622e44673d07bcbf8c1c1910c785d99e3062085dbbe2f2665b4566f1485a"), looks := true }, kinds := [], alts := [], laidByText := true, laidKinds := [.data, .data, .data, .sentinel, .sentinel], laidTests := true, laidLooks := .later }
def LexerPiecesCardSaid : Prop := Claim7.holds Tryd.pinned (.plain (OpenSpec.ofChange lexerPiecesSpec)) lexerPiecesCard

/-- THE TIED CARD OF 'erasurelaw02.LexerLimits'. -/
def lexerLimitsCard : Claim7 := { stood := { row := lexerLimitsRow, standIns := [], harness := (true, "7a70622e44673d07bcbf8c1c1910c785d99e3062085dbbe2f2665b4566f1485a"), looks := true }, kinds := [], alts := [], laidByText := true, laidKinds := [.data, .data, .data, .sentinel, .sentinel], laidTests := true, laidLooks := .later }
def LexerLimitsCardSaid : Prop := Claim7.holds Tryd.pinned (.plain (OpenSpec.ofChange lexerLimitsSpec)) lexerLimitsCard

/-- THE TIED CARD OF 'erasurelaw02.LexerCover'. -/
def lexerCoverCard : Claim7 := { stood := { row := lexerCoverRow, standIns := [], harness := (true, "7a70622e44673d07bcbf8c1c1910c785d99e3062085dbbe2f2665b4566f1485a"), looks := true }, kinds := [], alts := [], laidByText := true, laidKinds := [.data, .data, .data, .sentinel, .sentinel], laidTests := true, laidLooks := .later }
def LexerCoverCardSaid : Prop := Claim7.holds Tryd.pinned (.plain (OpenSpec.ofChange lexerCoverSpec)) lexerCoverCard

/-- THE TIED CARD OF 'erasurelaw02.LexerNames'. -/
def lexerNamesCard : Claim7 := { stood := { row := lexerNamesRow, standIns := [], harness := (true, "7a70622e44673d07bcbf8c1c1910c785d99e3062085dbbe2f2665b4566f1485a"), looks := true }, kinds := [], alts := [], laidByText := true, laidKinds := [.data, .data, .data, .sentinel, .sentinel], laidTests := true, laidLooks := .later }
def LexerNamesCardSaid : Prop := Claim7.holds Tryd.pinned (.plain (OpenSpec.ofChange lexerNamesSpec)) lexerNamesCard

/-- THE TIED CARD OF 'erasurelaw02.LexerBack'. -/
def lexerBackCard : Claim7 := { stood := { row := lexerBackRow, standIns := [], harness := (true, "7a70622e44673d07bcbf8c1c1910c785d99e3062085dbbe2f2665b4566f1485a"), looks := true }, kinds := [], alts := [], laidByText := true, laidKinds := [.data, .data, .data, .sentinel, .sentinel], laidTests := true, laidLooks := .later }
def LexerBackCardSaid : Prop := Claim7.holds Tryd.pinned (.plain (OpenSpec.ofChange lexerBackSpec)) lexerBackCard

/-- THE TIED CARD OF 'erasurelaw02.LexerJoin'. -/
def lexerJoinCard : Claim7 := { stood := { row := lexerJoinRow, standIns := [], harness := (true, "7a70622e44673d07bcbf8c1c1910c785d99e3062085dbbe2f2665b4566f1485a"), looks := true }, kinds := [], alts := [], laidByText := true, laidKinds := [.data, .data, .data, .sentinel, .sentinel], laidTests := true, laidLooks := .later }
def LexerJoinCardSaid : Prop := Claim7.holds Tryd.pinned (.plain (OpenSpec.ofChange lexerJoinSpec)) lexerJoinCard

/-- THE SECOND FORM's CARD OF 'erasurelaw02.LexerScan'. -/
def lexerScanUptoCard : Claim7 := { stood := { row := lexerScanUptoRow, standIns := [], harness := (true, "7a70622e44673d07bcbf8c1c1910c785d99e3062085dbbe2f2665b4566f1485a"), looks := true }, kinds := [], alts := [], laidByText := true, laidKinds := [.data, .data, .data, .sentinel, .sentinel], laidTests := true, laidLooks := .later }
def LexerScanUptoCardSaid : Prop := Claim7.holds Tryd.pinned (.plain (OpenSpec.upto lexerScanSpec)) lexerScanUptoCard

/-- THE SECOND FORM's CARD OF 'erasurelaw02.LexerPieces'. -/
def lexerPiecesUptoCard : Claim7 := { stood := { row := lexerPiecesUptoRow, standIns := [], harness := (true, "7a70622e44673d07bcbf8c1c1910c785d99e3062085dbbe2f2665b4566f1485a"), looks := true }, kinds := [], alts := [], laidByText := true, laidKinds := [.data, .data, .data, .sentinel, .sentinel], laidTests := true, laidLooks := .later }
def LexerPiecesUptoCardSaid : Prop := Claim7.holds Tryd.pinned (.plain (OpenSpec.upto lexerPiecesSpec)) lexerPiecesUptoCard

/-- THE SECOND FORM's CARD OF 'erasurelaw02.LexerLimits'. -/
def lexerLimitsUptoCard : Claim7 := { stood := { row := lexerLimitsUptoRow, standIns := [], harness := (true, "7a70622e44673d07bcbf8c1c1910c785d99e3062085dbbe2f2665b4566f1485a"), looks := true }, kinds := [], alts := [], laidByText := true, laidKinds := [.data, .data, .data, .sentinel, .sentinel], laidTests := true, laidLooks := .later }
def LexerLimitsUptoCardSaid : Prop := Claim7.holds Tryd.pinned (.plain (OpenSpec.upto lexerLimitsSpec)) lexerLimitsUptoCard

/-- THE SECOND FORM's CARD OF 'erasurelaw02.LexerCover'. -/
def lexerCoverUptoCard : Claim7 := { stood := { row := lexerCoverUptoRow, standIns := [], harness := (true, "7a70622e44673d07bcbf8c1c1910c785d99e3062085dbbe2f2665b4566f1485a"), looks := true }, kinds := [], alts := [], laidByText := true, laidKinds := [.data, .data, .data, .sentinel, .sentinel], laidTests := true, laidLooks := .later }
def LexerCoverUptoCardSaid : Prop := Claim7.holds Tryd.pinned (.plain (OpenSpec.upto lexerCoverSpec)) lexerCoverUptoCard

/-- THE SECOND FORM's CARD OF 'erasurelaw02.LexerNames'. -/
def lexerNamesUptoCard : Claim7 := { stood := { row := lexerNamesUptoRow, standIns := [], harness := (true, "7a70622e44673d07bcbf8c1c1910c785d99e3062085dbbe2f2665b4566f1485a"), looks := true }, kinds := [], alts := [], laidByText := true, laidKinds := [.data, .data, .data, .sentinel, .sentinel], laidTests := true, laidLooks := .later }
def LexerNamesUptoCardSaid : Prop := Claim7.holds Tryd.pinned (.plain (OpenSpec.upto lexerNamesSpec)) lexerNamesUptoCard

/-- THE SECOND FORM's CARD OF 'erasurelaw02.LexerBack'. -/
def lexerBackUptoCard : Claim7 := { stood := { row := lexerBackUptoRow, standIns := [], harness := (true, "7a70622e44673d07bcbf8c1c1910c785d99e3062085dbbe2f2665b4566f1485a"), looks := true }, kinds := [], alts := [], laidByText := true, laidKinds := [.data, .data, .data, .sentinel, .sentinel], laidTests := true, laidLooks := .later }
def LexerBackUptoCardSaid : Prop := Claim7.holds Tryd.pinned (.plain (OpenSpec.upto lexerBackSpec)) lexerBackUptoCard

/-- THE SECOND FORM's CARD OF 'erasurelaw02.LexerJoin'. -/
def lexerJoinUptoCard : Claim7 := { stood := { row := lexerJoinUptoRow, standIns := [], harness := (true, "7a70622e44673d07bcbf8c1c1910c785d99e3062085dbbe2f2665b4566f1485a"), looks := true }, kinds := [], alts := [], laidByText := true, laidKinds := [.data, .data, .data, .sentinel, .sentinel], laidTests := true, laidLooks := .later }
def LexerJoinUptoCardSaid : Prop := Claim7.holds Tryd.pinned (.plain (OpenSpec.upto lexerJoinSpec)) lexerJoinUptoCard
end Rows
end Go.Proofs.YtmbegmhgiekofaaDoor
