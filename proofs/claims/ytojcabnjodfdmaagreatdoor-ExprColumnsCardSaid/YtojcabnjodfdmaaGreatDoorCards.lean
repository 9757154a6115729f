/-
  DERIVED. GIVEN WITH THE SEED: THE CARDS: each row of YtojcabnjodfdmaaGreatDoorRows.lean that lists a variable, with what it lists TIED to the program's text (the seventh form; the later family's looks); each row that meets fmt, with fmt's text TOLD by the authors' own Lean function (tested against real Go, not proved from fmt's source: count such statements apart). THE CARD IS WHAT COUNTS. Prove the row's statement (the work); the ties are given (YtojcabnjodfdmaaGreatDoorTie.lean); close each card by the builder's one call (the guide's Derived/Test/ToyasCard.lean, 'card_holds'). Laid BY PROGRAM, IN A SANDBOX (cutbox-door.mjs). By AI agents, Wed Nov 11 2026. No macro, syntax, notation, axiom, sorry.
-/
import Derived.Test.YtojcabnjodfdmaaGreatDoorRows
import GoSem.ClaimSeven
namespace Go.Proofs.YtojcabnjodfdmaaGreatDoor
namespace Rows

/-- THE TIED CARD OF 'erasurelaw03.ExprFold'. -/
def exprFoldCard : Claim7 := { stood := { row := exprFoldRow, standIns := [], harness := (true, "0bd89b04d59c13bca301fd9226713fb53059a0087166aeaf9243c645eea94ca3"), looks := false }, kinds := [], alts := [], laidByText := true, laidKinds := [.data, .data, .data], laidTests := true, laidLooks := .later }
def ExprFoldCardSaid : Prop := Claim7.holds Tryz.pinned (.plain (OpenSpec.ofChange exprFoldSpec)) exprFoldCard

/-- THE TIED CARD OF 'erasurelaw03.ExprColumns'. -/
def exprColumnsCard : Claim7 := { stood := { row := exprColumnsRow, standIns := [], harness := (true, "0bd89b04d59c13bca301fd9226713fb53059a0087166aeaf9243c645eea94ca3"), looks := false }, kinds := [], alts := [], laidByText := true, laidKinds := [.data, .data, .data], laidTests := true, laidLooks := .later }
def ExprColumnsCardSaid : Prop := Claim7.holds Tryz.pinned (.plain (OpenSpec.ofChange exprColumnsSpec)) exprColumnsCard

/-- THE SECOND FORM's CARD OF 'erasurelaw03.ExprFold'. -/
def exprFoldUptoCard : Claim7 := { stood := { row := exprFoldUptoRow, standIns := [], harness := (true, "0bd89b04d59c13bca301fd9226713fb53059a0087166aeaf9243c645eea94ca3"), looks := false }, kinds := [], alts := [], laidByText := true, laidKinds := [.data, .data, .data], laidTests := true, laidLooks := .later }
def ExprFoldUptoCardSaid : Prop := Claim7.holds Tryz.pinned (.plain (OpenSpec.upto exprFoldSpec)) exprFoldUptoCard

/-- THE SECOND FORM's CARD OF 'erasurelaw03.ExprColumns'. -/
def exprColumnsUptoCard : Claim7 := { stood := { row := exprColumnsUptoRow, standIns := [], harness := (true, "0bd89b04d59c13bca301fd9226713fb53059a0087166aeaf9243c645eea94ca3"), looks := false }, kinds := [], alts := [], laidByText := true, laidKinds := [.data, .data, .data], laidTests := true, laidLooks := .later }
def ExprColumnsUptoCardSaid : Prop := Claim7.holds Tryz.pinned (.plain (OpenSpec.upto exprColumnsSpec)) exprColumnsUptoCard
end Rows
end Go.Proofs.YtojcabnjodfdmaaGreatDoor
