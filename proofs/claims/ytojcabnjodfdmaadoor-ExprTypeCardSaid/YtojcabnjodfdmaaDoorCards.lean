/-
  DERIVED. GIVEN WITH THE SEED: THE CARDS: each row of YtojcabnjodfdmaaDoorRows.lean that lists a variable, with what it lists TIED to the program's text (the seventh form; the later family's looks); each row that meets fmt, with fmt's text TOLD by the authors' own Lean function (tested against real Go, not proved from fmt's source: count such statements apart). THE CARD IS WHAT COUNTS. Prove the row's statement (the work); the ties are given (YtojcabnjodfdmaaDoorTie.lean); close each card by the builder's one call (the guide's Derived/Test/ToyasCard.lean, 'card_holds'). Laid BY PROGRAM, IN A SANDBOX (cutbox-door.mjs). By AI agents, Wed Nov 11 2026. No macro, syntax, notation, axiom, sorry.
-/
import Derived.Test.YtojcabnjodfdmaaDoorRows
import GoSem.ClaimSeven
namespace Go.Proofs.YtojcabnjodfdmaaDoor
namespace Rows

/-- THE TIED CARD OF 'erasurelaw03.ExprValid'. -/
def exprValidCard : Claim7 := { stood := { row := exprValidRow, standIns := [], harness := (true, "1192c6304f4ed4be646b5e6fe00a2caea2da14ab334f0e7432ed01e6ab394ed9"), looks := false }, kinds := [], alts := [], laidByText := true, laidKinds := [.data, .data, .data], laidTests := true, laidLooks := .later }
def ExprValidCardSaid : Prop := Claim7.holds Tryd.pinned (.plain (OpenSpec.ofChange exprValidSpec)) exprValidCard

/-- THE TIED CARD OF 'erasurelaw03.ExprLimits'. -/
def exprLimitsCard : Claim7 := { stood := { row := exprLimitsRow, standIns := [], harness := (true, "1192c6304f4ed4be646b5e6fe00a2caea2da14ab334f0e7432ed01e6ab394ed9"), looks := false }, kinds := [], alts := [], laidByText := true, laidKinds := [.data, .data, .data], laidTests := true, laidLooks := .later }
def ExprLimitsCardSaid : Prop := Claim7.holds Tryd.pinned (.plain (OpenSpec.ofChange exprLimitsSpec)) exprLimitsCard

/-- THE TIED CARD OF 'erasurelaw03.ExprOperators'. -/
def exprOperatorsCard : Claim7 := { stood := { row := exprOperatorsRow, standIns := [], harness := (true, "1192c6304f4ed4be646b5e6fe00a2caea2da14ab334f0e7432ed01e6ab394ed9"), looks := false }, kinds := [], alts := [], laidByText := true, laidKinds := [.data, .data, .data], laidTests := true, laidLooks := .later }
def ExprOperatorsCardSaid : Prop := Claim7.holds Tryd.pinned (.plain (OpenSpec.ofChange exprOperatorsSpec)) exprOperatorsCard

/-- THE TIED CARD OF 'erasurelaw03.ExprFormat'. -/
def exprFormatCard : Claim7 := { stood := { row := exprFormatRow, standIns := [], harness := (true, "1192c6304f4ed4be646b5e6fe00a2caea2da14ab334f0e7432ed01e6ab394ed9"), looks := false }, kinds := [], alts := [], laidByText := true, laidKinds := [.data, .data, .data], laidTests := true, laidLooks := .later }
def ExprFormatCardSaid : Prop := Claim7.holds Tryd.pinned (.plain (OpenSpec.ofChange exprFormatSpec)) exprFormatCard

/-- THE TIED CARD OF 'erasurelaw03.ExprEval'. -/
def exprEvalCard : Claim7 := { stood := { row := exprEvalRow, standIns := [], harness := (true, "1192c6304f4ed4be646b5e6fe00a2caea2da14ab334f0e7432ed01e6ab394ed9"), looks := false }, kinds := [], alts := [], laidByText := true, laidKinds := [.data, .data, .data], laidTests := true, laidLooks := .later }
def ExprEvalCardSaid : Prop := Claim7.holds Tryd.pinned (.plain (OpenSpec.ofChange exprEvalSpec)) exprEvalCard

/-- THE TIED CARD OF 'erasurelaw03.ExprSubstitute'. -/
def exprSubstituteCard : Claim7 := { stood := { row := exprSubstituteRow, standIns := [], harness := (true, "1192c6304f4ed4be646b5e6fe00a2caea2da14ab334f0e7432ed01e6ab394ed9"), looks := false }, kinds := [], alts := [], laidByText := true, laidKinds := [.data, .data, .data], laidTests := true, laidLooks := .later }
def ExprSubstituteCardSaid : Prop := Claim7.holds Tryd.pinned (.plain (OpenSpec.ofChange exprSubstituteSpec)) exprSubstituteCard

/-- THE TIED CARD OF 'erasurelaw03.ExprComposes'. -/
def exprComposesCard : Claim7 := { stood := { row := exprComposesRow, standIns := [], harness := (true, "1192c6304f4ed4be646b5e6fe00a2caea2da14ab334f0e7432ed01e6ab394ed9"), looks := false }, kinds := [], alts := [], laidByText := true, laidKinds := [.data, .data, .data], laidTests := true, laidLooks := .later }
def ExprComposesCardSaid : Prop := Claim7.holds Tryd.pinned (.plain (OpenSpec.ofChange exprComposesSpec)) exprComposesCard

/-- THE TIED CARD OF 'erasurelaw03.ExprType'. -/
def exprTypeCard : Claim7 := { stood := { row := exprTypeRow, standIns := [], harness := (true, "1192c6304f4ed4be646b5e6fe00a2caea2da14ab334f0e7432ed01e6ab394ed9"), looks := false }, kinds := [], alts := [], laidByText := true, laidKinds := [.data, .data, .data], laidTests := true, laidLooks := .later }
def ExprTypeCardSaid : Prop := Claim7.holds Tryd.pinned (.plain (OpenSpec.ofChange exprTypeSpec)) exprTypeCard

/-- THE TIED CARD OF 'erasurelaw03.ExprSound'. -/
def exprSoundCard : Claim7 := { stood := { row := exprSoundRow, standIns := [], harness := (true, "1192c6304f4ed4be646b5e6fe00a2caea2da14ab334f0e7432ed01e6ab394ed9"), looks := false }, kinds := [], alts := [], laidByText := true, laidKinds := [.data, .data, .data], laidTests := true, laidLooks := .later }
def ExprSoundCardSaid : Prop := Claim7.holds Tryd.pinned (.plain (OpenSpec.ofChange exprSoundSpec)) exprSoundCard

/-- THE SECOND FORM's CARD OF 'erasurelaw03.ExprValid'. -/
def exprValidUptoCard : Claim7 := { stood := { row := exprValidUptoRow, standIns := [], harness := (true, "1192c6304f4ed4be646b5e6fe00a2caea2da14ab334f0e7432ed01e6ab394ed9"), looks := false }, kinds := [], alts := [], laidByText := true, laidKinds := [.data, .data, .data], laidTests := true, laidLooks := .later }
def ExprValidUptoCardSaid : Prop := Claim7.holds Tryd.pinned (.plain (OpenSpec.upto exprValidSpec)) exprValidUptoCard

/-- THE SECOND FORM's CARD OF 'erasurelaw03.ExprLimits'. -/
def exprLimitsUptoCard : Claim7 := { stood := { row := exprLimitsUptoRow, standIns := [], harness := (true, "1192c6304f4ed4be646b5e6fe00a2caea2da14ab334f0e7432ed01e6ab394ed9"), looks := false }, kinds := [], alts := [], laidByText := true, laidKinds := [.data, .data, .data], laidTests := true, laidLooks := .later }
def ExprLimitsUptoCardSaid : Prop := Claim7.holds Tryd.pinned (.plain (OpenSpec.upto exprLimitsSpec)) exprLimitsUptoCard

/-- THE SECOND FORM's CARD OF 'erasurelaw03.ExprOperators'. -/
def exprOperatorsUptoCard : Claim7 := { stood := { row := exprOperatorsUptoRow, standIns := [], harness := (true, "1192c6304f4ed4be646b5e6fe00a2caea2da14ab334f0e7432ed01e6ab394ed9"), looks := false }, kinds := [], alts := [], laidByText := true, laidKinds := [.data, .data, .data], laidTests := true, laidLooks := .later }
def ExprOperatorsUptoCardSaid : Prop := Claim7.holds Tryd.pinned (.plain (OpenSpec.upto exprOperatorsSpec)) exprOperatorsUptoCard

/-- THE SECOND FORM's CARD OF 'erasurelaw03.ExprFormat'. -/
def exprFormatUptoCard : Claim7 := { stood := { row := exprFormatUptoRow, standIns := [], harness := (true, "1192c6304f4ed4be646b5e6fe00a2caea2da14ab334f0e7432ed01e6ab394ed9"), looks := false }, kinds := [], alts := [], laidByText := true, laidKinds := [.data, .data, .data], laidTests := true, laidLooks := .later }
def ExprFormatUptoCardSaid : Prop := Claim7.holds Tryd.pinned (.plain (OpenSpec.upto exprFormatSpec)) exprFormatUptoCard

/-- THE SECOND FORM's CARD OF 'erasurelaw03.ExprEval'. -/
def exprEvalUptoCard : Claim7 := { stood := { row := exprEvalUptoRow, standIns := [], harness := (true, "1192c6304f4ed4be646b5e6fe00a2caea2da14ab334f0e7432ed01e6ab394ed9"), looks := false }, kinds := [], alts := [], laidByText := true, laidKinds := [.data, .data, .data], laidTests := true, laidLooks := .later }
def ExprEvalUptoCardSaid : Prop := Claim7.holds Tryd.pinned (.plain (OpenSpec.upto exprEvalSpec)) exprEvalUptoCard

/-- THE SECOND FORM's CARD OF 'erasurelaw03.ExprSubstitute'. -/
def exprSubstituteUptoCard : Claim7 := { stood := { row := exprSubstituteUptoRow, standIns := [], harness := (true, "1192c6304f4ed4be646b5e6fe00a2caea2da14ab334f0e7432ed01e6ab394ed9"), looks := false }, kinds := [], alts := [], laidByText := true, laidKinds := [.data, .data, .data], laidTests := true, laidLooks := .later }
def ExprSubstituteUptoCardSaid : Prop := Claim7.holds Tryd.pinned (.plain (OpenSpec.upto exprSubstituteSpec)) exprSubstituteUptoCard

/-- THE SECOND FORM's CARD OF 'erasurelaw03.ExprComposes'. -/
def exprComposesUptoCard : Claim7 := { stood := { row := exprComposesUptoRow, standIns := [], harness := (true, "1192c6304f4ed4be646b5e6fe00a2caea2da14ab334f0e7432ed01e6ab394ed9"), looks := false }, kinds := [], alts := [], laidByText := true, laidKinds := [.data, .data, .data], laidTests := true, laidLooks := .later }
def ExprComposesUptoCardSaid : Prop := Claim7.holds Tryd.pinned (.plain (OpenSpec.upto exprComposesSpec)) exprComposesUptoCard

/-- THE SECOND FORM's CARD OF 'erasurelaw03.ExprType'. -/
def exprTypeUptoCard : Claim7 := { stood := { row := exprTypeUptoRow, standIns := [], harness := (true, "1192c6304f4ed4be646b5e6fe00a2caea2da14ab334f0e7432ed01e6ab394ed9"), looks := false }, kinds := [], alts := [], laidByText := true, laidKinds := [.data, .data, .data], laidTests := true, laidLooks := .later }
def ExprTypeUptoCardSaid : Prop := Claim7.holds Tryd.pinned (.plain (OpenSpec.upto exprTypeSpec)) exprTypeUptoCard

/-- THE SECOND FORM's CARD OF 'erasurelaw03.ExprSound'. -/
def exprSoundUptoCard : Claim7 := { stood := { row := exprSoundUptoRow, standIns := [], harness := (true, "1192c6304f4ed4be646b5e6fe00a2caea2da14ab334f0e7432ed01e6ab394ed9"), looks := false }, kinds := [], alts := [], laidByText := true, laidKinds := [.data, .data, .data], laidTests := true, laidLooks := .later }
def ExprSoundUptoCardSaid : Prop := Claim7.holds Tryd.pinned (.plain (OpenSpec.upto exprSoundSpec)) exprSoundUptoCard
end Rows
end Go.Proofs.YtojcabnjodfdmaaDoor
