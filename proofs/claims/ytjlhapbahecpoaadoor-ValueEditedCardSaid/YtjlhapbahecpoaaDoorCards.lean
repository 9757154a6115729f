/-
  DERIVED. GIVEN WITH THE SEED: THE CARDS: each row of YtjlhapbahecpoaaDoorRows.lean that lists a variable, with what it lists TIED to the program's text (the seventh form; the later family's looks); each row that meets fmt, with fmt's text TOLD by the authors' own Lean function (tested against real Go, not proved from fmt's source: count such statements apart). THE CARD IS WHAT COUNTS. Prove the row's statement (the work); the ties are given (YtjlhapbahecpoaaDoorTie.lean); close each card by the builder's one call (the guide's Derived/Test/ToyasCard.lean, 'card_holds'). Laid BY PROGRAM, IN A SANDBOX (cutbox-door.mjs). By AI agents, Wed Nov 11 2026. No macro, syntax, notation, axiom, sorry.
-/
import Derived.Test.YtjlhapbahecpoaaDoorRows
import GoSem.ClaimSeven
namespace Go.Proofs.YtjlhapbahecpoaaDoor
namespace Rows

/-- THE TIED CARD OF 'erasurelaw01.ValueFormat'. -/
def valueFormatCard : Claim7 := { stood := { row := valueFormatRow, standIns := [], harness := (true, "eceabb95b585453313724f40535bd0306dd09887390ced6abe24303f1ffaf82d"), looks := true }, kinds := [], alts := [], laidByText := true, laidKinds := [.data, .data, .data], laidTests := true, laidLooks := .later }
def ValueFormatCardSaid : Prop := Claim7.holds Tryd.pinned (.plain (OpenSpec.ofChange valueFormatSpec)) valueFormatCard

/-- THE TIED CARD OF 'erasurelaw01.ValueValid'. -/
def valueValidCard : Claim7 := { stood := { row := valueValidRow, standIns := [], harness := (true, "eceabb95b585453313724f40535bd0306dd09887390ced6abe24303f1ffaf82d"), looks := true }, kinds := [], alts := [], laidByText := true, laidKinds := [.data, .data, .data], laidTests := true, laidLooks := .later }
def ValueValidCardSaid : Prop := Claim7.holds Tryd.pinned (.plain (OpenSpec.ofChange valueValidSpec)) valueValidCard

/-- THE TIED CARD OF 'erasurelaw01.ValueLimits'. -/
def valueLimitsCard : Claim7 := { stood := { row := valueLimitsRow, standIns := [], harness := (true, "eceabb95b585453313724f40535bd0306dd09887390ced6abe24303f1ffaf82d"), looks := true }, kinds := [], alts := [], laidByText := true, laidKinds := [.data, .data, .data], laidTests := true, laidLooks := .later }
def ValueLimitsCardSaid : Prop := Claim7.holds Tryd.pinned (.plain (OpenSpec.ofChange valueLimitsSpec)) valueLimitsCard

/-- THE TIED CARD OF 'erasurelaw01.ValueCompare'. -/
def valueCompareCard : Claim7 := { stood := { row := valueCompareRow, standIns := [], harness := (true, "eceabb95b585453313724f40535bd0306dd09887390ced6abe24303f1ffaf82d"), looks := true }, kinds := [], alts := [], laidByText := true, laidKinds := [.data, .data, .data], laidTests := true, laidLooks := .later }
def ValueCompareCardSaid : Prop := Claim7.holds Tryd.pinned (.plain (OpenSpec.ofChange valueCompareSpec)) valueCompareCard

/-- THE TIED CARD OF 'erasurelaw01.ValueOrder'. -/
def valueOrderCard : Claim7 := { stood := { row := valueOrderRow, standIns := [], harness := (true, "eceabb95b585453313724f40535bd0306dd09887390ced6abe24303f1ffaf82d"), looks := true }, kinds := [], alts := [], laidByText := true, laidKinds := [.data, .data, .data], laidTests := true, laidLooks := .later }
def ValueOrderCardSaid : Prop := Claim7.holds Tryd.pinned (.plain (OpenSpec.ofChange valueOrderSpec)) valueOrderCard

/-- THE TIED CARD OF 'erasurelaw01.ValueEmbeds'. -/
def valueEmbedsCard : Claim7 := { stood := { row := valueEmbedsRow, standIns := [], harness := (true, "eceabb95b585453313724f40535bd0306dd09887390ced6abe24303f1ffaf82d"), looks := true }, kinds := [], alts := [], laidByText := true, laidKinds := [.data, .data, .data], laidTests := true, laidLooks := .later }
def ValueEmbedsCardSaid : Prop := Claim7.holds Tryd.pinned (.plain (OpenSpec.ofChange valueEmbedsSpec)) valueEmbedsCard

/-- THE TIED CARD OF 'erasurelaw01.ValueEncode'. -/
def valueEncodeCard : Claim7 := { stood := { row := valueEncodeRow, standIns := [], harness := (true, "eceabb95b585453313724f40535bd0306dd09887390ced6abe24303f1ffaf82d"), looks := true }, kinds := [], alts := [], laidByText := true, laidKinds := [.data, .data, .data], laidTests := true, laidLooks := .later }
def ValueEncodeCardSaid : Prop := Claim7.holds Tryd.pinned (.plain (OpenSpec.ofChange valueEncodeSpec)) valueEncodeCard

/-- THE TIED CARD OF 'erasurelaw01.ValueDecode'. -/
def valueDecodeCard : Claim7 := { stood := { row := valueDecodeRow, standIns := [], harness := (true, "eceabb95b585453313724f40535bd0306dd09887390ced6abe24303f1ffaf82d"), looks := true }, kinds := [], alts := [], laidByText := true, laidKinds := [.data, .data, .data], laidTests := true, laidLooks := .later }
def ValueDecodeCardSaid : Prop := Claim7.holds Tryd.pinned (.plain (OpenSpec.ofChange valueDecodeSpec)) valueDecodeCard

/-- THE TIED CARD OF 'erasurelaw01.ValueParse'. -/
def valueParseCard : Claim7 := { stood := { row := valueParseRow, standIns := [], harness := (true, "eceabb95b585453313724f40535bd0306dd09887390ced6abe24303f1ffaf82d"), looks := true }, kinds := [], alts := [], laidByText := true, laidKinds := [.data, .data, .data, .sentinel, .sentinel], laidTests := true, laidLooks := .later }
def ValueParseCardSaid : Prop := Claim7.holds Tryd.pinned (.plain (OpenSpec.ofChange valueParseSpec)) valueParseCard

/-- THE TIED CARD OF 'erasurelaw01.ValueEdited'. -/
def valueEditedCard : Claim7 := { stood := { row := valueEditedRow, standIns := [], harness := (true, "eceabb95b585453313724f40535bd0306dd09887390ced6abe24303f1ffaf82d"), looks := true }, kinds := [], alts := [], laidByText := true, laidKinds := [.data, .data, .data, .sentinel, .sentinel], laidTests := true, laidLooks := .later }
def ValueEditedCardSaid : Prop := Claim7.holds Tryd.pinned (.plain (OpenSpec.ofChange valueEditedSpec)) valueEditedCard

/-- THE TIED CARD OF 'erasurelaw01.ValueBack'. -/
def valueBackCard : Claim7 := { stood := { row := valueBackRow, standIns := [], harness := (true, "eceabb95b585453313724f40535bd0306dd09887390ced6abe24303f1ffaf82d"), looks := true }, kinds := [], alts := [], laidByText := true, laidKinds := [.data, .data, .data, .sentinel, .sentinel], laidTests := true, laidLooks := .later }
def ValueBackCardSaid : Prop := Claim7.holds Tryd.pinned (.plain (OpenSpec.ofChange valueBackSpec)) valueBackCard

/-- THE SECOND FORM's CARD OF 'erasurelaw01.ValueFormat'. -/
def valueFormatUptoCard : Claim7 := { stood := { row := valueFormatUptoRow, standIns := [], harness := (true, "eceabb95b585453313724f40535bd0306dd09887390ced6abe24303f1ffaf82d"), looks := true }, kinds := [], alts := [], laidByText := true, laidKinds := [.data, .data, .data], laidTests := true, laidLooks := .later }
def ValueFormatUptoCardSaid : Prop := Claim7.holds Tryd.pinned (.plain (OpenSpec.upto valueFormatSpec)) valueFormatUptoCard

/-- THE SECOND FORM's CARD OF 'erasurelaw01.ValueValid'. -/
def valueValidUptoCard : Claim7 := { stood := { row := valueValidUptoRow, standIns := [], harness := (true, "eceabb95b585453313724f40535bd0306dd09887390ced6abe24303f1ffaf82d"), looks := true }, kinds := [], alts := [], laidByText := true, laidKinds := [.data, .data, .data], laidTests := true, laidLooks := .later }
def ValueValidUptoCardSaid : Prop := Claim7.holds Tryd.pinned (.plain (OpenSpec.upto valueValidSpec)) valueValidUptoCard

/-- THE SECOND FORM's CARD OF 'erasurelaw01.ValueLimits'. -/
def valueLimitsUptoCard : Claim7 := { stood := { row := valueLimitsUptoRow, standIns := [], harness := (true, "eceabb95b585453313724f40535bd0306dd09887390ced6abe24303f1ffaf82d"), looks := true }, kinds := [], alts := [], laidByText := true, laidKinds := [.data, .data, .data], laidTests := true, laidLooks := .later }
def ValueLimitsUptoCardSaid : Prop := Claim7.holds Tryd.pinned (.plain (OpenSpec.upto valueLimitsSpec)) valueLimitsUptoCard

/-- THE SECOND FORM's CARD OF 'erasurelaw01.ValueCompare'. -/
def valueCompareUptoCard : Claim7 := { stood := { row := valueCompareUptoRow, standIns := [], harness := (true, "eceabb95b585453313724f40535bd0306dd09887390ced6abe24303f1ffaf82d"), looks := true }, kinds := [], alts := [], laidByText := true, laidKinds := [.data, .data, .data], laidTests := true, laidLooks := .later }
def ValueCompareUptoCardSaid : Prop := Claim7.holds Tryd.pinned (.plain (OpenSpec.upto valueCompareSpec)) valueCompareUptoCard

/-- THE SECOND FORM's CARD OF 'erasurelaw01.ValueOrder'. -/
def valueOrderUptoCard : Claim7 := { stood := { row := valueOrderUptoRow, standIns := [], harness := (true, "eceabb95b585453313724f40535bd0306dd09887390ced6abe24303f1ffaf82d"), looks := true }, kinds := [], alts := [], laidByText := true, laidKinds := [.data, .data, .data], laidTests := true, laidLooks := .later }
def ValueOrderUptoCardSaid : Prop := Claim7.holds Tryd.pinned (.plain (OpenSpec.upto valueOrderSpec)) valueOrderUptoCard

/-- THE SECOND FORM's CARD OF 'erasurelaw01.ValueEmbeds'. -/
def valueEmbedsUptoCard : Claim7 := { stood := { row := valueEmbedsUptoRow, standIns := [], harness := (true, "eceabb95b585453313724f40535bd0306dd09887390ced6abe24303f1ffaf82d"), looks := true }, kinds := [], alts := [], laidByText := true, laidKinds := [.data, .data, .data], laidTests := true, laidLooks := .later }
def ValueEmbedsUptoCardSaid : Prop := Claim7.holds Tryd.pinned (.plain (OpenSpec.upto valueEmbedsSpec)) valueEmbedsUptoCard

/-- THE SECOND FORM's CARD OF 'erasurelaw01.ValueEncode'. -/
def valueEncodeUptoCard : Claim7 := { stood := { row := valueEncodeUptoRow, standIns := [], harness := (true, "eceabb95b585453313724f40535bd0306dd09887390ced6abe24303f1ffaf82d"), looks := true }, kinds := [], alts := [], laidByText := true, laidKinds := [.data, .data, .data], laidTests := true, laidLooks := .later }
def ValueEncodeUptoCardSaid : Prop := Claim7.holds Tryd.pinned (.plain (OpenSpec.upto valueEncodeSpec)) valueEncodeUptoCard

/-- THE SECOND FORM's CARD OF 'erasurelaw01.ValueDecode'. -/
def valueDecodeUptoCard : Claim7 := { stood := { row := valueDecodeUptoRow, standIns := [], harness := (true, "eceabb95b585453313724f40535bd0306dd09887390ced6abe24303f1ffaf82d"), looks := true }, kinds := [], alts := [], laidByText := true, laidKinds := [.data, .data, .data], laidTests := true, laidLooks := .later }
def ValueDecodeUptoCardSaid : Prop := Claim7.holds Tryd.pinned (.plain (OpenSpec.upto valueDecodeSpec)) valueDecodeUptoCard

/-- THE SECOND FORM's CARD OF 'erasurelaw01.ValueParse'. -/
def valueParseUptoCard : Claim7 := { stood := { row := valueParseUptoRow, standIns := [], harness := (true, "eceabb95b585453313724f40535bd0306dd09887390ced6abe24303f1ffaf82d"), looks := true }, kinds := [], alts := [], laidByText := true, laidKinds := [.data, .data, .data, .sentinel, .sentinel], laidTests := true, laidLooks := .later }
def ValueParseUptoCardSaid : Prop := Claim7.holds Tryd.pinned (.plain (OpenSpec.upto valueParseSpec)) valueParseUptoCard

/-- THE SECOND FORM's CARD OF 'erasurelaw01.ValueEdited'. -/
def valueEditedUptoCard : Claim7 := { stood := { row := valueEditedUptoRow, standIns := [], harness := (true, "eceabb95b585453313724f40535bd0306dd09887390ced6abe24303f1ffaf82d"), looks := true }, kinds := [], alts := [], laidByText := true, laidKinds := [.data, .data, .data, .sentinel, .sentinel], laidTests := true, laidLooks := .later }
def ValueEditedUptoCardSaid : Prop := Claim7.holds Tryd.pinned (.plain (OpenSpec.upto valueEditedSpec)) valueEditedUptoCard

/-- THE SECOND FORM's CARD OF 'erasurelaw01.ValueBack'. -/
def valueBackUptoCard : Claim7 := { stood := { row := valueBackUptoRow, standIns := [], harness := (true, "eceabb95b585453313724f40535bd0306dd09887390ced6abe24303f1ffaf82d"), looks := true }, kinds := [], alts := [], laidByText := true, laidKinds := [.data, .data, .data, .sentinel, .sentinel], laidTests := true, laidLooks := .later }
def ValueBackUptoCardSaid : Prop := Claim7.holds Tryd.pinned (.plain (OpenSpec.upto valueBackSpec)) valueBackUptoCard
end Rows
end Go.Proofs.YtjlhapbahecpoaaDoor
