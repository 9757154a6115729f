/-
  NARROWER THAN 'FOR EVERY INPUT', by the rows' own cells (each row's printed sentence says how): ValueFormat: laid · ValueValid: laid · ValueLimits: laid · ValueCompare: laid · ValueOrder: laid · ValueEmbeds: laid · ValueEncode: laid · ValueDecode: laid · ValueParse: laid · ValueEdited: laid · ValueBack: laid.
  DERIVED. THE GIVEN ROWS OF THIS SEAT. 11 by the template 'for every input the law returns true; each argument reads behind the call as it read before'; 0 by the template 'total and deterministic' (their statements: YtjlhapbahecpoaaDoorTotals.lean).
  GIVEN WITH THE SEED: the statements are not yours to turn. If you find one false, say at which input.
  Laid BY PROGRAM, IN A SANDBOX (cutbox-rows.mjs): the forced cells as the released guide's own fill.sh prints them over the translation 17f8809481036ac2… (all of the seat's roots in one cut). By AI agents, Wed Nov 11 2026. No macro, syntax, notation, axiom, sorry.
-/
import Derived.Test.YtjlhapbahecpoaaDoorChecked
import GoSem.Claim
import GoSem.ClaimJoined
import GoSem.ClaimMapViews
import Derived.JoinedTies
import Derived.KernelRfl
namespace Go.Proofs.YtjlhapbahecpoaaDoor
/- THE CELL 'sum', in the pinned program and in every row, IS THE sha256 OF THE DUMP (.gsa) THAT YtjlhapbahecpoaaDoorProg.lean LOADS. Nothing in Lean hashes anything: it is a label: what it is worth is what the hold of that sum in a sandbox is worth. -/
noncomputable def Tryd.pinned : Pinned := { name := "ytjlhapbahecpoaadoor", sum := "17f8809481036ac2bb05ff92afda97be32d7f6b66fefd486f1b81a89abe4e384", checked := Tryd.checked }
namespace Rows
def none {H : Type} : Left H := { results := [], args := [] }

/- WHAT THE LISTED PACKAGE-LEVEL VARIABLES READ AS WHEN THE CALL BEGINS. Each datum BY PROGRAM (the guide's laid-datum.mjs) off the statement by which the dump's own 'gosem.cut.vars' lays the variable. In a bare row this is a premise. The card (YtjlhapbahecpoaaDoorCards.lean) ties it to the program's text. -/
def laid_math_bits_deBruijn32tab {H : Type} : DataW H := .agg [.lit (.int .u8 0), .lit (.int .u8 1), .lit (.int .u8 28), .lit (.int .u8 2), .lit (.int .u8 29), .lit (.int .u8 14), .lit (.int .u8 24), .lit (.int .u8 3), .lit (.int .u8 30), .lit (.int .u8 22), .lit (.int .u8 20), .lit (.int .u8 15), .lit (.int .u8 25), .lit (.int .u8 17), .lit (.int .u8 4), .lit (.int .u8 8), .lit (.int .u8 31), .lit (.int .u8 27), .lit (.int .u8 13), .lit (.int .u8 23), .lit (.int .u8 21), .lit (.int .u8 19), .lit (.int .u8 16), .lit (.int .u8 7), .lit (.int .u8 26), .lit (.int .u8 12), .lit (.int .u8 18), .lit (.int .u8 6), .lit (.int .u8 11), .lit (.int .u8 5), .lit (.int .u8 10), .lit (.int .u8 9)]
def laid_math_bits_deBruijn64tab {H : Type} : DataW H := .agg [.lit (.int .u8 0), .lit (.int .u8 1), .lit (.int .u8 56), .lit (.int .u8 2), .lit (.int .u8 57), .lit (.int .u8 49), .lit (.int .u8 28), .lit (.int .u8 3), .lit (.int .u8 61), .lit (.int .u8 58), .lit (.int .u8 42), .lit (.int .u8 50), .lit (.int .u8 38), .lit (.int .u8 29), .lit (.int .u8 17), .lit (.int .u8 4), .lit (.int .u8 62), .lit (.int .u8 47), .lit (.int .u8 59), .lit (.int .u8 36), .lit (.int .u8 45), .lit (.int .u8 43), .lit (.int .u8 51), .lit (.int .u8 22), .lit (.int .u8 53), .lit (.int .u8 39), .lit (.int .u8 33), .lit (.int .u8 30), .lit (.int .u8 24), .lit (.int .u8 18), .lit (.int .u8 12), .lit (.int .u8 5), .lit (.int .u8 63), .lit (.int .u8 55), .lit (.int .u8 48), .lit (.int .u8 27), .lit (.int .u8 60), .lit (.int .u8 41), .lit (.int .u8 37), .lit (.int .u8 16), .lit (.int .u8 46), .lit (.int .u8 35), .lit (.int .u8 44), .lit (.int .u8 21), .lit (.int .u8 52), .lit (.int .u8 32), .lit (.int .u8 23), .lit (.int .u8 11), .lit (.int .u8 54), .lit (.int .u8 26), .lit (.int .u8 40), .lit (.int .u8 15), .lit (.int .u8 34), .lit (.int .u8 20), .lit (.int .u8 31), .lit (.int .u8 10), .lit (.int .u8 25), .lit (.int .u8 14), .lit (.int .u8 19), .lit (.int .u8 9), .lit (.int .u8 13), .lit (.int .u8 8), .lit (.int .u8 7), .lit (.int .u8 6)]
def laid_internal_strconv_uint64pow10 {H : Type} : DataW H := .agg [.lit (.int .u64 1), .lit (.int .u64 10), .lit (.int .u64 100), .lit (.int .u64 1000), .lit (.int .u64 10000), .lit (.int .u64 100000), .lit (.int .u64 1000000), .lit (.int .u64 10000000), .lit (.int .u64 100000000), .lit (.int .u64 1000000000), .lit (.int .u64 10000000000), .lit (.int .u64 100000000000), .lit (.int .u64 1000000000000), .lit (.int .u64 10000000000000), .lit (.int .u64 100000000000000), .lit (.int .u64 1000000000000000), .lit (.int .u64 10000000000000000), .lit (.int .u64 100000000000000000), .lit (.int .u64 1000000000000000000), .lit (.int .u64 10000000000000000000)]
def laid_strconv_ErrRange {H : Type} : DataW H := .iface "*errors.errorString" (.ptr (.agg [.lit (.string [118, 97, 108, 117, 101, 32, 111, 117, 116, 32, 111, 102, 32, 114, 97, 110, 103, 101])]))
def laid_strconv_ErrSyntax {H : Type} : DataW H := .iface "*errors.errorString" (.ptr (.agg [.lit (.string [105, 110, 118, 97, 108, 105, 100, 32, 115, 121, 110, 116, 97, 120])]))

/-- 'erasurelaw01.ValueFormat': WHATEVER THE INPUT: true; the input reads as it did. -/
def valueFormatSpec : ChangeSpec := { name := "valueFormat", fn := fun _ => fun
  | [d] => { results := [.lit (.bool true)], args := [d] }
  | _ => none }
def valueFormatRow : OpenClaim := { program := "ytjlhapbahecpoaadoor", sum := "17f8809481036ac2bb05ff92afda97be32d7f6b66fefd486f1b81a89abe4e384", func := "erasure/erasurelaw01.ValueFormat", spec := "valueFormat", recurses := true, named := ["internal/strconv.uint64pow10", "math/bits.deBruijn32tab", "math/bits.deBruijn64tab"], apart := false, laid := [("math/bits.deBruijn32tab", laid_math_bits_deBruijn32tab), ("math/bits.deBruijn64tab", laid_math_bits_deBruijn64tab), ("internal/strconv.uint64pow10", laid_internal_strconv_uint64pow10)] }
def ValueFormatSaid : Prop := valueFormatRow.holds Tryd.pinned (OpenSpec.ofChange valueFormatSpec)

/-- ITS FALSE NEIGHBOUR: 'it returns false'. Refute it at one input. -/
def valueFormatWrong : ChangeSpec := { name := "valueFormat", fn := fun _ => fun
  | [d] => { results := [.lit (.bool false)], args := [d] }
  | _ => none }
def ValueFormatWrongFalsely : Prop := valueFormatRow.holds Tryd.pinned (OpenSpec.ofChange valueFormatWrong)

/-- 'erasurelaw01.ValueValid': WHATEVER THE INPUT: true; the input reads as it did. -/
def valueValidSpec : ChangeSpec := { name := "valueValid", fn := fun _ => fun
  | [d] => { results := [.lit (.bool true)], args := [d] }
  | _ => none }
def valueValidRow : OpenClaim := { program := "ytjlhapbahecpoaadoor", sum := "17f8809481036ac2bb05ff92afda97be32d7f6b66fefd486f1b81a89abe4e384", func := "erasure/erasurelaw01.ValueValid", spec := "valueValid", named := ["internal/strconv.uint64pow10", "math/bits.deBruijn32tab", "math/bits.deBruijn64tab"], apart := false, laid := [("math/bits.deBruijn32tab", laid_math_bits_deBruijn32tab), ("math/bits.deBruijn64tab", laid_math_bits_deBruijn64tab), ("internal/strconv.uint64pow10", laid_internal_strconv_uint64pow10)] }
def ValueValidSaid : Prop := valueValidRow.holds Tryd.pinned (OpenSpec.ofChange valueValidSpec)

/-- ITS FALSE NEIGHBOUR: 'it returns false'. Refute it at one input. -/
def valueValidWrong : ChangeSpec := { name := "valueValid", fn := fun _ => fun
  | [d] => { results := [.lit (.bool false)], args := [d] }
  | _ => none }
def ValueValidWrongFalsely : Prop := valueValidRow.holds Tryd.pinned (OpenSpec.ofChange valueValidWrong)

/-- 'erasurelaw01.ValueLimits': WHATEVER THE INPUT: true; the input reads as it did. -/
def valueLimitsSpec : ChangeSpec := { name := "valueLimits", fn := fun _ => fun
  | [d] => { results := [.lit (.bool true)], args := [d] }
  | _ => none }
def valueLimitsRow : OpenClaim := { program := "ytjlhapbahecpoaadoor", sum := "17f8809481036ac2bb05ff92afda97be32d7f6b66fefd486f1b81a89abe4e384", func := "erasure/erasurelaw01.ValueLimits", spec := "valueLimits", named := ["internal/strconv.uint64pow10", "math/bits.deBruijn32tab", "math/bits.deBruijn64tab"], apart := false, laid := [("math/bits.deBruijn32tab", laid_math_bits_deBruijn32tab), ("math/bits.deBruijn64tab", laid_math_bits_deBruijn64tab), ("internal/strconv.uint64pow10", laid_internal_strconv_uint64pow10)] }
def ValueLimitsSaid : Prop := valueLimitsRow.holds Tryd.pinned (OpenSpec.ofChange valueLimitsSpec)

/-- ITS FALSE NEIGHBOUR: 'it returns false'. Refute it at one input. -/
def valueLimitsWrong : ChangeSpec := { name := "valueLimits", fn := fun _ => fun
  | [d] => { results := [.lit (.bool false)], args := [d] }
  | _ => none }
def ValueLimitsWrongFalsely : Prop := valueLimitsRow.holds Tryd.pinned (OpenSpec.ofChange valueLimitsWrong)

/-- 'erasurelaw01.ValueCompare': WHATEVER THE INPUT: true; the input reads as it did. -/
def valueCompareSpec : ChangeSpec := { name := "valueCompare", fn := fun _ => fun
  | [d1, d2] => { results := [.lit (.bool true)], args := [d1, d2] }
  | _ => none }
def valueCompareRow : OpenClaim := { program := "ytjlhapbahecpoaadoor", sum := "17f8809481036ac2bb05ff92afda97be32d7f6b66fefd486f1b81a89abe4e384", func := "erasure/erasurelaw01.ValueCompare", spec := "valueCompare", inPlace := ["internal/bytealg.abigen_runtime_cmpstring"], named := ["internal/strconv.uint64pow10", "math/bits.deBruijn32tab", "math/bits.deBruijn64tab"], apart := false, laid := [("math/bits.deBruijn32tab", laid_math_bits_deBruijn32tab), ("math/bits.deBruijn64tab", laid_math_bits_deBruijn64tab), ("internal/strconv.uint64pow10", laid_internal_strconv_uint64pow10)] }
def ValueCompareSaid : Prop := valueCompareRow.holds Tryd.pinned (OpenSpec.ofChange valueCompareSpec)

/-- ITS FALSE NEIGHBOUR: 'it returns false'. Refute it at one input. -/
def valueCompareWrong : ChangeSpec := { name := "valueCompare", fn := fun _ => fun
  | [d1, d2] => { results := [.lit (.bool false)], args := [d1, d2] }
  | _ => none }
def ValueCompareWrongFalsely : Prop := valueCompareRow.holds Tryd.pinned (OpenSpec.ofChange valueCompareWrong)

/-- 'erasurelaw01.ValueOrder': WHATEVER THE INPUT: true; the input reads as it did. -/
def valueOrderSpec : ChangeSpec := { name := "valueOrder", fn := fun _ => fun
  | [d] => { results := [.lit (.bool true)], args := [d] }
  | _ => none }
def valueOrderRow : OpenClaim := { program := "ytjlhapbahecpoaadoor", sum := "17f8809481036ac2bb05ff92afda97be32d7f6b66fefd486f1b81a89abe4e384", func := "erasure/erasurelaw01.ValueOrder", spec := "valueOrder", inPlace := ["internal/bytealg.abigen_runtime_cmpstring"], named := ["internal/strconv.uint64pow10", "math/bits.deBruijn32tab", "math/bits.deBruijn64tab"], apart := false, laid := [("math/bits.deBruijn32tab", laid_math_bits_deBruijn32tab), ("math/bits.deBruijn64tab", laid_math_bits_deBruijn64tab), ("internal/strconv.uint64pow10", laid_internal_strconv_uint64pow10)] }
def ValueOrderSaid : Prop := valueOrderRow.holds Tryd.pinned (OpenSpec.ofChange valueOrderSpec)

/-- ITS FALSE NEIGHBOUR: 'it returns false'. Refute it at one input. -/
def valueOrderWrong : ChangeSpec := { name := "valueOrder", fn := fun _ => fun
  | [d] => { results := [.lit (.bool false)], args := [d] }
  | _ => none }
def ValueOrderWrongFalsely : Prop := valueOrderRow.holds Tryd.pinned (OpenSpec.ofChange valueOrderWrong)

/-- 'erasurelaw01.ValueEmbeds': WHATEVER THE INPUT: true; the input reads as it did. -/
def valueEmbedsSpec : ChangeSpec := { name := "valueEmbeds", fn := fun _ => fun
  | [d] => { results := [.lit (.bool true)], args := [d] }
  | _ => none }
def valueEmbedsRow : OpenClaim := { program := "ytjlhapbahecpoaadoor", sum := "17f8809481036ac2bb05ff92afda97be32d7f6b66fefd486f1b81a89abe4e384", func := "erasure/erasurelaw01.ValueEmbeds", spec := "valueEmbeds", inPlace := ["internal/bytealg.abigen_runtime_cmpstring"], named := ["internal/strconv.uint64pow10", "math/bits.deBruijn32tab", "math/bits.deBruijn64tab"], apart := false, laid := [("math/bits.deBruijn32tab", laid_math_bits_deBruijn32tab), ("math/bits.deBruijn64tab", laid_math_bits_deBruijn64tab), ("internal/strconv.uint64pow10", laid_internal_strconv_uint64pow10)] }
def ValueEmbedsSaid : Prop := valueEmbedsRow.holds Tryd.pinned (OpenSpec.ofChange valueEmbedsSpec)

/-- ITS FALSE NEIGHBOUR: 'it returns false'. Refute it at one input. -/
def valueEmbedsWrong : ChangeSpec := { name := "valueEmbeds", fn := fun _ => fun
  | [d] => { results := [.lit (.bool false)], args := [d] }
  | _ => none }
def ValueEmbedsWrongFalsely : Prop := valueEmbedsRow.holds Tryd.pinned (OpenSpec.ofChange valueEmbedsWrong)

/-- 'erasurelaw01.ValueEncode': WHATEVER THE INPUT: true; the input reads as it did. -/
def valueEncodeSpec : ChangeSpec := { name := "valueEncode", fn := fun _ => fun
  | [d] => { results := [.lit (.bool true)], args := [d] }
  | _ => none }
def valueEncodeRow : OpenClaim := { program := "ytjlhapbahecpoaadoor", sum := "17f8809481036ac2bb05ff92afda97be32d7f6b66fefd486f1b81a89abe4e384", func := "erasure/erasurelaw01.ValueEncode", spec := "valueEncode", named := ["internal/strconv.uint64pow10", "math/bits.deBruijn32tab", "math/bits.deBruijn64tab"], apart := false, laid := [("math/bits.deBruijn32tab", laid_math_bits_deBruijn32tab), ("math/bits.deBruijn64tab", laid_math_bits_deBruijn64tab), ("internal/strconv.uint64pow10", laid_internal_strconv_uint64pow10)] }
def ValueEncodeSaid : Prop := valueEncodeRow.holds Tryd.pinned (OpenSpec.ofChange valueEncodeSpec)

/-- ITS FALSE NEIGHBOUR: 'it returns false'. Refute it at one input. -/
def valueEncodeWrong : ChangeSpec := { name := "valueEncode", fn := fun _ => fun
  | [d] => { results := [.lit (.bool false)], args := [d] }
  | _ => none }
def ValueEncodeWrongFalsely : Prop := valueEncodeRow.holds Tryd.pinned (OpenSpec.ofChange valueEncodeWrong)

/-- 'erasurelaw01.ValueDecode': WHATEVER THE INPUT: true; the input reads as it did. -/
def valueDecodeSpec : ChangeSpec := { name := "valueDecode", fn := fun _ => fun
  | [d1, d2] => { results := [.lit (.bool true)], args := [d1, d2] }
  | _ => none }
def valueDecodeRow : OpenClaim := { program := "ytjlhapbahecpoaadoor", sum := "17f8809481036ac2bb05ff92afda97be32d7f6b66fefd486f1b81a89abe4e384", func := "erasure/erasurelaw01.ValueDecode", spec := "valueDecode", named := ["internal/strconv.uint64pow10", "math/bits.deBruijn32tab", "math/bits.deBruijn64tab"], apart := false, laid := [("math/bits.deBruijn32tab", laid_math_bits_deBruijn32tab), ("math/bits.deBruijn64tab", laid_math_bits_deBruijn64tab), ("internal/strconv.uint64pow10", laid_internal_strconv_uint64pow10)] }
def ValueDecodeSaid : Prop := valueDecodeRow.holds Tryd.pinned (OpenSpec.ofChange valueDecodeSpec)

/-- ITS FALSE NEIGHBOUR: 'it returns false'. Refute it at one input. -/
def valueDecodeWrong : ChangeSpec := { name := "valueDecode", fn := fun _ => fun
  | [d1, d2] => { results := [.lit (.bool false)], args := [d1, d2] }
  | _ => none }
def ValueDecodeWrongFalsely : Prop := valueDecodeRow.holds Tryd.pinned (OpenSpec.ofChange valueDecodeWrong)

/-- 'erasurelaw01.ValueParse': WHATEVER THE INPUT: true; the input reads as it did. -/
def valueParseSpec : ChangeSpec := { name := "valueParse", fn := fun _ => fun
  | [d] => { results := [.lit (.bool true)], args := [d] }
  | _ => none }
def valueParseRow : OpenClaim := { program := "ytjlhapbahecpoaadoor", sum := "17f8809481036ac2bb05ff92afda97be32d7f6b66fefd486f1b81a89abe4e384", func := "erasure/erasurelaw01.ValueParse", spec := "valueParse", inPlace := ["internal/bytealg.IndexByteString"], named := ["internal/strconv.uint64pow10", "math/bits.deBruijn32tab", "math/bits.deBruijn64tab", "strconv.ErrSyntax", "strconv.ErrRange"], apart := false, laid := [("math/bits.deBruijn32tab", laid_math_bits_deBruijn32tab), ("math/bits.deBruijn64tab", laid_math_bits_deBruijn64tab), ("internal/strconv.uint64pow10", laid_internal_strconv_uint64pow10), ("strconv.ErrRange", laid_strconv_ErrRange), ("strconv.ErrSyntax", laid_strconv_ErrSyntax)] }
def ValueParseSaid : Prop := valueParseRow.holds Tryd.pinned (OpenSpec.ofChange valueParseSpec)

/-- ITS FALSE NEIGHBOUR: 'it returns false'. Refute it at one input. -/
def valueParseWrong : ChangeSpec := { name := "valueParse", fn := fun _ => fun
  | [d] => { results := [.lit (.bool false)], args := [d] }
  | _ => none }
def ValueParseWrongFalsely : Prop := valueParseRow.holds Tryd.pinned (OpenSpec.ofChange valueParseWrong)

/-- 'erasurelaw01.ValueEdited': WHATEVER THE INPUT: true; the input reads as it did. -/
def valueEditedSpec : ChangeSpec := { name := "valueEdited", fn := fun _ => fun
  | [d] => { results := [.lit (.bool true)], args := [d] }
  | _ => none }
def valueEditedRow : OpenClaim := { program := "ytjlhapbahecpoaadoor", sum := "17f8809481036ac2bb05ff92afda97be32d7f6b66fefd486f1b81a89abe4e384", func := "erasure/erasurelaw01.ValueEdited", spec := "valueEdited", inPlace := ["internal/bytealg.IndexByteString"], recurses := true, named := ["strconv.ErrSyntax", "strconv.ErrRange", "internal/strconv.uint64pow10", "math/bits.deBruijn32tab", "math/bits.deBruijn64tab"], apart := false, laid := [("math/bits.deBruijn32tab", laid_math_bits_deBruijn32tab), ("math/bits.deBruijn64tab", laid_math_bits_deBruijn64tab), ("internal/strconv.uint64pow10", laid_internal_strconv_uint64pow10), ("strconv.ErrRange", laid_strconv_ErrRange), ("strconv.ErrSyntax", laid_strconv_ErrSyntax)] }
def ValueEditedSaid : Prop := valueEditedRow.holds Tryd.pinned (OpenSpec.ofChange valueEditedSpec)

/-- ITS FALSE NEIGHBOUR: 'it returns false'. Refute it at one input. -/
def valueEditedWrong : ChangeSpec := { name := "valueEdited", fn := fun _ => fun
  | [d] => { results := [.lit (.bool false)], args := [d] }
  | _ => none }
def ValueEditedWrongFalsely : Prop := valueEditedRow.holds Tryd.pinned (OpenSpec.ofChange valueEditedWrong)

/-- 'erasurelaw01.ValueBack': WHATEVER THE INPUT: true; the input reads as it did. -/
def valueBackSpec : ChangeSpec := { name := "valueBack", fn := fun _ => fun
  | [d] => { results := [.lit (.bool true)], args := [d] }
  | _ => none }
def valueBackRow : OpenClaim := { program := "ytjlhapbahecpoaadoor", sum := "17f8809481036ac2bb05ff92afda97be32d7f6b66fefd486f1b81a89abe4e384", func := "erasure/erasurelaw01.ValueBack", spec := "valueBack", inPlace := ["internal/bytealg.IndexByteString"], named := ["internal/strconv.uint64pow10", "math/bits.deBruijn32tab", "math/bits.deBruijn64tab", "strconv.ErrSyntax", "strconv.ErrRange"], apart := false, laid := [("math/bits.deBruijn32tab", laid_math_bits_deBruijn32tab), ("math/bits.deBruijn64tab", laid_math_bits_deBruijn64tab), ("internal/strconv.uint64pow10", laid_internal_strconv_uint64pow10), ("strconv.ErrRange", laid_strconv_ErrRange), ("strconv.ErrSyntax", laid_strconv_ErrSyntax)] }
def ValueBackSaid : Prop := valueBackRow.holds Tryd.pinned (OpenSpec.ofChange valueBackSpec)

/-- ITS FALSE NEIGHBOUR: 'it returns false'. Refute it at one input. -/
def valueBackWrong : ChangeSpec := { name := "valueBack", fn := fun _ => fun
  | [d] => { results := [.lit (.bool false)], args := [d] }
  | _ => none }
def ValueBackWrongFalsely : Prop := valueBackRow.holds Tryd.pinned (OpenSpec.ofChange valueBackWrong)

/- THE SECOND FORM. 'bulk': how many values and letters a reading holds, each counted each time it is reached (what is shared counts as often as it is met; a slice's spare places count too). A statement '..UptoSaid' is the law's where the arguments, and the package variables that the reading takes, are together of bulk at most 1048576: NARROWER than '..Said'. Prove '..Said' where nothing that the law and all that it calls make is longer than what came in: it says more and counts as full. Else prove '..UptoSaid'. A law counts once. -/
mutual
def uptoBulk {H : Type} : DataW H → Nat
  | .lit (.string bytes) => bytes.length + 1
  | .lit _ => 1
  | .nil => 1
  | .ptr d => uptoBulk d + 1
  | .slice elems spare => uptoBulkAll elems + uptoBulkAll spare + 1
  | .agg parts => uptoBulkAll parts + 1
  | .iface _ d => uptoBulk d + 1
  | .map entries => uptoBulkEntries entries + 1
  | .held _ => 1
def uptoBulkAll {H : Type} : List (DataW H) → Nat
  | [] => 0
  | d :: r => uptoBulk d + uptoBulkAll r
def uptoBulkEntries {H : Type} : List (Lit × DataW H) → Nat
  | [] => 0
  | x :: r => uptoBulkEntry x + uptoBulkEntries r
def uptoBulkEntry {H : Type} : Lit × DataW H → Nat
  | (.string bytes, d) => bytes.length + uptoBulk d + 1
  | (_, d) => uptoBulk d + 1
 end
def uptoSmall : (H : Type) → List (DataW H) → Bool := fun _ ds => decide (uptoBulkAll ds ≤ 1048576)
def OpenSpec.upto (s : _root_.Go.ChangeSpec) : _root_.Go.OpenSpec := { _root_.Go.OpenSpec.ofChange s with cond := some uptoSmall }

/-- 'erasurelaw01.ValueFormat', WHERE WHAT IT READS IS OF BULK AT MOST 1048576: true; the input reads as it did. -/
def valueFormatUptoRow : OpenClaim := { program := "ytjlhapbahecpoaadoor", sum := "17f8809481036ac2bb05ff92afda97be32d7f6b66fefd486f1b81a89abe4e384", func := "erasure/erasurelaw01.ValueFormat", spec := "valueFormat", recurses := true, named := ["internal/strconv.uint64pow10", "math/bits.deBruijn32tab", "math/bits.deBruijn64tab"], apart := false, laid := [("math/bits.deBruijn32tab", laid_math_bits_deBruijn32tab), ("math/bits.deBruijn64tab", laid_math_bits_deBruijn64tab), ("internal/strconv.uint64pow10", laid_internal_strconv_uint64pow10)], narrowed := true }
def ValueFormatUptoSaid : Prop := valueFormatUptoRow.holds Tryd.pinned (OpenSpec.upto valueFormatSpec)

/-- 'erasurelaw01.ValueValid', WHERE WHAT IT READS IS OF BULK AT MOST 1048576: true; the input reads as it did. -/
def valueValidUptoRow : OpenClaim := { program := "ytjlhapbahecpoaadoor", sum := "17f8809481036ac2bb05ff92afda97be32d7f6b66fefd486f1b81a89abe4e384", func := "erasure/erasurelaw01.ValueValid", spec := "valueValid", named := ["internal/strconv.uint64pow10", "math/bits.deBruijn32tab", "math/bits.deBruijn64tab"], apart := false, laid := [("math/bits.deBruijn32tab", laid_math_bits_deBruijn32tab), ("math/bits.deBruijn64tab", laid_math_bits_deBruijn64tab), ("internal/strconv.uint64pow10", laid_internal_strconv_uint64pow10)], narrowed := true }
def ValueValidUptoSaid : Prop := valueValidUptoRow.holds Tryd.pinned (OpenSpec.upto valueValidSpec)

/-- 'erasurelaw01.ValueLimits', WHERE WHAT IT READS IS OF BULK AT MOST 1048576: true; the input reads as it did. -/
def valueLimitsUptoRow : OpenClaim := { program := "ytjlhapbahecpoaadoor", sum := "17f8809481036ac2bb05ff92afda97be32d7f6b66fefd486f1b81a89abe4e384", func := "erasure/erasurelaw01.ValueLimits", spec := "valueLimits", named := ["internal/strconv.uint64pow10", "math/bits.deBruijn32tab", "math/bits.deBruijn64tab"], apart := false, laid := [("math/bits.deBruijn32tab", laid_math_bits_deBruijn32tab), ("math/bits.deBruijn64tab", laid_math_bits_deBruijn64tab), ("internal/strconv.uint64pow10", laid_internal_strconv_uint64pow10)], narrowed := true }
def ValueLimitsUptoSaid : Prop := valueLimitsUptoRow.holds Tryd.pinned (OpenSpec.upto valueLimitsSpec)

/-- 'erasurelaw01.ValueCompare', WHERE WHAT IT READS IS OF BULK AT MOST 1048576: true; the input reads as it did. -/
def valueCompareUptoRow : OpenClaim := { program := "ytjlhapbahecpoaadoor", sum := "17f8809481036ac2bb05ff92afda97be32d7f6b66fefd486f1b81a89abe4e384", func := "erasure/erasurelaw01.ValueCompare", spec := "valueCompare", inPlace := ["internal/bytealg.abigen_runtime_cmpstring"], named := ["internal/strconv.uint64pow10", "math/bits.deBruijn32tab", "math/bits.deBruijn64tab"], apart := false, laid := [("math/bits.deBruijn32tab", laid_math_bits_deBruijn32tab), ("math/bits.deBruijn64tab", laid_math_bits_deBruijn64tab), ("internal/strconv.uint64pow10", laid_internal_strconv_uint64pow10)], narrowed := true }
def ValueCompareUptoSaid : Prop := valueCompareUptoRow.holds Tryd.pinned (OpenSpec.upto valueCompareSpec)

/-- 'erasurelaw01.ValueOrder', WHERE WHAT IT READS IS OF BULK AT MOST 1048576: true; the input reads as it did. -/
def valueOrderUptoRow : OpenClaim := { program := "ytjlhapbahecpoaadoor", sum := "17f8809481036ac2bb05ff92afda97be32d7f6b66fefd486f1b81a89abe4e384", func := "erasure/erasurelaw01.ValueOrder", spec := "valueOrder", inPlace := ["internal/bytealg.abigen_runtime_cmpstring"], named := ["internal/strconv.uint64pow10", "math/bits.deBruijn32tab", "math/bits.deBruijn64tab"], apart := false, laid := [("math/bits.deBruijn32tab", laid_math_bits_deBruijn32tab), ("math/bits.deBruijn64tab", laid_math_bits_deBruijn64tab), ("internal/strconv.uint64pow10", laid_internal_strconv_uint64pow10)], narrowed := true }
def ValueOrderUptoSaid : Prop := valueOrderUptoRow.holds Tryd.pinned (OpenSpec.upto valueOrderSpec)

/-- 'erasurelaw01.ValueEmbeds', WHERE WHAT IT READS IS OF BULK AT MOST 1048576: true; the input reads as it did. -/
def valueEmbedsUptoRow : OpenClaim := { program := "ytjlhapbahecpoaadoor", sum := "17f8809481036ac2bb05ff92afda97be32d7f6b66fefd486f1b81a89abe4e384", func := "erasure/erasurelaw01.ValueEmbeds", spec := "valueEmbeds", inPlace := ["internal/bytealg.abigen_runtime_cmpstring"], named := ["internal/strconv.uint64pow10", "math/bits.deBruijn32tab", "math/bits.deBruijn64tab"], apart := false, laid := [("math/bits.deBruijn32tab", laid_math_bits_deBruijn32tab), ("math/bits.deBruijn64tab", laid_math_bits_deBruijn64tab), ("internal/strconv.uint64pow10", laid_internal_strconv_uint64pow10)], narrowed := true }
def ValueEmbedsUptoSaid : Prop := valueEmbedsUptoRow.holds Tryd.pinned (OpenSpec.upto valueEmbedsSpec)

/-- 'erasurelaw01.ValueEncode', WHERE WHAT IT READS IS OF BULK AT MOST 1048576: true; the input reads as it did. -/
def valueEncodeUptoRow : OpenClaim := { program := "ytjlhapbahecpoaadoor", sum := "17f8809481036ac2bb05ff92afda97be32d7f6b66fefd486f1b81a89abe4e384", func := "erasure/erasurelaw01.ValueEncode", spec := "valueEncode", named := ["internal/strconv.uint64pow10", "math/bits.deBruijn32tab", "math/bits.deBruijn64tab"], apart := false, laid := [("math/bits.deBruijn32tab", laid_math_bits_deBruijn32tab), ("math/bits.deBruijn64tab", laid_math_bits_deBruijn64tab), ("internal/strconv.uint64pow10", laid_internal_strconv_uint64pow10)], narrowed := true }
def ValueEncodeUptoSaid : Prop := valueEncodeUptoRow.holds Tryd.pinned (OpenSpec.upto valueEncodeSpec)

/-- 'erasurelaw01.ValueDecode', WHERE WHAT IT READS IS OF BULK AT MOST 1048576: true; the input reads as it did. -/
def valueDecodeUptoRow : OpenClaim := { program := "ytjlhapbahecpoaadoor", sum := "17f8809481036ac2bb05ff92afda97be32d7f6b66fefd486f1b81a89abe4e384", func := "erasure/erasurelaw01.ValueDecode", spec := "valueDecode", named := ["internal/strconv.uint64pow10", "math/bits.deBruijn32tab", "math/bits.deBruijn64tab"], apart := false, laid := [("math/bits.deBruijn32tab", laid_math_bits_deBruijn32tab), ("math/bits.deBruijn64tab", laid_math_bits_deBruijn64tab), ("internal/strconv.uint64pow10", laid_internal_strconv_uint64pow10)], narrowed := true }
def ValueDecodeUptoSaid : Prop := valueDecodeUptoRow.holds Tryd.pinned (OpenSpec.upto valueDecodeSpec)

/-- 'erasurelaw01.ValueParse', WHERE WHAT IT READS IS OF BULK AT MOST 1048576: true; the input reads as it did. -/
def valueParseUptoRow : OpenClaim := { program := "ytjlhapbahecpoaadoor", sum := "17f8809481036ac2bb05ff92afda97be32d7f6b66fefd486f1b81a89abe4e384", func := "erasure/erasurelaw01.ValueParse", spec := "valueParse", inPlace := ["internal/bytealg.IndexByteString"], named := ["internal/strconv.uint64pow10", "math/bits.deBruijn32tab", "math/bits.deBruijn64tab", "strconv.ErrSyntax", "strconv.ErrRange"], apart := false, laid := [("math/bits.deBruijn32tab", laid_math_bits_deBruijn32tab), ("math/bits.deBruijn64tab", laid_math_bits_deBruijn64tab), ("internal/strconv.uint64pow10", laid_internal_strconv_uint64pow10), ("strconv.ErrRange", laid_strconv_ErrRange), ("strconv.ErrSyntax", laid_strconv_ErrSyntax)], narrowed := true }
def ValueParseUptoSaid : Prop := valueParseUptoRow.holds Tryd.pinned (OpenSpec.upto valueParseSpec)

/-- 'erasurelaw01.ValueEdited', WHERE WHAT IT READS IS OF BULK AT MOST 1048576: true; the input reads as it did. -/
def valueEditedUptoRow : OpenClaim := { program := "ytjlhapbahecpoaadoor", sum := "17f8809481036ac2bb05ff92afda97be32d7f6b66fefd486f1b81a89abe4e384", func := "erasure/erasurelaw01.ValueEdited", spec := "valueEdited", inPlace := ["internal/bytealg.IndexByteString"], recurses := true, named := ["strconv.ErrSyntax", "strconv.ErrRange", "internal/strconv.uint64pow10", "math/bits.deBruijn32tab", "math/bits.deBruijn64tab"], apart := false, laid := [("math/bits.deBruijn32tab", laid_math_bits_deBruijn32tab), ("math/bits.deBruijn64tab", laid_math_bits_deBruijn64tab), ("internal/strconv.uint64pow10", laid_internal_strconv_uint64pow10), ("strconv.ErrRange", laid_strconv_ErrRange), ("strconv.ErrSyntax", laid_strconv_ErrSyntax)], narrowed := true }
def ValueEditedUptoSaid : Prop := valueEditedUptoRow.holds Tryd.pinned (OpenSpec.upto valueEditedSpec)

/-- 'erasurelaw01.ValueBack', WHERE WHAT IT READS IS OF BULK AT MOST 1048576: true; the input reads as it did. -/
def valueBackUptoRow : OpenClaim := { program := "ytjlhapbahecpoaadoor", sum := "17f8809481036ac2bb05ff92afda97be32d7f6b66fefd486f1b81a89abe4e384", func := "erasure/erasurelaw01.ValueBack", spec := "valueBack", inPlace := ["internal/bytealg.IndexByteString"], named := ["internal/strconv.uint64pow10", "math/bits.deBruijn32tab", "math/bits.deBruijn64tab", "strconv.ErrSyntax", "strconv.ErrRange"], apart := false, laid := [("math/bits.deBruijn32tab", laid_math_bits_deBruijn32tab), ("math/bits.deBruijn64tab", laid_math_bits_deBruijn64tab), ("internal/strconv.uint64pow10", laid_internal_strconv_uint64pow10), ("strconv.ErrRange", laid_strconv_ErrRange), ("strconv.ErrSyntax", laid_strconv_ErrSyntax)], narrowed := true }
def ValueBackUptoSaid : Prop := valueBackUptoRow.holds Tryd.pinned (OpenSpec.upto valueBackSpec)

end Rows
end Go.Proofs.YtjlhapbahecpoaaDoor
