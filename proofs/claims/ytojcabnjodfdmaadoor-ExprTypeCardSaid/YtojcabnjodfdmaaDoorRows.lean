/-
  NARROWER THAN 'FOR EVERY INPUT', by the rows' own cells (each row's printed sentence says how): ExprValid: laid · ExprLimits: laid · ExprOperators: laid · ExprFormat: laid · ExprEval: laid · ExprSubstitute: laid · ExprComposes: laid · ExprType: laid · ExprSound: laid.
  DERIVED. THE GIVEN ROWS OF THIS SEAT. 9 by the template 'for every input the law returns true; each argument reads behind the call as it read before'; 0 by the template 'total and deterministic' (their statements: YtojcabnjodfdmaaDoorTotals.lean).
  GIVEN WITH THE SEED: the statements are not yours to turn. If you find one false, say at which input.
  Laid BY PROGRAM, IN A SANDBOX (cutbox-rows.mjs): the forced cells as the released guide's own fill.sh prints them over the translation 801f2c55bd41a8e2… (all of the seat's roots in one cut). By AI agents, Wed Nov 11 2026. No macro, syntax, notation, axiom, sorry.
-/
import Derived.Test.YtojcabnjodfdmaaDoorChecked
import GoSem.Claim
import GoSem.ClaimJoined
import GoSem.ClaimMapViews
import Derived.JoinedTies
import Derived.KernelRfl
namespace Go.Proofs.YtojcabnjodfdmaaDoor
/- THE CELL 'sum', in the pinned program and in every row, IS THE sha256 OF THE DUMP (.gsa) THAT YtojcabnjodfdmaaDoorProg.lean LOADS. Nothing in Lean hashes anything: it is a label: what it is worth is what the hold of that sum in a sandbox is worth. -/
noncomputable def Tryd.pinned : Pinned := { name := "ytojcabnjodfdmaadoor", sum := "801f2c55bd41a8e2a2813c47fc62c3c7c0cb7230222a18102e9de19dcb7cdfe3", checked := Tryd.checked }
namespace Rows
def none {H : Type} : Left H := { results := [], args := [] }

/- WHAT THE LISTED PACKAGE-LEVEL VARIABLES READ AS WHEN THE CALL BEGINS. Each datum BY PROGRAM (the guide's laid-datum.mjs) off the statement by which the dump's own 'gosem.cut.vars' lays the variable. In a bare row this is a premise. The card (YtojcabnjodfdmaaDoorCards.lean) ties it to the program's text. -/
def laid_math_bits_deBruijn32tab {H : Type} : DataW H := .agg [.lit (.int .u8 0), .lit (.int .u8 1), .lit (.int .u8 28), .lit (.int .u8 2), .lit (.int .u8 29), .lit (.int .u8 14), .lit (.int .u8 24), .lit (.int .u8 3), .lit (.int .u8 30), .lit (.int .u8 22), .lit (.int .u8 20), .lit (.int .u8 15), .lit (.int .u8 25), .lit (.int .u8 17), .lit (.int .u8 4), .lit (.int .u8 8), .lit (.int .u8 31), .lit (.int .u8 27), .lit (.int .u8 13), .lit (.int .u8 23), .lit (.int .u8 21), .lit (.int .u8 19), .lit (.int .u8 16), .lit (.int .u8 7), .lit (.int .u8 26), .lit (.int .u8 12), .lit (.int .u8 18), .lit (.int .u8 6), .lit (.int .u8 11), .lit (.int .u8 5), .lit (.int .u8 10), .lit (.int .u8 9)]
def laid_math_bits_deBruijn64tab {H : Type} : DataW H := .agg [.lit (.int .u8 0), .lit (.int .u8 1), .lit (.int .u8 56), .lit (.int .u8 2), .lit (.int .u8 57), .lit (.int .u8 49), .lit (.int .u8 28), .lit (.int .u8 3), .lit (.int .u8 61), .lit (.int .u8 58), .lit (.int .u8 42), .lit (.int .u8 50), .lit (.int .u8 38), .lit (.int .u8 29), .lit (.int .u8 17), .lit (.int .u8 4), .lit (.int .u8 62), .lit (.int .u8 47), .lit (.int .u8 59), .lit (.int .u8 36), .lit (.int .u8 45), .lit (.int .u8 43), .lit (.int .u8 51), .lit (.int .u8 22), .lit (.int .u8 53), .lit (.int .u8 39), .lit (.int .u8 33), .lit (.int .u8 30), .lit (.int .u8 24), .lit (.int .u8 18), .lit (.int .u8 12), .lit (.int .u8 5), .lit (.int .u8 63), .lit (.int .u8 55), .lit (.int .u8 48), .lit (.int .u8 27), .lit (.int .u8 60), .lit (.int .u8 41), .lit (.int .u8 37), .lit (.int .u8 16), .lit (.int .u8 46), .lit (.int .u8 35), .lit (.int .u8 44), .lit (.int .u8 21), .lit (.int .u8 52), .lit (.int .u8 32), .lit (.int .u8 23), .lit (.int .u8 11), .lit (.int .u8 54), .lit (.int .u8 26), .lit (.int .u8 40), .lit (.int .u8 15), .lit (.int .u8 34), .lit (.int .u8 20), .lit (.int .u8 31), .lit (.int .u8 10), .lit (.int .u8 25), .lit (.int .u8 14), .lit (.int .u8 19), .lit (.int .u8 9), .lit (.int .u8 13), .lit (.int .u8 8), .lit (.int .u8 7), .lit (.int .u8 6)]
def laid_internal_strconv_uint64pow10 {H : Type} : DataW H := .agg [.lit (.int .u64 1), .lit (.int .u64 10), .lit (.int .u64 100), .lit (.int .u64 1000), .lit (.int .u64 10000), .lit (.int .u64 100000), .lit (.int .u64 1000000), .lit (.int .u64 10000000), .lit (.int .u64 100000000), .lit (.int .u64 1000000000), .lit (.int .u64 10000000000), .lit (.int .u64 100000000000), .lit (.int .u64 1000000000000), .lit (.int .u64 10000000000000), .lit (.int .u64 100000000000000), .lit (.int .u64 1000000000000000), .lit (.int .u64 10000000000000000), .lit (.int .u64 100000000000000000), .lit (.int .u64 1000000000000000000), .lit (.int .u64 10000000000000000000)]

/-- 'erasurelaw03.ExprValid': WHATEVER THE INPUT: true; the input reads as it did. -/
def exprValidSpec : ChangeSpec := { name := "exprValid", fn := fun _ => fun
  | [d1, d2, d3] => { results := [.lit (.bool true)], args := [d1, d2, d3] }
  | _ => none }
def exprValidRow : OpenClaim := { program := "ytojcabnjodfdmaadoor", sum := "801f2c55bd41a8e2a2813c47fc62c3c7c0cb7230222a18102e9de19dcb7cdfe3", func := "erasure/erasurelaw03.ExprValid", spec := "exprValid", inPlace := ["internal/bytealg.abigen_runtime_cmpstring", "internal/abi.NoEscape", "internal/bytealg.MakeNoZero"], recurses := true, named := ["internal/strconv.uint64pow10", "math/bits.deBruijn32tab", "math/bits.deBruijn64tab"], apart := false, laid := [("math/bits.deBruijn32tab", laid_math_bits_deBruijn32tab), ("math/bits.deBruijn64tab", laid_math_bits_deBruijn64tab), ("internal/strconv.uint64pow10", laid_internal_strconv_uint64pow10)] }
def ExprValidSaid : Prop := exprValidRow.holds Tryd.pinned (OpenSpec.ofChange exprValidSpec)

/-- ITS FALSE NEIGHBOUR: 'it returns false'. Refute it at one input. -/
def exprValidWrong : ChangeSpec := { name := "exprValid", fn := fun _ => fun
  | [d1, d2, d3] => { results := [.lit (.bool false)], args := [d1, d2, d3] }
  | _ => none }
def ExprValidWrongFalsely : Prop := exprValidRow.holds Tryd.pinned (OpenSpec.ofChange exprValidWrong)

/-- 'erasurelaw03.ExprLimits': WHATEVER THE INPUT: true; the input reads as it did. -/
def exprLimitsSpec : ChangeSpec := { name := "exprLimits", fn := fun _ => fun
  | [d] => { results := [.lit (.bool true)], args := [d] }
  | _ => none }
def exprLimitsRow : OpenClaim := { program := "ytojcabnjodfdmaadoor", sum := "801f2c55bd41a8e2a2813c47fc62c3c7c0cb7230222a18102e9de19dcb7cdfe3", func := "erasure/erasurelaw03.ExprLimits", spec := "exprLimits", inPlace := ["internal/bytealg.abigen_runtime_cmpstring", "internal/abi.NoEscape", "internal/bytealg.MakeNoZero"], recurses := true, named := ["internal/strconv.uint64pow10", "math/bits.deBruijn32tab", "math/bits.deBruijn64tab"], apart := false, laid := [("math/bits.deBruijn32tab", laid_math_bits_deBruijn32tab), ("math/bits.deBruijn64tab", laid_math_bits_deBruijn64tab), ("internal/strconv.uint64pow10", laid_internal_strconv_uint64pow10)] }
def ExprLimitsSaid : Prop := exprLimitsRow.holds Tryd.pinned (OpenSpec.ofChange exprLimitsSpec)

/-- ITS FALSE NEIGHBOUR: 'it returns false'. Refute it at one input. -/
def exprLimitsWrong : ChangeSpec := { name := "exprLimits", fn := fun _ => fun
  | [d] => { results := [.lit (.bool false)], args := [d] }
  | _ => none }
def ExprLimitsWrongFalsely : Prop := exprLimitsRow.holds Tryd.pinned (OpenSpec.ofChange exprLimitsWrong)

/-- 'erasurelaw03.ExprOperators': WHATEVER THE INPUT: true; the input reads as it did. -/
def exprOperatorsSpec : ChangeSpec := { name := "exprOperators", fn := fun _ => fun
  | [d1, d2] => { results := [.lit (.bool true)], args := [d1, d2] }
  | _ => none }
def exprOperatorsRow : OpenClaim := { program := "ytojcabnjodfdmaadoor", sum := "801f2c55bd41a8e2a2813c47fc62c3c7c0cb7230222a18102e9de19dcb7cdfe3", func := "erasure/erasurelaw03.ExprOperators", spec := "exprOperators", inPlace := ["internal/bytealg.abigen_runtime_cmpstring", "internal/abi.NoEscape", "internal/bytealg.MakeNoZero"], recurses := true, named := ["internal/strconv.uint64pow10", "math/bits.deBruijn32tab", "math/bits.deBruijn64tab"], apart := false, laid := [("math/bits.deBruijn32tab", laid_math_bits_deBruijn32tab), ("math/bits.deBruijn64tab", laid_math_bits_deBruijn64tab), ("internal/strconv.uint64pow10", laid_internal_strconv_uint64pow10)] }
def ExprOperatorsSaid : Prop := exprOperatorsRow.holds Tryd.pinned (OpenSpec.ofChange exprOperatorsSpec)

/-- ITS FALSE NEIGHBOUR: 'it returns false'. Refute it at one input. -/
def exprOperatorsWrong : ChangeSpec := { name := "exprOperators", fn := fun _ => fun
  | [d1, d2] => { results := [.lit (.bool false)], args := [d1, d2] }
  | _ => none }
def ExprOperatorsWrongFalsely : Prop := exprOperatorsRow.holds Tryd.pinned (OpenSpec.ofChange exprOperatorsWrong)

/-- 'erasurelaw03.ExprFormat': WHATEVER THE INPUT: true; the input reads as it did. -/
def exprFormatSpec : ChangeSpec := { name := "exprFormat", fn := fun _ => fun
  | [d1, d2, d3] => { results := [.lit (.bool true)], args := [d1, d2, d3] }
  | _ => none }
def exprFormatRow : OpenClaim := { program := "ytojcabnjodfdmaadoor", sum := "801f2c55bd41a8e2a2813c47fc62c3c7c0cb7230222a18102e9de19dcb7cdfe3", func := "erasure/erasurelaw03.ExprFormat", spec := "exprFormat", inPlace := ["internal/bytealg.abigen_runtime_cmpstring", "internal/abi.NoEscape", "internal/bytealg.MakeNoZero"], recurses := true, named := ["internal/strconv.uint64pow10", "math/bits.deBruijn32tab", "math/bits.deBruijn64tab"], apart := false, laid := [("math/bits.deBruijn32tab", laid_math_bits_deBruijn32tab), ("math/bits.deBruijn64tab", laid_math_bits_deBruijn64tab), ("internal/strconv.uint64pow10", laid_internal_strconv_uint64pow10)] }
def ExprFormatSaid : Prop := exprFormatRow.holds Tryd.pinned (OpenSpec.ofChange exprFormatSpec)

/-- ITS FALSE NEIGHBOUR: 'it returns false'. Refute it at one input. -/
def exprFormatWrong : ChangeSpec := { name := "exprFormat", fn := fun _ => fun
  | [d1, d2, d3] => { results := [.lit (.bool false)], args := [d1, d2, d3] }
  | _ => none }
def ExprFormatWrongFalsely : Prop := exprFormatRow.holds Tryd.pinned (OpenSpec.ofChange exprFormatWrong)

/-- 'erasurelaw03.ExprEval': WHATEVER THE INPUT: true; the input reads as it did. -/
def exprEvalSpec : ChangeSpec := { name := "exprEval", fn := fun _ => fun
  | [d1, d2, d3] => { results := [.lit (.bool true)], args := [d1, d2, d3] }
  | _ => none }
def exprEvalRow : OpenClaim := { program := "ytojcabnjodfdmaadoor", sum := "801f2c55bd41a8e2a2813c47fc62c3c7c0cb7230222a18102e9de19dcb7cdfe3", func := "erasure/erasurelaw03.ExprEval", spec := "exprEval", inPlace := ["internal/bytealg.abigen_runtime_cmpstring", "internal/abi.NoEscape", "internal/bytealg.MakeNoZero"], recurses := true, named := ["internal/strconv.uint64pow10", "math/bits.deBruijn32tab", "math/bits.deBruijn64tab"], apart := false, laid := [("math/bits.deBruijn32tab", laid_math_bits_deBruijn32tab), ("math/bits.deBruijn64tab", laid_math_bits_deBruijn64tab), ("internal/strconv.uint64pow10", laid_internal_strconv_uint64pow10)] }
def ExprEvalSaid : Prop := exprEvalRow.holds Tryd.pinned (OpenSpec.ofChange exprEvalSpec)

/-- ITS FALSE NEIGHBOUR: 'it returns false'. Refute it at one input. -/
def exprEvalWrong : ChangeSpec := { name := "exprEval", fn := fun _ => fun
  | [d1, d2, d3] => { results := [.lit (.bool false)], args := [d1, d2, d3] }
  | _ => none }
def ExprEvalWrongFalsely : Prop := exprEvalRow.holds Tryd.pinned (OpenSpec.ofChange exprEvalWrong)

/-- 'erasurelaw03.ExprSubstitute': WHATEVER THE INPUT: true; the input reads as it did. -/
def exprSubstituteSpec : ChangeSpec := { name := "exprSubstitute", fn := fun _ => fun
  | [d1, d2, d3] => { results := [.lit (.bool true)], args := [d1, d2, d3] }
  | _ => none }
def exprSubstituteRow : OpenClaim := { program := "ytojcabnjodfdmaadoor", sum := "801f2c55bd41a8e2a2813c47fc62c3c7c0cb7230222a18102e9de19dcb7cdfe3", func := "erasure/erasurelaw03.ExprSubstitute", spec := "exprSubstitute", inPlace := ["internal/bytealg.abigen_runtime_cmpstring", "internal/abi.NoEscape", "internal/bytealg.MakeNoZero"], recurses := true, named := ["internal/strconv.uint64pow10", "math/bits.deBruijn32tab", "math/bits.deBruijn64tab"], apart := false, laid := [("math/bits.deBruijn32tab", laid_math_bits_deBruijn32tab), ("math/bits.deBruijn64tab", laid_math_bits_deBruijn64tab), ("internal/strconv.uint64pow10", laid_internal_strconv_uint64pow10)] }
def ExprSubstituteSaid : Prop := exprSubstituteRow.holds Tryd.pinned (OpenSpec.ofChange exprSubstituteSpec)

/-- ITS FALSE NEIGHBOUR: 'it returns false'. Refute it at one input. -/
def exprSubstituteWrong : ChangeSpec := { name := "exprSubstitute", fn := fun _ => fun
  | [d1, d2, d3] => { results := [.lit (.bool false)], args := [d1, d2, d3] }
  | _ => none }
def ExprSubstituteWrongFalsely : Prop := exprSubstituteRow.holds Tryd.pinned (OpenSpec.ofChange exprSubstituteWrong)

/-- 'erasurelaw03.ExprComposes': WHATEVER THE INPUT: true; the input reads as it did. -/
def exprComposesSpec : ChangeSpec := { name := "exprComposes", fn := fun _ => fun
  | [d] => { results := [.lit (.bool true)], args := [d] }
  | _ => none }
def exprComposesRow : OpenClaim := { program := "ytojcabnjodfdmaadoor", sum := "801f2c55bd41a8e2a2813c47fc62c3c7c0cb7230222a18102e9de19dcb7cdfe3", func := "erasure/erasurelaw03.ExprComposes", spec := "exprComposes", inPlace := ["internal/bytealg.abigen_runtime_cmpstring", "internal/abi.NoEscape", "internal/bytealg.MakeNoZero"], recurses := true, named := ["internal/strconv.uint64pow10", "math/bits.deBruijn32tab", "math/bits.deBruijn64tab"], apart := false, laid := [("math/bits.deBruijn32tab", laid_math_bits_deBruijn32tab), ("math/bits.deBruijn64tab", laid_math_bits_deBruijn64tab), ("internal/strconv.uint64pow10", laid_internal_strconv_uint64pow10)] }
def ExprComposesSaid : Prop := exprComposesRow.holds Tryd.pinned (OpenSpec.ofChange exprComposesSpec)

/-- ITS FALSE NEIGHBOUR: 'it returns false'. Refute it at one input. -/
def exprComposesWrong : ChangeSpec := { name := "exprComposes", fn := fun _ => fun
  | [d] => { results := [.lit (.bool false)], args := [d] }
  | _ => none }
def ExprComposesWrongFalsely : Prop := exprComposesRow.holds Tryd.pinned (OpenSpec.ofChange exprComposesWrong)

/-- 'erasurelaw03.ExprType': WHATEVER THE INPUT: true; the input reads as it did. -/
def exprTypeSpec : ChangeSpec := { name := "exprType", fn := fun _ => fun
  | [d1, d2, d3] => { results := [.lit (.bool true)], args := [d1, d2, d3] }
  | _ => none }
def exprTypeRow : OpenClaim := { program := "ytojcabnjodfdmaadoor", sum := "801f2c55bd41a8e2a2813c47fc62c3c7c0cb7230222a18102e9de19dcb7cdfe3", func := "erasure/erasurelaw03.ExprType", spec := "exprType", inPlace := ["internal/bytealg.abigen_runtime_cmpstring", "internal/abi.NoEscape", "internal/bytealg.MakeNoZero"], recurses := true, named := ["internal/strconv.uint64pow10", "math/bits.deBruijn32tab", "math/bits.deBruijn64tab"], apart := false, laid := [("math/bits.deBruijn32tab", laid_math_bits_deBruijn32tab), ("math/bits.deBruijn64tab", laid_math_bits_deBruijn64tab), ("internal/strconv.uint64pow10", laid_internal_strconv_uint64pow10)] }
def ExprTypeSaid : Prop := exprTypeRow.holds Tryd.pinned (OpenSpec.ofChange exprTypeSpec)

/-- ITS FALSE NEIGHBOUR: 'it returns false'. Refute it at one input. -/
def exprTypeWrong : ChangeSpec := { name := "exprType", fn := fun _ => fun
  | [d1, d2, d3] => { results := [.lit (.bool false)], args := [d1, d2, d3] }
  | _ => none }
def ExprTypeWrongFalsely : Prop := exprTypeRow.holds Tryd.pinned (OpenSpec.ofChange exprTypeWrong)

/-- 'erasurelaw03.ExprSound': WHATEVER THE INPUT: true; the input reads as it did. -/
def exprSoundSpec : ChangeSpec := { name := "exprSound", fn := fun _ => fun
  | [d] => { results := [.lit (.bool true)], args := [d] }
  | _ => none }
def exprSoundRow : OpenClaim := { program := "ytojcabnjodfdmaadoor", sum := "801f2c55bd41a8e2a2813c47fc62c3c7c0cb7230222a18102e9de19dcb7cdfe3", func := "erasure/erasurelaw03.ExprSound", spec := "exprSound", inPlace := ["internal/bytealg.abigen_runtime_cmpstring", "internal/abi.NoEscape", "internal/bytealg.MakeNoZero"], recurses := true, named := ["internal/strconv.uint64pow10", "math/bits.deBruijn32tab", "math/bits.deBruijn64tab"], apart := false, laid := [("math/bits.deBruijn32tab", laid_math_bits_deBruijn32tab), ("math/bits.deBruijn64tab", laid_math_bits_deBruijn64tab), ("internal/strconv.uint64pow10", laid_internal_strconv_uint64pow10)] }
def ExprSoundSaid : Prop := exprSoundRow.holds Tryd.pinned (OpenSpec.ofChange exprSoundSpec)

/-- ITS FALSE NEIGHBOUR: 'it returns false'. Refute it at one input. -/
def exprSoundWrong : ChangeSpec := { name := "exprSound", fn := fun _ => fun
  | [d] => { results := [.lit (.bool false)], args := [d] }
  | _ => none }
def ExprSoundWrongFalsely : Prop := exprSoundRow.holds Tryd.pinned (OpenSpec.ofChange exprSoundWrong)

/- THE SECOND FORM. 'bulk': how many values and letters a reading holds, each counted each time it is reached (what is shared counts as often as it is met; a slice's spare places count too). A statement '..UptoSaid' is the law's where the arguments, and the package variables that the reading takes, are together of bulk at most 1048576: NARROWER than '..Said'. Prove '..Said' where nothing that the law and all that it calls make is longer than what came in: it says more and counts as full. Else prove '..UptoSaid'. A law counts once. -/
mutual
def uptoBulk {H : Type} : DataW H → Nat
  | .lit (.string bytes) => bytes.length + 1
  | .lit _ => 1
  | .nil => 1
  | .ptr d => uptoBulk d + 1
  | .slice elems spare => uptoBulkAll elems + uptoBulkAll spare + 1
  | .agg parts => uptoBulkAll parts + 1
  | .iface _ d => uptoBulk d + 1
  | .map entries => uptoBulkEntries entries + 1
  | .held _ => 1
def uptoBulkAll {H : Type} : List (DataW H) → Nat
  | [] => 0
  | d :: r => uptoBulk d + uptoBulkAll r
def uptoBulkEntries {H : Type} : List (Lit × DataW H) → Nat
  | [] => 0
  | x :: r => uptoBulkEntry x + uptoBulkEntries r
def uptoBulkEntry {H : Type} : Lit × DataW H → Nat
  | (.string bytes, d) => bytes.length + uptoBulk d + 1
  | (_, d) => uptoBulk d + 1
 end
def uptoSmall : (H : Type) → List (DataW H) → Bool := fun _ ds => decide (uptoBulkAll ds ≤ 1048576)
def OpenSpec.upto (s : _root_.Go.ChangeSpec) : _root_.Go.OpenSpec := { _root_.Go.OpenSpec.ofChange s with cond := some uptoSmall }

/-- 'erasurelaw03.ExprValid', WHERE WHAT IT READS IS OF BULK AT MOST 1048576: true; the input reads as it did. -/
def exprValidUptoRow : OpenClaim := { program := "ytojcabnjodfdmaadoor", sum := "801f2c55bd41a8e2a2813c47fc62c3c7c0cb7230222a18102e9de19dcb7cdfe3", func := "erasure/erasurelaw03.ExprValid", spec := "exprValid", inPlace := ["internal/bytealg.abigen_runtime_cmpstring", "internal/abi.NoEscape", "internal/bytealg.MakeNoZero"], recurses := true, named := ["internal/strconv.uint64pow10", "math/bits.deBruijn32tab", "math/bits.deBruijn64tab"], apart := false, laid := [("math/bits.deBruijn32tab", laid_math_bits_deBruijn32tab), ("math/bits.deBruijn64tab", laid_math_bits_deBruijn64tab), ("internal/strconv.uint64pow10", laid_internal_strconv_uint64pow10)], narrowed := true }
def ExprValidUptoSaid : Prop := exprValidUptoRow.holds Tryd.pinned (OpenSpec.upto exprValidSpec)

/-- 'erasurelaw03.ExprLimits', WHERE WHAT IT READS IS OF BULK AT MOST 1048576: true; the input reads as it did. -/
def exprLimitsUptoRow : OpenClaim := { program := "ytojcabnjodfdmaadoor", sum := "801f2c55bd41a8e2a2813c47fc62c3c7c0cb7230222a18102e9de19dcb7cdfe3", func := "erasure/erasurelaw03.ExprLimits", spec := "exprLimits", inPlace := ["internal/bytealg.abigen_runtime_cmpstring", "internal/abi.NoEscape", "internal/bytealg.MakeNoZero"], recurses := true, named := ["internal/strconv.uint64pow10", "math/bits.deBruijn32tab", "math/bits.deBruijn64tab"], apart := false, laid := [("math/bits.deBruijn32tab", laid_math_bits_deBruijn32tab), ("math/bits.deBruijn64tab", laid_math_bits_deBruijn64tab), ("internal/strconv.uint64pow10", laid_internal_strconv_uint64pow10)], narrowed := true }
def ExprLimitsUptoSaid : Prop := exprLimitsUptoRow.holds Tryd.pinned (OpenSpec.upto exprLimitsSpec)

/-- 'erasurelaw03.ExprOperators', WHERE WHAT IT READS IS OF BULK AT MOST 1048576: true; the input reads as it did. -/
def exprOperatorsUptoRow : OpenClaim := { program := "ytojcabnjodfdmaadoor", sum := "801f2c55bd41a8e2a2813c47fc62c3c7c0cb7230222a18102e9de19dcb7cdfe3", func := "erasure/erasurelaw03.ExprOperators", spec := "exprOperators", inPlace := ["internal/bytealg.abigen_runtime_cmpstring", "internal/abi.NoEscape", "internal/bytealg.MakeNoZero"], recurses := true, named := ["internal/strconv.uint64pow10", "math/bits.deBruijn32tab", "math/bits.deBruijn64tab"], apart := false, laid := [("math/bits.deBruijn32tab", laid_math_bits_deBruijn32tab), ("math/bits.deBruijn64tab", laid_math_bits_deBruijn64tab), ("internal/strconv.uint64pow10", laid_internal_strconv_uint64pow10)], narrowed := true }
def ExprOperatorsUptoSaid : Prop := exprOperatorsUptoRow.holds Tryd.pinned (OpenSpec.upto exprOperatorsSpec)

/-- 'erasurelaw03.ExprFormat', WHERE WHAT IT READS IS OF BULK AT MOST 1048576: true; the input reads as it did. -/
def exprFormatUptoRow : OpenClaim := { program := "ytojcabnjodfdmaadoor", sum := "801f2c55bd41a8e2a2813c47fc62c3c7c0cb7230222a18102e9de19dcb7cdfe3", func := "erasure/erasurelaw03.ExprFormat", spec := "exprFormat", inPlace := ["internal/bytealg.abigen_runtime_cmpstring", "internal/abi.NoEscape", "internal/bytealg.MakeNoZero"], recurses := true, named := ["internal/strconv.uint64pow10", "math/bits.deBruijn32tab", "math/bits.deBruijn64tab"], apart := false, laid := [("math/bits.deBruijn32tab", laid_math_bits_deBruijn32tab), ("math/bits.deBruijn64tab", laid_math_bits_deBruijn64tab), ("internal/strconv.uint64pow10", laid_internal_strconv_uint64pow10)], narrowed := true }
def ExprFormatUptoSaid : Prop := exprFormatUptoRow.holds Tryd.pinned (OpenSpec.upto exprFormatSpec)

/-- 'erasurelaw03.ExprEval', WHERE WHAT IT READS IS OF BULK AT MOST 1048576: true; the input reads as it did. -/
def exprEvalUptoRow : OpenClaim := { program := "ytojcabnjodfdmaadoor", sum := "801f2c55bd41a8e2a2813c47fc62c3c7c0cb7230222a18102e9de19dcb7cdfe3", func := "erasure/erasurelaw03.ExprEval", spec := "exprEval", inPlace := ["internal/bytealg.abigen_runtime_cmpstring", "internal/abi.NoEscape", "internal/bytealg.MakeNoZero"], recurses := true, named := ["internal/strconv.uint64pow10", "math/bits.deBruijn32tab", "math/bits.deBruijn64tab"], apart := false, laid := [("math/bits.deBruijn32tab", laid_math_bits_deBruijn32tab), ("math/bits.deBruijn64tab", laid_math_bits_deBruijn64tab), ("internal/strconv.uint64pow10", laid_internal_strconv_uint64pow10)], narrowed := true }
def ExprEvalUptoSaid : Prop := exprEvalUptoRow.holds Tryd.pinned (OpenSpec.upto exprEvalSpec)

/-- 'erasurelaw03.ExprSubstitute', WHERE WHAT IT READS IS OF BULK AT MOST 1048576: true; the input reads as it did. -/
def exprSubstituteUptoRow : OpenClaim := { program := "ytojcabnjodfdmaadoor", sum := "801f2c55bd41a8e2a2813c47fc62c3c7c0cb7230222a18102e9de19dcb7cdfe3", func := "erasure/erasurelaw03.ExprSubstitute", spec := "exprSubstitute", inPlace := ["internal/bytealg.abigen_runtime_cmpstring", "internal/abi.NoEscape", "internal/bytealg.MakeNoZero"], recurses := true, named := ["internal/strconv.uint64pow10", "math/bits.deBruijn32tab", "math/bits.deBruijn64tab"], apart := false, laid := [("math/bits.deBruijn32tab", laid_math_bits_deBruijn32tab), ("math/bits.deBruijn64tab", laid_math_bits_deBruijn64tab), ("internal/strconv.uint64pow10", laid_internal_strconv_uint64pow10)], narrowed := true }
def ExprSubstituteUptoSaid : Prop := exprSubstituteUptoRow.holds Tryd.pinned (OpenSpec.upto exprSubstituteSpec)

/-- 'erasurelaw03.ExprComposes', WHERE WHAT IT READS IS OF BULK AT MOST 1048576: true; the input reads as it did. -/
def exprComposesUptoRow : OpenClaim := { program := "ytojcabnjodfdmaadoor", sum := "801f2c55bd41a8e2a2813c47fc62c3c7c0cb7230222a18102e9de19dcb7cdfe3", func := "erasure/erasurelaw03.ExprComposes", spec := "exprComposes", inPlace := ["internal/bytealg.abigen_runtime_cmpstring", "internal/abi.NoEscape", "internal/bytealg.MakeNoZero"], recurses := true, named := ["internal/strconv.uint64pow10", "math/bits.deBruijn32tab", "math/bits.deBruijn64tab"], apart := false, laid := [("math/bits.deBruijn32tab", laid_math_bits_deBruijn32tab), ("math/bits.deBruijn64tab", laid_math_bits_deBruijn64tab), ("internal/strconv.uint64pow10", laid_internal_strconv_uint64pow10)], narrowed := true }
def ExprComposesUptoSaid : Prop := exprComposesUptoRow.holds Tryd.pinned (OpenSpec.upto exprComposesSpec)

/-- 'erasurelaw03.ExprType', WHERE WHAT IT READS IS OF BULK AT MOST 1048576: true; the input reads as it did. -/
def exprTypeUptoRow : OpenClaim := { program := "ytojcabnjodfdmaadoor", sum := "801f2c55bd41a8e2a2813c47fc62c3c7c0cb7230222a18102e9de19dcb7cdfe3", func := "erasure/erasurelaw03.ExprType", spec := "exprType", inPlace := ["internal/bytealg.abigen_runtime_cmpstring", "internal/abi.NoEscape", "internal/bytealg.MakeNoZero"], recurses := true, named := ["internal/strconv.uint64pow10", "math/bits.deBruijn32tab", "math/bits.deBruijn64tab"], apart := false, laid := [("math/bits.deBruijn32tab", laid_math_bits_deBruijn32tab), ("math/bits.deBruijn64tab", laid_math_bits_deBruijn64tab), ("internal/strconv.uint64pow10", laid_internal_strconv_uint64pow10)], narrowed := true }
def ExprTypeUptoSaid : Prop := exprTypeUptoRow.holds Tryd.pinned (OpenSpec.upto exprTypeSpec)

/-- 'erasurelaw03.ExprSound', WHERE WHAT IT READS IS OF BULK AT MOST 1048576: true; the input reads as it did. -/
def exprSoundUptoRow : OpenClaim := { program := "ytojcabnjodfdmaadoor", sum := "801f2c55bd41a8e2a2813c47fc62c3c7c0cb7230222a18102e9de19dcb7cdfe3", func := "erasure/erasurelaw03.ExprSound", spec := "exprSound", inPlace := ["internal/bytealg.abigen_runtime_cmpstring", "internal/abi.NoEscape", "internal/bytealg.MakeNoZero"], recurses := true, named := ["internal/strconv.uint64pow10", "math/bits.deBruijn32tab", "math/bits.deBruijn64tab"], apart := false, laid := [("math/bits.deBruijn32tab", laid_math_bits_deBruijn32tab), ("math/bits.deBruijn64tab", laid_math_bits_deBruijn64tab), ("internal/strconv.uint64pow10", laid_internal_strconv_uint64pow10)], narrowed := true }
def ExprSoundUptoSaid : Prop := exprSoundUptoRow.holds Tryd.pinned (OpenSpec.upto exprSoundSpec)

end Rows
end Go.Proofs.YtojcabnjodfdmaaDoor
