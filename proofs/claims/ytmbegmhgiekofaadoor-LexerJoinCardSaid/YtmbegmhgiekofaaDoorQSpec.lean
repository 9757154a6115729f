/- The text form of texts, in plain Lean. No program in sight, no condition. -/
import Derived.Test.YtmbegmhgiekofaaDoorVSpec2
import Derived.Test.YtmbegmhgiekofaaDoorBytes
namespace Go.Proofs.YtmbegmhgiekofaaDoor
def plainB (c : UInt8) : Bool := decide (32 ≤ c.toNat) && (decide (c.toNat ≤ 126) && ((c.toNat != 34) && (c.toNat != 92)))
def qbyte (c : UInt8) : List UInt8 := if plainB c then [c] else [92, hexd (c.toNat / 16), hexd (c.toNat % 16)]
def quoteL (l : List UInt8) : List UInt8 := 34 :: l.flatMap qbyte ++ [34]
theorem qbyte_len (c : UInt8) : (qbyte c).length ≤ 3 := by unfold qbyte; split <;> simp
theorem flat_len : ∀ l : List UInt8, (l.flatMap qbyte).length ≤ 3 * l.length := by
  intro l
  induction l with
  | nil => simp
  | cons c l ih => have := qbyte_len c; simp only [List.flatMap_cons, List.length_append, List.length_cons]; omega
end Go.Proofs.YtmbegmhgiekofaaDoor
