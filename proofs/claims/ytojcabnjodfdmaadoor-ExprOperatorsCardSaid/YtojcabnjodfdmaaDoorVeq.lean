/- Comparing values with == and !=. No condition. -/
import Derived.Test.YtojcabnjodfdmaaDoorVa
import Derived.Test.YtojcabnjodfdmaaDoorVSpec2
import Derived.Laws.StructEq
namespace Go.Proofs.YtojcabnjodfdmaaDoor
open Go.RowKit

theorem standV : Tryd.prog.stoodInHeld 34 = false := by kernel_rfl
def eqB (k n : Int) (s : ByteArray) (k' n' : Int) (s' : ByteArray) : Bool := k == k' && (n == n' && s.data.toList == s'.data.toList)
theorem run_eqV (k n : Int) (s : ByteArray) (k' n' : Int) (s' : ByteArray) (w : World) : (binOp .eql 34 (.agg #[.int .i64 k, .int .i64 n, .string s]) (.agg #[.int .i64 k', .int .i64 n', .string s'])).run Tryd.prog w = .ok (.bool (eqB k n s k' n' s')) w := by
  have hu := Tryd.underlying34
  have := standV
  simp [go_sem, this, hu, Lib.toList_data]
  unfold eqB
  by_cases h1 : k = k' <;> by_cases h2 : n = n' <;> by_cases h3 : s.data = s'.data <;> simp [h1, h2, h3]
theorem run_neqV (k n : Int) (s : ByteArray) (k' n' : Int) (s' : ByteArray) (w : World) : (binOp .neq 34 (.agg #[.int .i64 k, .int .i64 n, .string s]) (.agg #[.int .i64 k', .int .i64 n', .string s'])).run Tryd.prog w = .ok (.bool (!eqB k n s k' n' s')) w := by
  have hu := Tryd.underlying34
  have := standV
  simp [go_sem, this, hu, Lib.toList_data]
  unfold eqB
  by_cases h1 : k = k' <;> by_cases h2 : n = n' <;> by_cases h3 : s.data = s'.data <;> simp [h1, h2, h3]

end Go.Proofs.YtojcabnjodfdmaaDoor
