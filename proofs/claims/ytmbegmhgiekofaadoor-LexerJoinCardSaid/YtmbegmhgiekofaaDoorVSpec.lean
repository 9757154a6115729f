/- What the values of layer 1 are, in plain Lean: validity, cleaning, order. No program in sight, no condition. -/
import Derived.Lib.Hide
import Derived.Lib.Strings
import Derived.Laws.Sem
namespace Go.Proofs.YtmbegmhgiekofaaDoor

/-- An api.Value. -/
structure V where
  k : Int
  n : Int
  s : ByteArray
def V.cells (v : V) : List Value := [.int .i64 v.k, .int .i64 v.n, .string v.s]
def V.ok (v : V) : Bool :=
  (v.k == 0 && v.n == 0 && decide (v.s.size = 0)) || (v.k == 1 && decide (-4294967296 ≤ v.n) && decide (v.n ≤ 4294967296) && decide (v.s.size = 0)) || (v.k == 2 && v.n == 0 && decide (v.s.size ≤ 32))
def V.null : V := ⟨0, 0, ⟨#[]⟩⟩
def V.cl (v : V) : V := if v.ok then v else V.null
theorem V.cl_of {v : V} (h : v.ok = true) : v.cl = v := by simp [V.cl, h]
theorem V.cl_not {v : V} (h : v.ok = false) : v.cl = V.null := by simp [V.cl, h]
theorem toList_isEmpty (s : ByteArray) : s.toList.isEmpty = decide (s.size = 0) := by
  rw [Lib.toList_data, Lib.size_eq]
  cases s.data.toList <;> simp
def rowOk (vs : List V) : Bool := decide (vs.length ≤ 16) && vs.all V.ok
def longB (vs : List V) : Bool := decide (40 < vs.length) || vs.any (fun v => decide (200 < v.s.size))
theorem V.null_ok : V.null.ok = true := by decide
theorem V.cl_ok (v : V) : v.cl.ok = true := by
  unfold V.cl
  split
  · assumption
  · exact V.null_ok
end Go.Proofs.YtmbegmhgiekofaaDoor
