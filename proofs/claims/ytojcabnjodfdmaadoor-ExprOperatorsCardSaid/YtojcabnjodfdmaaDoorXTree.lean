/- The tree of a valid expression, and what is read off it: value, text, type. Plain Lean, no condition. -/
import Derived.Test.YtojcabnjodfdmaaDoorXCols
import Derived.Test.YtojcabnjodfdmaaDoorXType
import Derived.Test.YtojcabnjodfdmaaDoorXSub
namespace Go.Proofs.YtojcabnjodfdmaaDoor

def treeE (l : List T) : Option X := if validE l = true then (readX 16 l).map Prod.fst else none
theorem treeE_bad {l : List T} (h : validE l = false) : treeE l = none := by unfold treeE; rw [h]; rfl
theorem treeE_flat {x : X} (h : x.flat.length ≤ 64) (hw : x.wf = true) (hd : x.depth ≤ 16) : treeE x.flat = some x := by
  have h1 : validE x.flat = true := (validE_iff _).2 ⟨h, x, rfl, hw, hd⟩
  have h2 := readX_flat x [] 16 hw hd
  rw [List.append_nil] at h2
  unfold treeE
  rw [if_pos h1, h2]
  rfl
theorem treeE_ok {l : List T} (h : validE l = true) : ∃ x, treeE l = some x ∧ l = x.flat ∧ x.wf = true ∧ x.depth ≤ 16 ∧ l.length ≤ 64 := by
  obtain ⟨h1, x, rfl, h2, h3⟩ := (validE_iff l).1 h
  exact ⟨x, treeE_flat h1 h2 h3, rfl, h2, h3, h1⟩
def evalE (l : List T) (row : List V) : V := match treeE l with
  | some x => x.ev row
  | none => V.null
def formatE (l : List T) (names : List ByteArray) : List UInt8 := match treeE l with
  | some x => x.fmt names
  | none => []
theorem evalE_ok (l : List T) (row : List V) : (evalE l row).ok = true := by
  cases h : validE l
  · unfold evalE; rw [treeE_bad h]; exact V.null_ok
  · obtain ⟨x, h1, _, h2, _⟩ := treeE_ok h
    unfold evalE; rw [h1]; exact X.ev_ok row x h2
end Go.Proofs.YtojcabnjodfdmaaDoor
