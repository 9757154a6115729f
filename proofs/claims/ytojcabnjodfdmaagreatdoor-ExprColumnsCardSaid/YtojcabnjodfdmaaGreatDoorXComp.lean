/- Evaluating a substituted expression is evaluating the items first. Plain Lean, no condition. -/
import Derived.Test.YtojcabnjodfdmaaGreatDoorXSubst
import Derived.Test.YtojcabnjodfdmaaGreatDoorBb
namespace Go.Proofs.YtojcabnjodfdmaaGreatDoor
theorem evalE_flat {x : X} (hw : x.wf = true) (hv : validE x.flat = true) (row : List V) : evalE x.flat row = x.ev row := by
  rw [validE_flat hw] at hv
  simp at hv
  unfold evalE
  rw [treeE_flat hv.1 hw hv.2]
theorem cols_any {x : X} {n : Nat} (hc : colsIn n x.flat) : x.flat.any (badCol n) = false := by
  rw [Bool.eq_false_iff]
  intro h
  obtain ⟨t, ht, hb⟩ := List.any_eq_true.1 h
  simp [badCol] at hb
  have := hc t ht hb.1
  omega
theorem compose_law (x : X) (its : List X) (hx : x.wf = true) (hd : x.depth ≤ 4) (hc : colsIn its.length x.flat) (hi : ∀ y ∈ its, y.wf = true ∧ y.depth ≤ 4) :
    (substE x.flat (its.map X.flat) = ([], 8)) ∨ ∃ l, substE x.flat (its.map X.flat) = (l, 0) ∧ ∀ row, evalE l row = evalE x.flat ((its.map X.flat).map fun l => evalE l row) := by
  have h1 : validE x.flat = true := valid4 hx hd
  have h2 : (its.map X.flat).all validE = true := by
    rw [List.all_eq_true]
    intro l hl
    obtain ⟨y, hy, rfl⟩ := List.mem_map.1 hl
    exact valid4 (hi y hy).1 (hi y hy).2
  have h3 : x.flat.any (badCol (its.map X.flat).length) = false := by rw [List.length_map]; exact cols_any hc
  have h4 := X.sub_flat its x hx hc
  have hsw := X.sub_wf its (fun y hy => (hi y hy).1) x hx
  unfold substE
  rw [if_neg (by rw [h1]; decide), if_neg (by rw [h2]; decide), if_neg (by rw [h3]; decide), ← h4]
  cases h5 : validE (x.sub its).flat
  · left; rfl
  · right
    refine ⟨_, by rw [if_pos rfl], fun row => ?_⟩
    rw [evalE_flat hsw h5, X.sub_ev its (fun y hy => (hi y hy).1) row x hx hc, evalE_flat hx h1, List.map_map]
    congr 1
    apply List.map_congr_left
    intro y hy
    exact (evalE_flat (hi y hy).1 (valid4 (hi y hy).1 (hi y hy).2) row).symm
end Go.Proofs.YtojcabnjodfdmaaGreatDoor
