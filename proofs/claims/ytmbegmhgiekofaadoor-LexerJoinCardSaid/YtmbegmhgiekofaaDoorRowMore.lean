/- Rows that were just laid, and rows in a later world. No condition. -/
import Derived.Test.YtmbegmhgiekofaaDoorGrow
namespace Go.Proofs.YtmbegmhgiekofaaDoor
open Go.RowKit
theorem rowOf_made {α : Type} {cells : α → List Value} (w : World) (cs : Array Value) (t : TypeId) (n : Nat) (vs : List α) (hn : vs.length = n) (hc : cs.toList = vs.flatMap cells) : RowOf cells (w.alloc (.cells cs t)) (w.alloc (.cells cs t)).heap.size (some ⟨w.heap.size, 0, none⟩) n vs := by
  refine ⟨hn, fun _ => ⟨w.heap.size, 0, rfl, by simp, fun j u hu => ?_⟩⟩
  rw [← hc] at hu
  have := new_cells w cs t j u hu
  have h8 : (⟨w.heap.size, 0, none⟩ : Addr).add j = ⟨w.heap.size, 0 + j, none⟩ := by
    unfold Addr.add
    split
    · subst_vars; rfl
    · simp
  rwa [h8] at this
theorem RowOf.later {α : Type} {cells : α → List Value} {w w' : World} {A : Option Addr} {n : Nat} {xs : List α} (h : RowOf cells w w.heap.size A n xs) (hb : Below w.heap.size w w') : RowOf cells w' w'.heap.size A n xs := (h.below hb).more hb.size
end Go.Proofs.YtmbegmhgiekofaaDoor
