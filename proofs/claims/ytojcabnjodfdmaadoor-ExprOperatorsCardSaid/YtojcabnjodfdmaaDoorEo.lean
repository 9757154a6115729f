/- Contract of the program's opName. No condition. -/
import Derived.Test.YtojcabnjodfdmaaDoorXCols
import Derived.Test.YtojcabnjodfdmaaDoorVeq
import Derived.Laws.Tables
import Derived.Laws.CopyOwn
namespace Go.Proofs.YtojcabnjodfdmaaDoor
open Go.RowKit

theorem wpList_buildTo {P : Program} {ops : Array Oper} {rest : List Oper} {o : Oper} {a : Act} {w : World} {Q : Exit → Act → World → Prop} (hg : o.guard = none) (t : TypeId) (parts : Array (Nat × Operand)) (ho : o.op = .build t parts) (cells : Array Value)
    (hc : P.built t (parts.map fun (i, x) => (i, a.eval x)).toList = some cells) (h : wpList P ops Q rest (a.put o.dst (.agg cells)) w) : wpList P ops Q (o :: rest) a w :=
  wpList_build hg t parts ho (by rw [hc]; rfl) (by rw [hc]; exact h)
def OpPost (w : World) (op : Int) (e : Ending) (w' : World) : Prop := e = .returned (.string ⟨(wordL op).toArray⟩) ∧ Below w.heap.size w w'
def opTbl : Array Value := #[Value.string ⟨#[]⟩, Value.string ⟨#[]⟩, Value.string ⟨#[]⟩] ++ (wordT.map fun l => Value.string ⟨List.toArray l⟩).toArray
theorem opTbl_at (k : Nat) (h1 : 3 ≤ k) (h2 : k ≤ 18) : opTbl[k]? = some (.string ⟨(wordL (k : Int)).toArray⟩) := by
  obtain rfl | rfl | rfl | rfl | rfl | rfl | rfl | rfl | rfl | rfl | rfl | rfl | rfl | rfl | rfl | rfl : k = 3 ∨ k = 4 ∨ k = 5 ∨ k = 6 ∨ k = 7 ∨ k = 8 ∨ k = 9 ∨ k = 10 ∨ k = 11 ∨ k = 12 ∨ k = 13 ∨ k = 14 ∨ k = 15 ∨ k = 16 ∨ k = 17 ∨ k = 18 := by omega
  all_goals rfl
set_option maxRecDepth 100000 in
set_option maxHeartbeats 1000000 in
theorem opName_c (op : Int) (w : World) (h1 : 3 ≤ op) (h2 : op ≤ 18) : Calls Tryd.prog 72 #[.int .i64 op] w (OpPost w op) := by
  obtain ⟨k, rfl⟩ := Int.eq_ofNat_of_zero_le (show 0 ≤ op by omega)
  have hk := opTbl_at k (by omega) (by omega)
  have hk0 : (0 : Int) ≤ (k : Int) := by omega
  have hk19 : (k : Int) < 19 := by omega
  unfold OpPost
  generalize (⟨(wordL (k : Int)).toArray⟩ : ByteArray) = s at hk
  go_enter Tryd.func72, Tryd.ntmps72
  go_wp2_with (first
    | (refine wpList_buildTo rfl _ _ rfl opTbl (by as_aux_lemma => kernel_rfl) ?_)
    | (refine wpList_store_row rfl 101 (.tmp 3) (.tmp 4) rfl w.heap.size opTbl rfl rfl 101 _ (heap_alloc_new w _) (by as_aux_lemma => kernel_rfl) (by as_aux_lemma => kernel_rfl) (by as_aux_lemma => kernel_rfl) ?_
       have hcW := (cell_setRow_same _ w.heap.size k _ opTbl _ _ (heap_alloc_new w (.cells #[.string ⟨#[]⟩, .string ⟨#[]⟩, .string ⟨#[]⟩, .string ⟨#[]⟩, .string ⟨#[]⟩, .string ⟨#[]⟩, .string ⟨#[]⟩, .string ⟨#[]⟩, .string ⟨#[]⟩, .string ⟨#[]⟩, .string ⟨#[]⟩, .string ⟨#[]⟩, .string ⟨#[]⟩, .string ⟨#[]⟩, .string ⟨#[]⟩, .string ⟨#[]⟩, .string ⟨#[]⟩, .string ⟨#[]⟩, .string ⟨#[]⟩] 101))).trans hk
       have hbW := below_setRow ((Below.refl w.heap.size w).alloc (Nat.le_refl _) (.cells #[.string ⟨#[]⟩, .string ⟨#[]⟩, .string ⟨#[]⟩, .string ⟨#[]⟩, .string ⟨#[]⟩, .string ⟨#[]⟩, .string ⟨#[]⟩, .string ⟨#[]⟩, .string ⟨#[]⟩, .string ⟨#[]⟩, .string ⟨#[]⟩, .string ⟨#[]⟩, .string ⟨#[]⟩, .string ⟨#[]⟩, .string ⟨#[]⟩, .string ⟨#[]⟩, .string ⟨#[]⟩, .string ⟨#[]⟩, .string ⟨#[]⟩] 101)) (Nat.le_refl _) opTbl
       generalize World.setRow _ _ _ = W at hcW hbW ⊢))
  go_ret
  exact ⟨rfl, by (repeat (first | (with_reducible exact Below.refl _ _) | (with_reducible assumption) | (with_reducible refine Below.drew ?_) | (with_reducible refine below_drewN ?_ _) | ((with_reducible refine Below.setCell ?_ ?_ _); rotate_left; (focus (first | (simp; done) | (simp; omega) | omega))) | ((with_reducible refine Below.alloc ?_ ?_ _); rotate_left; (focus (first | (simp; done) | (simp; omega) | omega))) | ((with_reducible apply below_step1); (focus (with_reducible assumption)))))⟩
end Go.Proofs.YtojcabnjodfdmaaDoor
