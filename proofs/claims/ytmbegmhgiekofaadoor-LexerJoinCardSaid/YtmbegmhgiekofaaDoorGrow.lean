/- Small general lemmas: worlds that grew by one row, lists that are walked one by one, new rows. No condition. -/
import Derived.Test.YtmbegmhgiekofaaDoorBytes
import Derived.Test.YtmbegmhgiekofaaDoorVa
namespace Go.Proofs.YtmbegmhgiekofaaDoor
open Go.RowKit

/-- Two appends one behind the other: what is no row of the call's own stays. -/
theorem grown_two {w w1 w2 : World} {r r1 : Option Nat} {m : Nat} (h : w.grownBy w1 r) (hr : r1 = r ∨ r1 = some m) (hm : w.heap.size ≤ m) (h1 : w1.grownBy w2 r1) : w.grownBy w2 r :=
  ⟨h1.os.trans h.os, h1.tape.trans h.tape, h1.output.trans h.output, Nat.le_trans h.size h1.size, fun k hk hne => (h1.block k (Nat.lt_of_lt_of_le hk h.size) (by
    rcases hr with e | e
    · rw [e]; exact hne
    · rw [e]; intro h0; injection h0 with h0; omega)).trans (h.block k hk hne)⟩
theorem grown_at {w w1 w2 : World} {r r1 : Option Nat} (h : w.grownBy w1 r) (hr : r1 = r ∨ ∃ g, r1 = some g ∧ w.heap.size ≤ g) (h1 : w1.grownBy w2 r1) : w.grownBy w2 r := by
  rcases hr with e | ⟨g, e, hg⟩
  · exact grown_two h (.inl e) (Nat.le_refl _) h1
  · exact grown_two h (.inr e) hg h1
theorem grown_alloc {w w1 : World} {r : Option Nat} {o : Obj} (h : (w.alloc o).grownBy w1 r) : w.grownBy w1 r :=
  ⟨h.os, h.tape, h.output, Nat.le_trans (by simp) h.size, fun k hk hne => (h.block k (by simp; omega) hne).trans (Below.heap_alloc w o k hk)⟩
theorem take_any_succ {α : Type} (p : α → Bool) (l : List α) (k : Nat) (v : α) (h : l[k]? = some v) : (l.take (k + 1)).any p = ((l.take k).any p || p v) := by
  rw [List.take_add_one, h]; simp
theorem take_all_succ {α : Type} (p : α → Bool) (l : List α) (k : Nat) (v : α) (h : l[k]? = some v) : (l.take (k + 1)).all p = ((l.take k).all p && p v) := by
  rw [List.take_add_one, h]; simp
theorem any_of_at {α : Type} (p : α → Bool) (l : List α) (k : Nat) (v : α) (h : l[k]? = some v) (hp : p v = true) : l.any p = true :=
  List.any_eq_true.2 ⟨v, List.mem_of_getElem? h, hp⟩
theorem all_not_at {α : Type} (p : α → Bool) (l : List α) (k : Nat) (v : α) (h : l[k]? = some v) (hp : p v = false) : l.all p = false := by
  rw [Bool.eq_false_iff]
  intro h1
  have := List.all_eq_true.1 h1 v (List.mem_of_getElem? h)
  rw [hp] at this
  cases this
theorem row_new (w : World) (cs : Array Value) (t : TypeId) (n : Nat) (vs : List V) (hn : vs.length = n) (hc : cs.toList = vs.flatMap V.cells) : Row (w.alloc (.cells cs t)) (w.heap.size + 1) (some ⟨w.heap.size, 0, none⟩) n vs := by
  refine ⟨hn, fun _ => ⟨w.heap.size, 0, rfl, by omega, fun j u hu => ?_⟩⟩
  rw [← hc] at hu
  have := new_cells w cs t j u hu
  have h8 : (⟨w.heap.size, 0, none⟩ : Addr).add j = ⟨w.heap.size, 0 + j, none⟩ := by
    unfold Addr.add
    split
    · subst_vars; rfl
    · simp
  rwa [h8] at this
end Go.Proofs.YtmbegmhgiekofaaDoor
