/- How the arguments of the laws are opened: values and rows of values that came in. No condition. -/
import Derived.Test.YtmbegmhgiekofaaDoorVa
import Derived.ProofKit
import Derived.Deep.Slices
import Derived.Deep.Fields
import Derived.ChangeSame
import Derived.Carry
namespace Go.Proofs.YtmbegmhgiekofaaDoor
open Go.RowKit Go.ChangeShapes Go.WideShapes Go.Deep

theorem exists_list {α : Type} {P : Nat → α → Prop} : ∀ n : Nat, (∀ i, i < n → ∃ v, P i v) → ∃ vs : List α, vs.length = n ∧ ∀ i v, vs[i]? = some v → P i v := by
  intro n
  induction n with
  | zero => intro _; exact ⟨[], rfl, fun i v h => by simp at h⟩
  | succ n ih =>
    intro h
    obtain ⟨vs, h1, h2⟩ := ih fun i hi => h i (by omega)
    obtain ⟨x, hx⟩ := h n (by omega)
    refine ⟨vs ++ [x], by simp [h1], fun i v hv => ?_⟩
    rcases Nat.lt_or_ge i n with hi | hi
    · rw [List.getElem?_append_left (by omega)] at hv
      exact h2 i v hv
    · rw [List.getElem?_append_right (by omega)] at hv
      have : i = n := by
        have := (List.getElem?_eq_some_iff.1 hv).1
        simp at this
        omega
      subst this
      rw [h1] at hv
      simp at hv
      subst hv
      exact hx
theorem cell_lt {w : World} {a : Addr} {u : Value} (h : w.cell? a = some u) : a.block < w.heap.size := by
  rcases Nat.lt_or_ge a.block w.heap.size with hl | hl
  · exact hl
  · simp [World.cell?, Array.getElem?_eq_none hl] at h

theorem addr_add (b off j : Nat) : (⟨b, off, none⟩ : Addr).add j = ⟨b, off + j, none⟩ := by
  unfold Addr.add
  split
  · subst_vars; rfl
  · simp
theorem list3 {α : Type} {l : List α} (h : l.length = 3) : ∃ a b c, l = [a, b, c] := by
  match l, h with
  | [a, b, c], _ => exact ⟨a, b, c, rfl⟩
theorem agg_cells {cs : Array Value} {v : V} (h : (Value.agg cs).cells.toList = v.cells) : cs = #[.int .i64 v.k, .int .i64 v.n, .string v.s] := by
  rw [← Array.toList_inj]
  exact h
theorem cellsV : Tryd.prog.cellsOf 49 = 3 := by kernel_rfl
theorem cellsInt : Tryd.prog.cellsOf 3 = 1 := by kernel_rfl
theorem cellsInt64 : Tryd.prog.cellsOf 2 = 1 := by kernel_rfl
theorem cellsStr : Tryd.prog.cellsOf 9 = 1 := by kernel_rfl
section
variable {H : Type} {enc : TypeId × Value → H} {w : World} {base : Nat} {spare : Nat → Bool} {held : Bool} {fuel : Nat}
theorem openV {cs : List Value} {x : DataW H × List MemPlace} (h : DataW.trod enc Tryd.prog w base spare held fuel 49 cs = some x) : ∃ v : V, cs = v.cells := by
  obtain ⟨ys, n, _, _, hl, hyl, hf⟩ := DataW.trod_struct Tryd.underlying49 h
  rw [cellsV] at hl
  obtain ⟨c0, c1, c2, rfl⟩ := list3 hl
  obtain ⟨y0, y1, y2, rfl⟩ := list3 (l := ys) hyl
  have h0 : DataW.trod enc Tryd.prog w base spare held n 3 [c0] = some y0 := by simpa [cellsInt] using hf 0 _ rfl
  have h1 : DataW.trod enc Tryd.prog w base spare held n 2 [c1] = some y1 := by simpa [cellsInt64] using hf 1 _ rfl
  have h2 : DataW.trod enc Tryd.prog w base spare held n 9 [c2] = some y2 := by simpa [cellsStr] using hf 2 _ rfl
  obtain ⟨k, e0, _⟩ := DataW.trod_int Tryd.underlying3 h0
  obtain ⟨m, e1, _⟩ := DataW.trod_int Tryd.underlying2 h1
  obtain ⟨s, e2, _⟩ := DataW.trod_string Tryd.underlying9 h2
  simp at e0 e1 e2
  subst e0 e1 e2
  exact ⟨⟨k, m, s⟩, rfl⟩
end
end Go.Proofs.YtmbegmhgiekofaaDoor
