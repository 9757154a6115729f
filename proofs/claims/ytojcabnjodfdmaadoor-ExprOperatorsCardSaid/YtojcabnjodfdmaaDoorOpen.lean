/- How the arguments of the laws are opened: values and rows of values that came in. No condition. -/
import Derived.Test.YtojcabnjodfdmaaDoorVa
import Derived.ProofKit
import Derived.Deep.Slices
import Derived.Deep.Fields
import Derived.ChangeSame
import Derived.Carry
namespace Go.Proofs.YtojcabnjodfdmaaDoor
open Go.RowKit Go.ChangeShapes Go.WideShapes Go.Deep

theorem exists_list {α : Type} {P : Nat → α → Prop} : ∀ n : Nat, (∀ i, i < n → ∃ v, P i v) → ∃ vs : List α, vs.length = n ∧ ∀ i v, vs[i]? = some v → P i v := by
  intro n
  induction n with
  | zero => intro _; exact ⟨[], rfl, fun i v h => by simp at h⟩
  | succ n ih =>
    intro h
    obtain ⟨vs, h1, h2⟩ := ih fun i hi => h i (by omega)
    obtain ⟨x, hx⟩ := h n (by omega)
    refine ⟨vs ++ [x], by simp [h1], fun i v hv => ?_⟩
    rcases Nat.lt_or_ge i n with hi | hi
    · rw [List.getElem?_append_left (by omega)] at hv
      exact h2 i v hv
    · rw [List.getElem?_append_right (by omega)] at hv
      have : i = n := by
        have := (List.getElem?_eq_some_iff.1 hv).1
        simp at this
        omega
      subst this
      rw [h1] at hv
      simp at hv
      subst hv
      exact hx
theorem cell_lt {w : World} {a : Addr} {u : Value} (h : w.cell? a = some u) : a.block < w.heap.size := by
  rcases Nat.lt_or_ge a.block w.heap.size with hl | hl
  · exact hl
  · simp [World.cell?, Array.getElem?_eq_none hl] at h

theorem addr_add (b off j : Nat) : (⟨b, off, none⟩ : Addr).add j = ⟨b, off + j, none⟩ := by
  unfold Addr.add
  split
  · subst_vars; rfl
  · simp
theorem list3 {α : Type} {l : List α} (h : l.length = 3) : ∃ a b c, l = [a, b, c] := by
  match l, h with
  | [a, b, c], _ => exact ⟨a, b, c, rfl⟩
theorem agg_cells {cs : Array Value} {v : V} (h : (Value.agg cs).cells.toList = v.cells) : cs = #[.int .i64 v.k, .int .i64 v.n, .string v.s] := by
  rw [← Array.toList_inj]
  exact h
theorem cellsV : Tryd.prog.cellsOf 34 = 3 := by kernel_rfl
theorem cellsInt : Tryd.prog.cellsOf 3 = 1 := by kernel_rfl
theorem cellsInt64 : Tryd.prog.cellsOf 2 = 1 := by kernel_rfl
theorem cellsStr : Tryd.prog.cellsOf 9 = 1 := by kernel_rfl
section
variable {H : Type} {enc : TypeId × Value → H} {w : World} {base : Nat} {spare : Nat → Bool} {held : Bool} {fuel : Nat}
theorem openV {cs : List Value} {x : DataW H × List MemPlace} (h : DataW.trod enc Tryd.prog w base spare held fuel 34 cs = some x) : ∃ v : V, cs = v.cells := by
  obtain ⟨ys, n, _, _, hl, hyl, hf⟩ := DataW.trod_struct Tryd.underlying34 h
  rw [cellsV] at hl
  obtain ⟨c0, c1, c2, rfl⟩ := list3 hl
  obtain ⟨y0, y1, y2, rfl⟩ := list3 (l := ys) hyl
  have h0 : DataW.trod enc Tryd.prog w base spare held n 3 [c0] = some y0 := by simpa [cellsInt] using hf 0 _ rfl
  have h1 : DataW.trod enc Tryd.prog w base spare held n 2 [c1] = some y1 := by simpa [cellsInt64] using hf 1 _ rfl
  have h2 : DataW.trod enc Tryd.prog w base spare held n 9 [c2] = some y2 := by simpa [cellsStr] using hf 2 _ rfl
  obtain ⟨k, e0, _⟩ := DataW.trod_int Tryd.underlying3 h0
  obtain ⟨m, e1, _⟩ := DataW.trod_int Tryd.underlying2 h1
  obtain ⟨s, e2, _⟩ := DataW.trod_string Tryd.underlying9 h2
  simp at e0 e1 e2
  subst e0 e1 e2
  exact ⟨⟨k, m, s⟩, rfl⟩
theorem open_rowV {A : Option Addr} {n c : Nat} {x : DataW H × List MemPlace} (h : DataW.trod enc Tryd.prog w base spare held fuel 39 [.slice A n c] = some x) : n ≤ maxLen ∧ ∃ vs, Row w w.heap.size A n vs := by
  rcases open_slice Tryd.underlying39 h with ⟨h0, _⟩ | ⟨a, len, cap, m, n', D, Pl, hcs, hb, hl, hm, hmm, _, hi⟩
  · simp at h0
    obtain ⟨rfl, rfl, rfl⟩ := h0
    exact ⟨Nat.zero_le _, [], RowOf.nil_⟩
  · simp at hcs
    obtain ⟨rfl, rfl, rfl⟩ := hcs
    refine ⟨by omega, ?_⟩
    have hnm : n ≤ m := by rw [hmm]; split <;> omega
    have h3 := cellsV
    obtain ⟨vs, hv1, hv2⟩ := exists_list (P := fun i v => ∀ j u, (V.cells v)[j]? = some u → w.cell? ((a.add (i * 3)).add j) = some u) n (fun i hin => by
      obtain ⟨cs', hc, ht⟩ := hi i (by omega)
      rw [h3] at hc
      obtain ⟨v, rfl⟩ := openV ht
      obtain ⟨_, hcl, hat⟩ := World.cells?_some hc
      exact ⟨v, fun j u hu => (hat j (show j < 3 from (List.getElem?_eq_some_iff.1 hu).1)).trans hu⟩)
    refine ⟨vs, hv1, fun hne => ?_⟩
    have hpos : 0 < n := by
      rcases Nat.eq_zero_or_pos n with h0 | h0
      · subst h0
        rw [List.eq_nil_of_length_eq_zero hv1] at hne
        exact absurd rfl hne
      · exact h0
    obtain ⟨b, off, spot⟩ := a
    have hl0 : 0 < vs.length := by omega
    have hc0 := hv2 0 vs[0] (List.getElem?_eq_getElem hl0) 0 _ rfl
    have hspot : spot = none := by simpa [Addr.add] using World.cell?_spot hc0
    subst hspot
    refine ⟨b, off, rfl, by simpa [Addr.add] using cell_lt hc0, fun j u hu => ?_⟩
    have hj : j < vs.length * 3 := by
      have := (List.getElem?_eq_some_iff.1 hu).1
      rwa [flatMap_len 3 (fun _ => rfl)] at this
    have hq : j / 3 < vs.length := by omega
    have hx := flatMap_at (cells := V.cells) 3 (fun _ => rfl) vs (j / 3) (j % 3) vs[j / 3] _ (List.getElem?_eq_getElem hq) (List.getElem?_eq_getElem (show j % 3 < (V.cells vs[j / 3]).length by simp [V.cells]; omega))
    have he : j / 3 * 3 + j % 3 = j := by omega
    rw [he, hu] at hx
    have hf := hv2 (j / 3) _ (List.getElem?_eq_getElem hq) (j % 3) _ (List.getElem?_eq_getElem (show j % 3 < (V.cells vs[j / 3]).length by simp [V.cells]; omega))
    rw [← hx] at hf
    rw [Go.Deep.add_add, he] at hf
    rwa [addr_add] at hf
end
end Go.Proofs.YtojcabnjodfdmaaDoor
