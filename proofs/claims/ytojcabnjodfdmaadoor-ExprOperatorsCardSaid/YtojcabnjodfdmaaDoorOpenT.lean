/- How a row of terms that came in is opened. No condition. -/
import Derived.Test.YtojcabnjodfdmaaDoorOpen
import Derived.Test.YtojcabnjodfdmaaDoorEa
namespace Go.Proofs.YtojcabnjodfdmaaDoor
open Go.RowKit Go.ChangeShapes Go.WideShapes Go.Deep

theorem list5 {α : Type} {l : List α} (h : l.length = 5) : ∃ a b c d e, l = [a, b, c, d, e] := by
  match l, h with
  | [a, b, c, d, e], _ => exact ⟨a, b, c, d, e, rfl⟩
theorem cellsTm : Tryd.prog.cellsOf 36 = 5 := by kernel_rfl
section
variable {H : Type} {enc : TypeId × Value → H} {w : World} {base : Nat} {spare : Nat → Bool} {held : Bool} {fuel : Nat}
theorem openT {cs : List Value} {x : DataW H × List MemPlace} (h : DataW.trod enc Tryd.prog w base spare held fuel 36 cs = some x) : ∃ t : T, cs = t.cells := by
  obtain ⟨ys, n, _, _, hl, hyl, hf⟩ := DataW.trod_struct Tryd.underlying36 h
  rw [cellsTm] at hl
  obtain ⟨c0, c1, c2, c3, c4, rfl⟩ := list5 hl
  obtain ⟨y0, y1, y2, rfl⟩ := list3 (l := ys) hyl
  have h0 : DataW.trod enc Tryd.prog w base spare held n 3 [c0] = some y0 := by simpa [cellsInt] using hf 0 _ rfl
  have h1 : DataW.trod enc Tryd.prog w base spare held n 34 [c1, c2, c3] = some y1 := by simpa [cellsInt, cellsV] using hf 1 _ rfl
  have h2 : DataW.trod enc Tryd.prog w base spare held n 3 [c4] = some y2 := by simpa [cellsInt, cellsV] using hf 2 _ rfl
  obtain ⟨k, e0, _⟩ := DataW.trod_int Tryd.underlying3 h0
  obtain ⟨v, e1⟩ := openV h1
  obtain ⟨m, e2, _⟩ := DataW.trod_int Tryd.underlying3 h2
  simp [V.cells] at e0 e1 e2
  obtain ⟨e1, e3, e4⟩ := e1
  subst e0 e1 e2 e3 e4
  exact ⟨⟨k, v, m⟩, rfl⟩
theorem open_rowT {A : Option Addr} {n c : Nat} {x : DataW H × List MemPlace} (h : DataW.trod enc Tryd.prog w base spare held fuel 23 [.slice A n c] = some x) : n ≤ maxLen ∧ ∃ ts, RowT w w.heap.size A n ts := by
  rcases open_slice Tryd.underlying23 h with ⟨h0, _⟩ | ⟨a, len, cap, m, n', D, Pl, hcs, hb, hl, hm, hmm, _, hi⟩
  · simp at h0
    obtain ⟨rfl, rfl, rfl⟩ := h0
    exact ⟨Nat.zero_le _, [], RowOf.nil_⟩
  · simp at hcs
    obtain ⟨rfl, rfl, rfl⟩ := hcs
    refine ⟨by omega, ?_⟩
    have hnm : n ≤ m := by rw [hmm]; split <;> omega
    have h3 := cellsTm
    obtain ⟨vs, hv1, hv2⟩ := exists_list (P := fun i v => ∀ j u, (T.cells v)[j]? = some u → w.cell? ((a.add (i * 5)).add j) = some u) n (fun i hin => by
      obtain ⟨cs', hc, ht⟩ := hi i (by omega)
      rw [h3] at hc
      obtain ⟨v, rfl⟩ := openT ht
      obtain ⟨_, hcl, hat⟩ := World.cells?_some hc
      exact ⟨v, fun j u hu => (hat j (show j < 5 from (List.getElem?_eq_some_iff.1 hu).1)).trans hu⟩)
    refine ⟨vs, hv1, fun hne => ?_⟩
    have hpos : 0 < n := by
      rcases Nat.eq_zero_or_pos n with h0 | h0
      · subst h0
        rw [List.eq_nil_of_length_eq_zero hv1] at hne
        exact absurd rfl hne
      · exact h0
    obtain ⟨b, off, spot⟩ := a
    have hl0 : 0 < vs.length := by omega
    have hc0 := hv2 0 vs[0] (List.getElem?_eq_getElem hl0) 0 _ rfl
    have hspot : spot = none := by simpa [Addr.add] using World.cell?_spot hc0
    subst hspot
    refine ⟨b, off, rfl, by simpa [Addr.add] using cell_lt hc0, fun j u hu => ?_⟩
    have hj : j < vs.length * 5 := by
      have := (List.getElem?_eq_some_iff.1 hu).1
      rwa [flatMap_len 5 (fun _ => rfl)] at this
    have hq : j / 5 < vs.length := by omega
    have hx := flatMap_at (cells := T.cells) 5 (fun _ => rfl) vs (j / 5) (j % 5) vs[j / 5] _ (List.getElem?_eq_getElem hq) (List.getElem?_eq_getElem (show j % 5 < (T.cells vs[j / 5]).length by simp [T.cells]; omega))
    have he : j / 5 * 5 + j % 5 = j := by omega
    rw [he, hu] at hx
    have hf := hv2 (j / 5) _ (List.getElem?_eq_getElem hq) (j % 5) _ (List.getElem?_eq_getElem (show j % 5 < (T.cells vs[j / 5]).length by simp [T.cells]; omega))
    rw [← hx] at hf
    rw [Go.Deep.add_add, he] at hf
    rwa [addr_add] at hf
end
end Go.Proofs.YtojcabnjodfdmaaDoor
