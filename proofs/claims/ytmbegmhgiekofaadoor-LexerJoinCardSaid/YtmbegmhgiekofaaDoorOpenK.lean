/- How a row of tokens that came in is opened. No condition. -/
import Derived.Test.YtmbegmhgiekofaaDoorOpen
import Derived.Test.YtmbegmhgiekofaaDoorLg
namespace Go.Proofs.YtmbegmhgiekofaaDoor
open Go.RowKit Go.ChangeShapes Go.WideShapes Go.Deep

theorem list4 {α : Type} {l : List α} (h : l.length = 4) : ∃ a b c d, l = [a, b, c, d] := by
  match l, h with
  | [a, b, c, d], _ => exact ⟨a, b, c, d, rfl⟩
theorem cellsTk : Tryd.prog.cellsOf 38 = 4 := by kernel_rfl
section
variable {H : Type} {enc : TypeId × Value → H} {w : World} {base : Nat} {spare : Nat → Bool} {held : Bool} {fuel : Nat}
theorem openK {cs : List Value} {x : DataW H × List MemPlace} (h : DataW.trod enc Tryd.prog w base spare held fuel 38 cs = some x) : ∃ t : Tk, cs = t.cells := by
  obtain ⟨ys, n, _, _, hl, hyl, hf⟩ := DataW.trod_struct Tryd.underlying38 h
  rw [cellsTk] at hl
  obtain ⟨c0, c1, c2, c3, rfl⟩ := list4 hl
  obtain ⟨y0, y1, y2, y3, rfl⟩ := list4 (l := ys) hyl
  have h0 : DataW.trod enc Tryd.prog w base spare held n 3 [c0] = some y0 := by simpa [cellsInt] using hf 0 _ rfl
  have h1 : DataW.trod enc Tryd.prog w base spare held n 9 [c1] = some y1 := by simpa [cellsInt, cellsStr] using hf 1 _ rfl
  have h2 : DataW.trod enc Tryd.prog w base spare held n 2 [c2] = some y2 := by simpa [cellsInt, cellsStr, cellsInt64] using hf 2 _ rfl
  have h3 : DataW.trod enc Tryd.prog w base spare held n 3 [c3] = some y3 := by simpa [cellsInt, cellsStr, cellsInt64] using hf 3 _ rfl
  obtain ⟨k, e0, _⟩ := DataW.trod_int Tryd.underlying3 h0
  obtain ⟨s, e1, _⟩ := DataW.trod_string Tryd.underlying9 h1
  obtain ⟨m, e2, _⟩ := DataW.trod_int Tryd.underlying2 h2
  obtain ⟨p, e3, _⟩ := DataW.trod_int Tryd.underlying3 h3
  simp at e0 e1 e2 e3
  subst e0 e1 e2 e3
  exact ⟨⟨k, s.data.toList, m, p⟩, by simp [Tk.cells, Lib.mk_data]⟩
theorem open_rowK {A : Option Addr} {n c : Nat} {x : DataW H × List MemPlace} (h : DataW.trod enc Tryd.prog w base spare held fuel 33 [.slice A n c] = some x) : n ≤ maxLen ∧ ∃ ts, RowK w w.heap.size A n ts := by
  rcases open_slice Tryd.underlying33 h with ⟨h0, _⟩ | ⟨a, len, cap, m, n', D, Pl, hcs, hb, hl, hm, hmm, _, hi⟩
  · simp at h0
    obtain ⟨rfl, rfl, rfl⟩ := h0
    exact ⟨Nat.zero_le _, [], RowOf.nil_⟩
  · simp at hcs
    obtain ⟨rfl, rfl, rfl⟩ := hcs
    refine ⟨by omega, ?_⟩
    have hnm : n ≤ m := by rw [hmm]; split <;> omega
    have h3 := cellsTk
    obtain ⟨vs, hv1, hv2⟩ := exists_list (P := fun i v => ∀ j u, (Tk.cells v)[j]? = some u → w.cell? ((a.add (i * 4)).add j) = some u) n (fun i hin => by
      obtain ⟨cs', hc, ht⟩ := hi i (by omega)
      rw [h3] at hc
      obtain ⟨v, rfl⟩ := openK ht
      obtain ⟨_, hcl, hat⟩ := World.cells?_some hc
      exact ⟨v, fun j u hu => (hat j (show j < 4 from (List.getElem?_eq_some_iff.1 hu).1)).trans hu⟩)
    refine ⟨vs, hv1, fun hne => ?_⟩
    have hpos : 0 < n := by
      rcases Nat.eq_zero_or_pos n with h0 | h0
      · subst h0
        rw [List.eq_nil_of_length_eq_zero hv1] at hne
        exact absurd rfl hne
      · exact h0
    obtain ⟨b, off, spot⟩ := a
    have hl0 : 0 < vs.length := by omega
    have hc0 := hv2 0 vs[0] (List.getElem?_eq_getElem hl0) 0 _ rfl
    have hspot : spot = none := by simpa [Addr.add] using World.cell?_spot hc0
    subst hspot
    refine ⟨b, off, rfl, by simpa [Addr.add] using cell_lt hc0, fun j u hu => ?_⟩
    have hj : j < vs.length * 4 := by
      have := (List.getElem?_eq_some_iff.1 hu).1
      rwa [flatMap_len 4 (fun _ => rfl)] at this
    have hq : j / 4 < vs.length := by omega
    have hx := flatMap_at (cells := Tk.cells) 4 (fun _ => rfl) vs (j / 4) (j % 4) vs[j / 4] _ (List.getElem?_eq_getElem hq) (List.getElem?_eq_getElem (show j % 4 < (Tk.cells vs[j / 4]).length by simp [Tk.cells]; omega))
    have he : j / 4 * 4 + j % 4 = j := by omega
    rw [he, hu] at hx
    have hf := hv2 (j / 4) _ (List.getElem?_eq_getElem hq) (j % 4) _ (List.getElem?_eq_getElem (show j % 4 < (Tk.cells vs[j / 4]).length by simp [Tk.cells]; omega))
    rw [← hx] at hf
    rw [Go.Deep.add_add, he] at hf
    rwa [addr_add] at hf
end
end Go.Proofs.YtmbegmhgiekofaaDoor
