/- How a row of strings that came in is opened. No condition. -/
import Derived.Test.YtojcabnjodfdmaaDoorBc
namespace Go.Proofs.YtojcabnjodfdmaaDoor
open Go.RowKit Go.ChangeShapes Go.WideShapes Go.Deep
section
variable {H : Type} {enc : TypeId × Value → H} {w : World} {base : Nat} {spare : Nat → Bool} {held : Bool} {fuel : Nat}
theorem open_rowS {A : Option Addr} {n c : Nat} {x : DataW H × List MemPlace} (h : DataW.trod enc Tryd.prog w base spare held fuel 44 [.slice A n c] = some x) : n ≤ maxLen ∧ ∃ ss, RowS w w.heap.size A n ss := by
  rcases open_slice Tryd.underlying44 h with ⟨h0, _⟩ | ⟨a, len, cap, m, n', D, Pl, hcs, hb, hl, hm, hmm, _, hi⟩
  · simp at h0
    obtain ⟨rfl, rfl, rfl⟩ := h0
    exact ⟨Nat.zero_le _, [], RowOf.nil_⟩
  · simp at hcs
    obtain ⟨rfl, rfl, rfl⟩ := hcs
    refine ⟨by omega, ?_⟩
    have hnm : n ≤ m := by rw [hmm]; split <;> omega
    have h3 := cellsStr
    obtain ⟨vs, hv1, hv2⟩ := exists_list (P := fun i (s : ByteArray) => w.cell? (a.add i) = some (.string s)) n (fun i hin => by
      obtain ⟨cs', hc, ht⟩ := hi i (by omega)
      rw [h3] at hc
      obtain ⟨s, e2, _⟩ := DataW.trod_string Tryd.underlying9 ht
      obtain ⟨_, hcl, hat⟩ := World.cells?_some hc
      refine ⟨s, ?_⟩
      have := hat 0 (by omega)
      rw [e2, Nat.mul_one] at this
      have h0 : (a.add i).add 0 = a.add i := rfl
      rw [h0] at this
      simpa using this)
    refine ⟨vs, hv1, fun hne => ?_⟩
    have hl0 : 0 < vs.length := by
      rcases Nat.eq_zero_or_pos vs.length with h0 | h0
      · rw [List.eq_nil_of_length_eq_zero h0] at hne
        exact absurd rfl hne
      · exact h0
    obtain ⟨b, off, spot⟩ := a
    have hc0 := hv2 0 vs[0] (List.getElem?_eq_getElem hl0)
    have hspot : spot = none := by simpa [Addr.add] using World.cell?_spot hc0
    subst hspot
    refine ⟨b, off, rfl, by simpa [Addr.add] using cell_lt hc0, fun j u hu => ?_⟩
    have hj : j < vs.length := by
      have := (List.getElem?_eq_some_iff.1 hu).1
      rwa [flatMap_len 1 (fun _ => rfl), Nat.mul_one] at this
    have hx := flatMap_at (cells := fun s : ByteArray => [Value.string s]) 1 (fun _ => rfl) vs j 0 vs[j] _ (List.getElem?_eq_getElem hj) rfl
    rw [Nat.mul_one, Nat.add_zero, hu] at hx
    have hf := hv2 j _ (List.getElem?_eq_getElem hj)
    rw [← hx] at hf
    rwa [addr_add] at hf
end
end Go.Proofs.YtojcabnjodfdmaaDoor
