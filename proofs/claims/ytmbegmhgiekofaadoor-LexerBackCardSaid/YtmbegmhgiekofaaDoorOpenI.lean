/- How a slice of ints that came in is opened. No condition. -/
import Derived.Test.YtmbegmhgiekofaaDoorOpen
import Derived.Test.YtmbegmhgiekofaaDoorTc
import Derived.SizedLaws
namespace Go.Proofs.YtmbegmhgiekofaaDoor
open Go.RowKit Go.ChangeShapes Go.WideShapes Go.Deep
theorem bytesInt : Tryd.prog.bytesOf 3 = 8 := by kernel_rfl
section
variable {H : Type} {enc : TypeId × Value → H} {w : World} {base : Nat} {spare : Nat → Bool} {held : Bool} {fuel : Nat}
theorem open_intsR {A : Option Addr} {n c : Nat} {x : DataW H × List MemPlace} (h : DataW.trod enc Tryd.prog w base spare held fuel 24 [.slice A n c] = some x) :
    ∃ zs : List Int, (∀ (ts : List TypeId) (ds : List (DataW H)) (j : Nat), (DataW.weightsEach Tryd.prog ts ds).all (· ≤ reachBytes) = true → ts[j]? = some 24 → ds[j]? = some x.1 → IntsR w A n c zs) := by
  rcases open_ints Tryd.underlying24 Tryd.underlying3 cellsInt h with ⟨hcs, _⟩ | ⟨a, l, cp, zs, hcs, _, hl, hm, hz, hx, hcell, _⟩
  · simp at hcs
    obtain ⟨rfl, rfl, rfl⟩ := hcs
    exact ⟨[], fun _ _ _ _ _ _ => ⟨rfl, fun _ => ⟨rfl, rfl⟩, by omega, fun h0 => absurd rfl h0⟩⟩
  · simp at hcs
    obtain ⟨rfl, rfl, rfl⟩ := hcs
    have hzl : n ≤ zs.length := by rw [hz]; split <;> omega
    refine ⟨zs.take n, fun ts ds j hsz ht hd => ?_⟩
    have hb : n ≤ 17592186044416 := by
      have := sized_slice hsz ht (by rw [hd, hx]) Tryd.underlying24
      rw [bytesInt] at this
      simp only [lits, List.length_map, List.length_take, List.length_drop] at this
      have h2 : reachBytes < 2 ^ 47 := reachBytes_lt
      omega
    refine ⟨by simp; omega, (fun e => by cases e), hb, fun hne => ?_⟩
    have hpos : 0 < n := by
      rcases Nat.eq_zero_or_pos n with h0 | h0
      · subst h0; simp [icells] at hne
      · exact h0
    obtain ⟨b, off, spot⟩ := a
    have hc0 := hcell 0 (by omega)
    have hspot : spot = none := by simpa [Addr.add] using World.cell?_spot hc0
    subst hspot
    refine ⟨b, off, rfl, by simpa [Addr.add] using cell_lt hc0, fun j u hu => ?_⟩
    have hj : j < (zs.take n).length := by
      have := (List.getElem?_eq_some_iff.1 hu).1
      simpa [icells] using this
    have hjz : j < zs.length := by simp at hj; omega
    have := hcell j hjz
    rw [addr_add] at this
    rw [this, ← hu]
    simp only [icells, List.getElem?_map, List.getElem?_eq_getElem hj, List.getElem_take, Option.map_some, List.getD, List.getElem?_eq_getElem hjz, Option.getD_some]
end
end Go.Proofs.YtmbegmhgiekofaaDoor
