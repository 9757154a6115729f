/- What a slice that came in has as its capacity. No condition. -/
import Derived.Test.YtojcabnjodfdmaaDoorOpen
namespace Go.Proofs.YtojcabnjodfdmaaDoor
open Go.RowKit Go.ChangeShapes Go.WideShapes Go.Deep
section
variable {H : Type} {enc : TypeId × Value → H} {w : World} {base : Nat} {spare : Nat → Bool} {held : Bool} {fuel : Nat}
theorem open_cap {t e : TypeId} (ht : Tryd.prog.underlying t = some (.slice e)) {A : Option Addr} {n c : Nat} {x : DataW H × List MemPlace} (h : DataW.trod enc Tryd.prog w base spare held fuel t [.slice A n c] = some x) : n ≤ c ∧ c ≤ maxLen ∧ (A = none → c = 0) := by
  rcases open_slice ht h with ⟨h0, _⟩ | ⟨a, len, cap, m, n', D, Pl, hcs, hb, hl, hm, hmm, _, hi⟩
  · simp at h0
    obtain ⟨rfl, rfl, rfl⟩ := h0
    exact ⟨Nat.le_refl _, Nat.zero_le _, fun _ => rfl⟩
  · simp at hcs
    obtain ⟨rfl, rfl, rfl⟩ := hcs
    exact ⟨hl, hm, fun h => by cases h⟩
end
end Go.Proofs.YtojcabnjodfdmaaDoor
