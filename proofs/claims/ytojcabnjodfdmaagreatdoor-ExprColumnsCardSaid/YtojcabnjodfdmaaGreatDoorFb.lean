/- Contract of the program's Substitute. -/
import Derived.Test.YtojcabnjodfdmaaGreatDoorBc
import Derived.Test.YtojcabnjodfdmaaGreatDoorBd
import Derived.Test.YtojcabnjodfdmaaGreatDoorXSubst
import Derived.Test.YtojcabnjodfdmaaGreatDoorBa
namespace Go.Proofs.YtojcabnjodfdmaaGreatDoor
open Go.RowKit

/-- A slice of rows of terms. -/
structure Items (w : World) (I : Option Addr) (m : Nat) (items : List (List T)) : Prop where
  len : items.length = m
  at_ : ∀ (k : Nat) l, items[k]? = some l → ∃ ib ioff A c, I = some ⟨ib, ioff, none⟩ ∧ ib < w.heap.size ∧ w.cell? ⟨ib, ioff + k, none⟩ = some (.slice A l.length c) ∧ l.length ≤ c ∧ c ≤ maxLen ∧ (A = none → c = 0) ∧ RowT w w.heap.size A l.length l
theorem Items.to {w w' : World} {I : Option Addr} {m : Nat} {items : List (List T)} (h : Items w I m items) (hb : Below w.heap.size w w') : Items w' I m items := by
  refine ⟨h.len, fun k l hk => ?_⟩
  obtain ⟨ib, ioff, A, c, h1, h2, h3, h4, h5, h6, h7⟩ := h.at_ k l hk
  exact ⟨ib, ioff, A, c, h1, Nat.lt_of_lt_of_le h2 hb.size, (hb.cell (p := ⟨ib, ioff + k, none⟩) h2).trans h3, h4, h5, h6, h7.to hb⟩
theorem Items.nil_ {w : World} {I : Option Addr} : Items w I 0 [] := ⟨rfl, fun k l h => by simp at h⟩
def SubPost (w : World) (x : List T × Int) (e : Ending) (w' : World) : Prop :=
  ∃ (A : Option Addr) (c : Nat), e = .returned (.tuple #[.slice A x.1.length c, .int .i64 x.2]) ∧ w'.ownsRow w.heap.size 48 5 (.slice A x.1.length c) x.1.length (x.1.flatMap T.cells) ∧ Below w.heap.size w w'
end Go.Proofs.YtojcabnjodfdmaaGreatDoor
