/- Small lemmas: a row of bytes turned to a string, what is left of a string, bytes that differ. No condition. -/
import Derived.Test.YtmbegmhgiekofaaDoorBytes
namespace Go.Proofs.YtmbegmhgiekofaaDoor
open Go.RowKit

theorem OwnB.str {w : World} {base : Nat} {o : Value} {l : List UInt8} (h : OwnB w base o l) : (convert 31 9 o).run Tryd.prog w = .ok (.string ⟨l.toArray⟩) w := run_toStr h

theorem drop_size (s : ByteArray) (n : Nat) : (s.extract n s.size).data.toList = s.data.toList.drop n := by
  rw [Lib.extract_data, List.take_of_length_le]
  rw [List.length_drop, ← Lib.size_eq]
  omega

theorem byte_ne {c : UInt8} {n : Nat} (h : (c.toNat : Int) ≠ n) (hn : n < 256) : c ≠ UInt8.ofNat n := by
  intro e; subst e; rw [UInt8.toNat_ofNat', Nat.mod_eq_of_lt (by omega)] at h; exact h rfl

end Go.Proofs.YtmbegmhgiekofaaDoor
