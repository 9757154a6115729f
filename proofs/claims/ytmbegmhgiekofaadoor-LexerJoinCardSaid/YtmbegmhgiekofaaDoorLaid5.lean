/- What the rows' lists with the two errors give, and a world that meets them. No condition. -/
import Derived.Test.YtmbegmhgiekofaaDoorLaid
import Derived.Test.YtmbegmhgiekofaaDoorPd
import Derived.LaidMore
import Derived.LaidOnce
namespace Go.Proofs.YtmbegmhgiekofaaDoor
open Go.ChangeShapes Go.WideShapes Go.ChangeAt Go.RowKit

def laid5 : List (String × DataW Unit) := laid3 ++ [("strconv.ErrRange", Rows.laid_strconv_ErrRange), ("strconv.ErrSyntax", Rows.laid_strconv_ErrSyntax)]
theorem g_of_laid5 {W : World} (h : laidMetH Tryd.prog laid5 W) : G W := pow_of rfl h
set_option maxRecDepth 100000 in
theorem trod_err {H : Type} {enc : TypeId × Value → H} {W : World} {base : Nat} {sp : Nat → Bool} {held : Bool} {fuel : Nat} {cs : List Value} {x : DataW H × List MemPlace} (h : DataW.trod enc Tryd.prog W base sp held fuel 72 cs = some x) : ∃ ev, cs = [ev] ∧ (ev = .nilIface ∨ ∃ te pe, ev = .iface te pe) := by
  have hu := Tryd.underlying72
  cases fuel with
  | zero => simp [DataW.trod] at h
  | succ n =>
    unfold DataW.trod at h
    rw [hu] at h
    split at h <;> simp_all
theorem e_of_laid5 {W : World} (h : laidMetH Tryd.prog laid5 W) : GE W := by
  have h2 := laidMetH.filter (fun x => x.1 == "strconv.ErrRange") h
  have h3 : laidMet Tryd.prog [("strconv.ErrRange", Rows.laid_strconv_ErrRange)] W := by
    have e : laid5.filter (fun x => x.1 == "strconv.ErrRange") = [("strconv.ErrRange", Rows.laid_strconv_ErrRange)] := rfl
    rw [e] at h2
    exact (laidMetH_iff.1 h2).1
  obtain ⟨ps, ⟨g1, t1, cs1, f1, p1, q1, hg1, ht1, hv1, hd1, _, _⟩, _, _⟩ := h3
  obtain rfl := Option.some.inj ((show Tryd.prog.globalNamed "strconv.ErrRange" = some 5 by kernel_rfl).symm.trans hg1)
  obtain rfl := Option.some.inj ((show (Tryd.prog.globals[5]?).map (·.type) = some 72 by kernel_rfl).symm.trans ht1)
  obtain ⟨ev, hcs, hev⟩ := trod_err hd1
  have hc := World.var?_cell hg1 hv1 0
  rw [Array.eq_one_of_toList hcs] at hc
  have hc' : W.cell? ⟨5, 0, none⟩ = some ev := by simpa using hc
  refine ⟨?_, ev, hc', hev⟩
  rcases Nat.lt_or_ge 5 W.heap.size with hl | hl
  · exact hl
  · simp [World.cell?, Array.getElem?_eq_none hl] at hc'
noncomputable def doorWorld (os : Os) : World := World.doorLaid Tryd.prog 3000 os
end Go.Proofs.YtmbegmhgiekofaaDoor
