/- Contracts of the tape's New and Row. The tape has fewer than 2^44 numbers, rows fewer than a thousand values. -/
import Derived.Test.YtmbegmhgiekofaaDoorTb
import Derived.Test.YtmbegmhgiekofaaDoorAppAny
namespace Go.Proofs.YtmbegmhgiekofaaDoor
open Go.RowKit

theorem stI : SliceTy Tryd.prog 24 3 1 8 := SliceTy.mk' Tryd.underlying24 (z := .int .i64 0) (by kernel_rfl) rfl (by decide) (by decide)
def icells (l : List Int) : List Value := l.map fun n => .int .i64 n
theorem icells_one (l : List Int) : ∀ u ∈ icells l, u.oneCell' = true := by
  intro u hu
  obtain ⟨c, _, rfl⟩ := List.mem_map.1 hu
  rfl
/-- A slice of ints that came in. -/
structure IntsR (w : World) (A : Option Addr) (n c : Nat) (zs : List Int) : Prop where
  len : zs.length = n
  none_ : A = none → n = 0 ∧ c = 0
  size : n ≤ 17592186044416
  rd : Rd w w.heap.size A (icells zs)

def NewPost (w : World) (e : Ending) (w' : World) : Prop := ∃ b g, e = .returned (.pointer (some ⟨b, 0, none⟩)) ∧ Tp w' b g ∧ w.heap.size ≤ b ∧ w.heap.size ≤ g ∧ Below w.heap.size w w'
set_option maxRecDepth 100000 in
set_option maxHeartbeats 1000000 in
theorem new_c (A : Option Addr) (n c : Nat) (zs : List Int) (w : World) (h : IntsR w A n c zs) :
    Calls Tryd.prog 12 #[.slice A n c] w (NewPost w) := by
  obtain ⟨h1, h2, h3, h4⟩ := h
  have H2 := Lib.hid (fun e => (h2 e).2)
  clear h2
  go_enter Tryd.func12, Tryd.ntmps12
  go_wp2_with (at_builtin; refine wpList_appAny (v := .slice (some ⟨w.heap.size, 0, none⟩) 0 0) rfl _ _ stI rfl rfl (own_new w #[] 3 1 0 (by decide) rfl) rfl (news := icells zs) (by simp [icells, h1]) (h4.keep fun p hp => World.cell?_alloc_lt w _ p hp) H2.out (icells_one _) (by omega) (by simp) ?_; intro v2 w2 own2 hg2 hat2; obtain ⟨A2, c2, hv2, _, _⟩ := own_slice own2; rw [hv2] at own2 ⊢)
  go_ret
  have hz2 := hg2.size
  simp at hz2
  have hb : Below w.heap.size w w2 := ⟨hg2.os, hg2.tape, hg2.output, by omega, fun k hk => (hg2.block k (by simp; omega) (by simp [Value.ownBlock]; omega)).trans (Below.heap_alloc w _ k hk)⟩
  have tp : ∃ g, w.heap.size ≤ g ∧ Tp (w2.alloc (.cells #[.slice A2 (0 + n) c2, .int .i64 0] 45)) w2.heap.size g := by
    rcases own2.2 with ⟨e1, e2⟩ | ⟨g, cap, cur, e1, e2, e3, _⟩
    · refine ⟨w.heap.size, Nat.le_refl _, by omega, by simp, by simp; omega, A2, 0 + n, c2, 0, 0, heap_alloc_new _ _, by omega, by omega, fun h0 => absurd e2 (by omega)⟩
    · injection e1 with e1 _ _
      subst e1
      have hgl : g < w2.heap.size := by
        rcases Nat.lt_or_ge g w2.heap.size with hl | hl
        · exact hl
        · rw [Array.getElem?_eq_none hl] at e3; cases e3
      refine ⟨g, e2, by omega, by simp, by simp; omega, _, 0 + n, c2, 0, 0, heap_alloc_new _ _, by omega, by omega, fun h0 => ⟨rfl, fun j hj => ?_⟩⟩
      have hjl : j < zs.length := by omega
      have hc := own2.cells (g := g) (by simp [Value.ownBlock]) j (.int .i64 zs[j]) (by simp [icells, hjl])
      rw [addr_add0] at hc
      exact ⟨zs[j], (World.cell?_alloc_lt w2 _ ⟨g, 0 + j, none⟩ hgl).trans hc⟩
  obtain ⟨g, hg, tp⟩ := tp
  rw [Nat.zero_add] at tp
  exact ⟨w2.heap.size, g, rfl, tp, by omega, hg, hb.alloc (by omega) _⟩

end Go.Proofs.YtmbegmhgiekofaaDoor
