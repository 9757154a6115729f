/- Contracts of the tape's Next: whatever the tape holds, a number from 0 to n - 1 comes back and only the tape's own block has changed. n is below 2^40, the tape has fewer than 2^44 numbers. -/
import Derived.Test.YtmbegmhgiekofaaDoorVa
import Derived.Test.YtmbegmhgiekofaaDoorGrow
namespace Go.Proofs.YtmbegmhgiekofaaDoor
open Go.RowKit

/-- A tape at block b: its numbers lie in block g, its place is within bounds. -/
structure Tp (w : World) (b g : Nat) : Prop where
  ne : b ≠ g
  lt : b < w.heap.size
  ltg : g < w.heap.size
  ex : ∃ (A : Option Addr) (n c a off : Nat), w.heap[b]? = some (.cells #[.slice A n c, .int .i64 (a : Int)] 45 (0, 0)) ∧ n ≤ 17592186044416 ∧ a ≤ 4 * n ∧ (0 < n → A = some ⟨g, off, none⟩ ∧ ∀ j, j < n → ∃ z : Int, w.cell? ⟨g, off + j, none⟩ = some (.int .i64 z))
theorem Tp.grown {w w' : World} {b g : Nat} {row : Option Nat} (h : Tp w b g) (hg : w.grownBy w' row) (h1 : row ≠ some b) (h2 : row ≠ some g) : Tp w' b g := by
  obtain ⟨hne, hlt, hltg, A, n, c, a, off, e1, e2, e3, e4⟩ := h
  refine ⟨hne, Nat.lt_of_lt_of_le hlt hg.size, Nat.lt_of_lt_of_le hltg hg.size, A, n, c, a, off, (hg.block b hlt (Ne.symm h1)).trans e1, e2, e3, fun hn => ⟨(e4 hn).1, fun j hj => ?_⟩⟩
  obtain ⟨z, hz⟩ := (e4 hn).2 j hj
  exact ⟨z, (World.cell?_of_block (hg.block g hltg (Ne.symm h2))).trans hz⟩
theorem Tp.below {w w' : World} {b g B : Nat} (h : Tp w b g) (hb : Below B w w') (h1 : b < B) (h2 : g < B) : Tp w' b g := by
  obtain ⟨hne, hlt, hltg, A, n, c, a, off, e1, e2, e3, e4⟩ := h
  refine ⟨hne, Nat.lt_of_lt_of_le hlt hb.size, Nat.lt_of_lt_of_le hltg hb.size, A, n, c, a, off, (hb.block b h1).trans e1, e2, e3, fun hn => ⟨(e4 hn).1, fun j hj => ?_⟩⟩
  obtain ⟨z, hz⟩ := (e4 hn).2 j hj
  exact ⟨z, (World.cell?_of_block (hb.block g h2)).trans hz⟩
theorem Tp.alloc {w : World} {b g : Nat} (h : Tp w b g) (o : Obj) : Tp (w.alloc o) b g :=
  h.below ((Below.refl w.heap.size w).alloc (Nat.le_refl _) o) h.lt h.ltg

theorem blk_rules {w : World} {b : Nat} {cs : Array Value} {t : TypeId} (h : w.heap[b]? = some (.cells cs t (0, 0))) : (∀ i, w.cell? ⟨b, i, none⟩ = cs[i]?) ∧ (∀ i, w.frozen? ⟨b, i, none⟩ = false) :=
  ⟨fun i => cell_of_row w b i cs t (0, 0) h, fun i => by simp [World.frozen?, h]⟩

/-- What Next leaves. -/
def NextPost (w : World) (b g : Nat) (n : Int) (e : Ending) (w' : World) : Prop :=
  ∃ r : Nat, e = .returned (.int .i64 (r : Int)) ∧ (r : Int) < max n 1 ∧ Tp w' b g ∧ w.grownBy w' (some b) ∧ w'.heap.size = w.heap.size
theorem grown_refl (w : World) (r : Option Nat) : w.grownBy w r := ⟨rfl, rfl, rfl, Nat.le_refl _, fun _ _ _ => rfl⟩
theorem grown_drewN (w : World) (r : Option Nat) (k : Nat) : w.grownBy (w.drewN k) r := ⟨rfl, rfl, rfl, Nat.le_refl _, fun _ _ _ => rfl⟩
theorem Tp.drewN {w : World} {b g : Nat} (h : Tp w b g) (k : Nat) : Tp (w.drewN k) b g := ⟨h.ne, h.lt, h.ltg, h.ex⟩

theorem next_num (X n : Int) (h2 : 2 ≤ n) (hn : n ≤ 1099511627776) : ∃ r : Nat, (wrap64 (X.tmod n + n)).tmod n = (r : Int) ∧ (r : Int) < n := by
  have h3 := Int.tmod_lt_of_pos X (show 0 < n by omega)
  have h4 := Int.lt_tmod_of_pos X (show 0 < n by omega)
  rw [IntWalk.wrap64_in _ ⟨by omega, by omega⟩, Int.tmod_eq_emod_of_nonneg (by omega)]
  have h5 := Int.emod_nonneg (X.tmod n + n) (show n ≠ 0 by omega)
  have h6 := Int.emod_lt_of_pos (X.tmod n + n) (show 0 < n by omega)
  obtain ⟨r, hr⟩ := Int.eq_ofNat_of_zero_le h5
  exact ⟨r, hr, by omega⟩
theorem next_end {w : World} {b g l c a off : Nat} {A : Option Addr} (hne : b ≠ g) (hlt : b < w.heap.size) (hltg : g < w.heap.size) (e1 : w.heap[b]? = some (.cells #[.slice A l c, .int .i64 (a : Int)] 45 (0, 0))) (e2 : l ≤ 17592186044416) (ha : a + 1 ≤ 4 * l)
    (e4 : 0 < l → A = some ⟨g, off, none⟩ ∧ ∀ j, j < l → ∃ z : Int, w.cell? ⟨g, off + j, none⟩ = some (.int .i64 z)) (k : Nat) (n X : Int) (h2 : 2 ≤ n) (hn : n ≤ 1099511627776) :
    NextPost w b g n (.returned (.int .i64 ((wrap64 (X.tmod n + n)).tmod n))) ((w.drewN k).setCell ⟨b, 1, none⟩ (.int .i64 ((a : Int) + 1))) := by
  obtain ⟨r, hr, hr2⟩ := next_num X n h2 hn
  have hz : ((w.drewN k).setCell ⟨b, 1, none⟩ (.int .i64 ((a : Int) + 1))).heap.size = w.heap.size := by simp [World.setCell]
  refine ⟨r, by rw [hr], by omega, ⟨hne, by rw [hz]; exact hlt, by rw [hz]; exact hltg, A, l, c, a + 1, off, ?_, e2, ha, fun hl => ⟨(e4 hl).1, fun j hj => ?_⟩⟩, ⟨rfl, rfl, rfl, by rw [hz]; exact Nat.le_refl _, fun i hi hni => ?_⟩, hz⟩
  · have e1' : (w.drewN k).heap[b]? = some (.cells #[.slice A l c, .int .i64 (a : Int)] 45 (0, 0)) := e1
    simp only [World.setCell, Array.getElem?_modify, e1']
    simp
  · obtain ⟨z, hz⟩ := (e4 hl).2 j hj
    exact ⟨z, (World.cell?_setCell_other (w.drewN k) ⟨b, 1, none⟩ ⟨g, off + j, none⟩ _ (fun e => hne (congrArg Addr.block e))).trans hz⟩
  · exact Below.heap_setCell (w.drewN k) ⟨b, 1, none⟩ _ i (fun e => hni (by rw [e]))

set_option maxRecDepth 100000 in
set_option maxHeartbeats 1000000 in
theorem next_c (b g : Nat) (n : Int) (w : World) (hn : n ≤ 1099511627776) (h : Tp w b g) : Calls Tryd.prog 23 #[.pointer (some ⟨b, 0, none⟩), .int .i64 n] w (NextPost w b g n) := by
  have HT := Lib.hid h
  obtain ⟨hne, hlt, hltg, A, l, c, a, off, e1, e2, e3, e4⟩ := h
  obtain ⟨hc, hf⟩ := blk_rules e1
  have c0 : w.cell? ⟨b, 0, none⟩ = some (.slice A l c) := hc 0
  have c1 : w.cell? ⟨b, 1, none⟩ = some (.int .i64 (a : Int)) := hc 1
  have f1 := hf 1
  clear hc hf
  have E1 := Lib.hid e1
  have E4 := Lib.hid e4
  clear e1 e4
  by_cases h2 : n < 2
  · have t0 : decide (n < 2) = true := by simpa using h2
    go_enter Tryd.func23, Tryd.ntmps23
    go_wp2_with fail
    go_quiet (fail)
    go_wp2
    go_ret
    exact ⟨0, rfl, by omega, HT.out.drewN _, grown_drewN _ _ _, rfl⟩
  · have t0 : decide (n < 2) = false := by simpa using h2
    by_cases hl : l = 0
    · have t1 : ((l : Int) == 0) = true := by simpa using hl
      clear hl
      go_enter Tryd.func23, Tryd.ntmps23
      go_wp2_with fail
      go_quiet (fail)
      go_wp2
      go_ret
      exact ⟨0, rfl, by omega, HT.out.drewN _, grown_drewN _ _ _, rfl⟩
    · have t1 : ((l : Int) == 0) = false := by simpa using hl
      have e0 : IntKind.i64.wrap (4 * (l : Int)) = 4 * (l : Int) := IntWalk.i64_in _ (by omega)
      by_cases ha : 4 * l ≤ a
      · have t2 : 4 * (l : Int) ≤ (a : Int) := by omega
        have t3 : decide (4 * (l : Int) ≤ (a : Int)) = true := by simpa using t2
        go_enter Tryd.func23, Tryd.ntmps23
        go_wp2_with fail
        go_quiet (fail)
        go_wp2
        go_ret
        exact ⟨0, rfl, by omega, HT.out.drewN _, grown_drewN _ _ _, rfl⟩
      · have t2 : ¬ 4 * (l : Int) ≤ (a : Int) := by omega
        have t3 : decide (4 * (l : Int) ≤ (a : Int)) = false := by simpa using t2
        have hl1 : 1 ≤ l := by omega
        obtain ⟨hA, hz⟩ := E4.out (by omega)
        obtain ⟨q, hq⟩ : ∃ q, a / l = q := ⟨_, rfl⟩
        obtain ⟨r, hr⟩ : ∃ r, a % l = r := ⟨_, rfl⟩
        have hq4 : q < 4 := by rw [← hq]; exact (Nat.div_lt_iff_lt_mul (by omega)).2 (by omega)
        have hrl : r < l := by rw [← hr]; exact Nat.mod_lt _ (by omega)
        obtain ⟨z, hz⟩ := hz r hrl
        obtain rfl := hA
        have m0 : (a : Int).tmod (l : Int) = (r : Int) := by rw [Int.tmod_eq_emod_of_nonneg (by omega), ← hr, Int.natCast_emod]
        have d0 : (a : Int).tdiv (l : Int) = (q : Int) := by rw [Int.tdiv_eq_ediv_of_nonneg (by omega), ← hq, Int.natCast_ediv]
        clear hq hr
        have b0 : (0 : Int) ≤ (r : Int) := by omega
        have b1 : (r : Int) < (l : Int) := by omega
        have w0 : IntKind.i64.wrap (r : Int) = (r : Int) := IntWalk.i64_in _ (by omega)
        have w1 : IntKind.i64.wrap (q : Int) = (q : Int) := IntWalk.i64_in _ (by omega)
        have w2 : (0 : Int) ≤ (q : Int) := by omega
        have z0 : ((l : Int) == 0) = false := t1
        go_enter Tryd.func23, Tryd.ntmps23
        go_wp2_with fail
        go_quiet (fail)
        go_wp2_with fail
        go_quiet (fail)
        go_wp2_with fail
        go_quiet (fail)
        obtain rfl | rfl | rfl | rfl : q = 0 ∨ q = 1 ∨ q = 2 ∨ q = 3 := by omega
        all_goals go_wp2_with fail
        all_goals go_ret
        all_goals exact next_end hne hlt hltg E1.out e2 (by omega) (fun h => ⟨rfl, (E4.out h).2⟩) _ n _ (by omega) hn
end Go.Proofs.YtmbegmhgiekofaaDoor
