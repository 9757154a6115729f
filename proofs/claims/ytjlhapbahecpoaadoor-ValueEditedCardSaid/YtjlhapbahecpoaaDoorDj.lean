/- The walk of the law ValueDecode, where the table of powers of ten is as it is laid. -/
import Derived.Test.YtjlhapbahecpoaaDoorDh
import Derived.Test.YtjlhapbahecpoaaDoorDe
import Derived.Test.YtjlhapbahecpoaaDoorDi
import Derived.Test.YtjlhapbahecpoaaDoorVn
namespace Go.Proofs.YtjlhapbahecpoaaDoor
open Go.RowKit

theorem below_tape {w W w' : World} {b : Nat} (h : Below w.heap.size w W) (hg : W.grownBy w' (some b)) (hb : w.heap.size ≤ b) (hz : w.heap.size ≤ W.heap.size) : Below w.heap.size w w' :=
  h.grown hg hz (fun k hk => by injection hk with hk; omega)
def LRel (w : World) (L : Nat) (cs : Array Value) (i : Value) (wr : World) : Prop := ∃ k : Nat, k ≤ 3 ∧ i = .int .i64 k ∧ Below w.heap.size w wr ∧ wr.heap[L]? = some (.cells cs 9 (0, 0))
set_option maxRecDepth 100000 in
set_option maxHeartbeats 2000000 in
theorem valueDecode_w (A : Option Addr) (n c : Nat) (zs : List Int) (s : ByteArray) (w : World) (h : IntsR w A n c zs) (hG : G w) :
    Calls Tryd.prog 10 #[.slice A n c, .string s] w fun e w' => e = .returned (.bool true) ∧ Below w.heap.size w w' := by
  by_cases h300 : 300 < s.size
  · have h301 : (300 : Int) < (s.size : Int) := by omega
    go_enter Tryd.func10, Tryd.ntmps10
    go_wp2_with fail
    refine (new_c A n c zs _ h).mono ?_
    rintro e w1 ⟨b, g, rfl, tp1, hb, hg, bel1⟩
    go_wp2_with fail
    refine (trow b g 3 _ (by omega) tp1).mono ?_
    rintro e w2 ⟨o1, xs, rfl, own1, ok1, l1, tp2, g2⟩
    have bel2 := below_tape bel1 g2 hb bel1.size
    obtain ⟨A1, c1, rfl, _, _⟩ := own_slice own1
    have row1 : Row w2 w2.heap.size A1 xs.length xs := RowOf.of_own own1 rfl
    have HX := Lib.hid (encRow_len xs)
    clear own1 ok1
    go_wp2_with fail
    refine (rencodeRow A1 _ _ xs _ (by omega) row1).mono ?_
    rintro e w3 ⟨rfl, hb3⟩
    have hs1 : (⟨(encRow xs).toArray⟩ : ByteArray).size ≤ 1000 := by
      have := HX.out
      rw [Lib.size_eq]
      simp only
      omega
    generalize (⟨(encRow xs).toArray⟩ : ByteArray) = s1 at hs1 ⊢
    have tp3 : Tp w3 b g := tp2.step hb3
    have bel3 : Below w.heap.size w w3 := below_step hb3 bel2 (Nat.le_refl _)
    clear row1 HX
    go_wp2_with fail
    refine (tedit b g s1 _ (by omega) tp3).mono ?_
    rintro e w4 ⟨s2, rfl, hs2, tp4, g4⟩
    have bel4 := below_tape bel3 g4 hb bel3.size
    go_wp2_with fail
    refine (trow b g 4 _ (by omega) tp4).mono ?_
    rintro e w5 ⟨o2, ys, rfl, own2, ok2, l2, tp5, g5⟩
    have bel5 := below_tape bel4 g5 hb bel4.size
    obtain ⟨A2, c2, rfl, _, _⟩ := own_slice own2
    have row2 : Row w5 w5.heap.size A2 ys.length ys := RowOf.of_own own2 rfl
    have HY := Lib.hid (encRow_len ys)
    clear own2 ok2
    go_wp2_with fail
    refine (rencodeRow A2 _ _ ys _ (by omega) row2).mono ?_
    rintro e w6 ⟨rfl, hb6⟩
    have hs3 : (⟨(encRow ys).toArray⟩ : ByteArray).size ≤ 1000 := by
      have := HY.out
      rw [Lib.size_eq]
      simp only
      omega
    generalize (⟨(encRow ys).toArray⟩ : ByteArray) = s3 at hs3 ⊢
    have bel6 : Below w.heap.size w w6 := below_step hb6 bel5 (Nat.le_refl _)
    clear row2 HY tp1 tp2 tp3 tp4 tp5 g2 g4 g5 bel1 bel2 bel3 bel4 bel5 h
    have hz6 := bel6.size
    go_wp2_with fail
    go_loopw [7] (fun i wr => LRel w w6.heap.size #[.string ⟨#[]⟩, .string s2, .string s3] i wr) (fun i _ => 3 - (intOf i).toNat)
    case atStart => exact ⟨0, by omega, rfl, bel6.alloc (by omega) _, heap_alloc_new _ _⟩
    case round =>
      obtain ⟨k, hk, rfl, hbel, hblk⟩ := hrel
      have hzz := hbel.size
      have hlz : w6.heap.size < wr.heap.size := by
        rcases Nat.lt_or_ge w6.heap.size wr.heap.size with h | h
        · exact h
        · rw [Array.getElem?_eq_none h] at hblk; cases hblk
      by_cases hlt : k < 3
      · obtain ⟨st, hst, hcell⟩ : ∃ st : ByteArray, st.size ≤ 100000 ∧ wr.cell? ⟨w6.heap.size, k, none⟩ = some (.string st) := by
          obtain ⟨c0, _⟩ := blk_rules hblk
          rcases (show k = 0 ∨ k = 1 ∨ k = 2 by omega) with rfl | rfl | rfl
          · exact ⟨⟨#[]⟩, by decide, c0 0⟩
          · exact ⟨s2, by omega, c0 1⟩
          · exact ⟨s3, by omega, c0 2⟩
        have HB := Lib.hid hblk
        clear hblk
        have hk0 : (0 : Int) ≤ (k : Int) := by omega
        have hk3 : (k : Int) < 3 := by omega
        have hD := vdecodeRow st
        have hE := rdecodeRow st
        generalize decRow st.data.toList [] = X at hD hE
        obtain ⟨vs, ec⟩ := X
        have HS := Lib.hid ((sameB_iff vs vs).2 rfl)
        have hne : (ec != ec) = false := by simp
        go_wp2_with fail
        refine (hD _ hst).mono ?_
        rintro e v1 ⟨p1, rfl, own1, hb1⟩
        obtain ⟨A1, c1, rfl, hc1', hc1''⟩ := own_slice own1
        have row1 : Row v1 v1.heap.size A1 vs.length vs := own1.row
        have cell1 := (hb1.cell (p := ⟨w6.heap.size, k, none⟩) hlz).trans hcell
        have hz1 := hb1.size
        clear own1
        go_wp2_with fail
        refine (hE _ hst).mono ?_
        rintro e v2 ⟨p2, rfl, own2, hb2⟩
        obtain ⟨A2, c2, rfl, hc2', hc2''⟩ := own_slice own2
        have row2 : Row v2 v2.heap.size A2 vs.length vs := own2.row
        have row1' : Row v2 v2.heap.size A1 vs.length vs := (row1.below hb2).more hb2.size
        have hz2 := hb2.size
        clear own2 row1
        go_wp2_with (go_at_call 30; refine (same_c A1 A2 _ _ _ _ vs vs _ (by omega) (by omega) row1' row2).mono ?_; rintro e v3 ⟨rfl, hb3⟩; rw [HS.out]; have hz3 := hb3.size)
        have hbl := (hb3.block w6.heap.size (by omega)).trans ((hb2.block w6.heap.size (by omega)).trans ((hb1.block w6.heap.size hlz).trans HB.out))
        exact ⟨⟨k + 1, by omega, by go_num, by (repeat (first | (with_reducible exact Below.refl _ _) | (with_reducible assumption) | (with_reducible refine Below.drew ?_) | (with_reducible refine below_drewN ?_ _) | ((with_reducible refine Below.setCell ?_ ?_ _); rotate_left; (focus (first | (simp; done) | (simp; omega) | omega))) | ((with_reducible refine Below.alloc ?_ ?_ _); rotate_left; (focus (first | (simp; done) | (simp; omega) | omega))) | ((with_reducible apply below_step1); (focus (with_reducible assumption))))), hbl⟩, by simp [intOf]; omega⟩
      · have hk3 : ¬ (k : Int) < 3 := by omega
        go_wp2_with (go_at_call 14; refine (awake_c _ (by exact hG.below hbel)).mono ?_; rintro e w9 ⟨rfl, hb9⟩)
        go_ret
        exact ⟨rfl, by (repeat (first | (with_reducible exact Below.refl _ _) | (with_reducible assumption) | (with_reducible refine Below.drew ?_) | (with_reducible refine below_drewN ?_ _) | ((with_reducible refine Below.setCell ?_ ?_ _); rotate_left; (focus (first | (simp; done) | (simp; omega) | omega))) | ((with_reducible refine Below.alloc ?_ ?_ _); rotate_left; (focus (first | (simp; done) | (simp; omega) | omega))) | ((with_reducible apply below_step1); (focus (with_reducible assumption)))))⟩
  · have h301 : ¬ (300 : Int) < (s.size : Int) := by omega
    go_enter Tryd.func10, Tryd.ntmps10
    go_wp2_with fail
    refine (new_c A n c zs _ h).mono ?_
    rintro e w1 ⟨b, g, rfl, tp1, hb, hg, bel1⟩
    go_wp2_with fail
    refine (trow b g 3 _ (by omega) tp1).mono ?_
    rintro e w2 ⟨o1, xs, rfl, own1, ok1, l1, tp2, g2⟩
    have bel2 := below_tape bel1 g2 hb bel1.size
    obtain ⟨A1, c1, rfl, _, _⟩ := own_slice own1
    have row1 : Row w2 w2.heap.size A1 xs.length xs := RowOf.of_own own1 rfl
    have HX := Lib.hid (encRow_len xs)
    clear own1 ok1
    go_wp2_with fail
    refine (rencodeRow A1 _ _ xs _ (by omega) row1).mono ?_
    rintro e w3 ⟨rfl, hb3⟩
    have hs1 : (⟨(encRow xs).toArray⟩ : ByteArray).size ≤ 1000 := by
      have := HX.out
      rw [Lib.size_eq]
      simp only
      omega
    generalize (⟨(encRow xs).toArray⟩ : ByteArray) = s1 at hs1 ⊢
    have tp3 : Tp w3 b g := tp2.step hb3
    have bel3 : Below w.heap.size w w3 := below_step hb3 bel2 (Nat.le_refl _)
    clear row1 HX
    go_wp2_with fail
    refine (tedit b g s1 _ (by omega) tp3).mono ?_
    rintro e w4 ⟨s2, rfl, hs2, tp4, g4⟩
    have bel4 := below_tape bel3 g4 hb bel3.size
    go_wp2_with fail
    refine (trow b g 4 _ (by omega) tp4).mono ?_
    rintro e w5 ⟨o2, ys, rfl, own2, ok2, l2, tp5, g5⟩
    have bel5 := below_tape bel4 g5 hb bel4.size
    obtain ⟨A2, c2, rfl, _, _⟩ := own_slice own2
    have row2 : Row w5 w5.heap.size A2 ys.length ys := RowOf.of_own own2 rfl
    have HY := Lib.hid (encRow_len ys)
    clear own2 ok2
    go_wp2_with fail
    refine (rencodeRow A2 _ _ ys _ (by omega) row2).mono ?_
    rintro e w6 ⟨rfl, hb6⟩
    have hs3 : (⟨(encRow ys).toArray⟩ : ByteArray).size ≤ 1000 := by
      have := HY.out
      rw [Lib.size_eq]
      simp only
      omega
    generalize (⟨(encRow ys).toArray⟩ : ByteArray) = s3 at hs3 ⊢
    have bel6 : Below w.heap.size w w6 := below_step hb6 bel5 (Nat.le_refl _)
    clear row2 HY tp1 tp2 tp3 tp4 tp5 g2 g4 g5 bel1 bel2 bel3 bel4 bel5 h
    have hz6 := bel6.size
    go_wp2_with fail
    go_loopw [7] (fun i wr => LRel w w6.heap.size #[.string s, .string s2, .string s3] i wr) (fun i _ => 3 - (intOf i).toNat)
    case atStart => exact ⟨0, by omega, rfl, bel6.alloc (by omega) _, heap_alloc_new _ _⟩
    case round =>
      obtain ⟨k, hk, rfl, hbel, hblk⟩ := hrel
      have hzz := hbel.size
      have hlz : w6.heap.size < wr.heap.size := by
        rcases Nat.lt_or_ge w6.heap.size wr.heap.size with h | h
        · exact h
        · rw [Array.getElem?_eq_none h] at hblk; cases hblk
      by_cases hlt : k < 3
      · obtain ⟨st, hst, hcell⟩ : ∃ st : ByteArray, st.size ≤ 100000 ∧ wr.cell? ⟨w6.heap.size, k, none⟩ = some (.string st) := by
          obtain ⟨c0, _⟩ := blk_rules hblk
          rcases (show k = 0 ∨ k = 1 ∨ k = 2 by omega) with rfl | rfl | rfl
          · exact ⟨s, by omega, c0 0⟩
          · exact ⟨s2, by omega, c0 1⟩
          · exact ⟨s3, by omega, c0 2⟩
        have HB := Lib.hid hblk
        clear hblk
        have hk0 : (0 : Int) ≤ (k : Int) := by omega
        have hk3 : (k : Int) < 3 := by omega
        have hD := vdecodeRow st
        have hE := rdecodeRow st
        generalize decRow st.data.toList [] = X at hD hE
        obtain ⟨vs, ec⟩ := X
        have HS := Lib.hid ((sameB_iff vs vs).2 rfl)
        have hne : (ec != ec) = false := by simp
        go_wp2_with fail
        refine (hD _ hst).mono ?_
        rintro e v1 ⟨p1, rfl, own1, hb1⟩
        obtain ⟨A1, c1, rfl, hc1', hc1''⟩ := own_slice own1
        have row1 : Row v1 v1.heap.size A1 vs.length vs := own1.row
        have cell1 := (hb1.cell (p := ⟨w6.heap.size, k, none⟩) hlz).trans hcell
        have hz1 := hb1.size
        clear own1
        go_wp2_with fail
        refine (hE _ hst).mono ?_
        rintro e v2 ⟨p2, rfl, own2, hb2⟩
        obtain ⟨A2, c2, rfl, hc2', hc2''⟩ := own_slice own2
        have row2 : Row v2 v2.heap.size A2 vs.length vs := own2.row
        have row1' : Row v2 v2.heap.size A1 vs.length vs := (row1.below hb2).more hb2.size
        have hz2 := hb2.size
        clear own2 row1
        go_wp2_with (go_at_call 30; refine (same_c A1 A2 _ _ _ _ vs vs _ (by omega) (by omega) row1' row2).mono ?_; rintro e v3 ⟨rfl, hb3⟩; rw [HS.out]; have hz3 := hb3.size)
        have hbl := (hb3.block w6.heap.size (by omega)).trans ((hb2.block w6.heap.size (by omega)).trans ((hb1.block w6.heap.size hlz).trans HB.out))
        exact ⟨⟨k + 1, by omega, by go_num, by (repeat (first | (with_reducible exact Below.refl _ _) | (with_reducible assumption) | (with_reducible refine Below.drew ?_) | (with_reducible refine below_drewN ?_ _) | ((with_reducible refine Below.setCell ?_ ?_ _); rotate_left; (focus (first | (simp; done) | (simp; omega) | omega))) | ((with_reducible refine Below.alloc ?_ ?_ _); rotate_left; (focus (first | (simp; done) | (simp; omega) | omega))) | ((with_reducible apply below_step1); (focus (with_reducible assumption))))), hbl⟩, by simp [intOf]; omega⟩
      · have hk3 : ¬ (k : Int) < 3 := by omega
        go_wp2_with (go_at_call 14; refine (awake_c _ (by exact hG.below hbel)).mono ?_; rintro e w9 ⟨rfl, hb9⟩)
        go_ret
        exact ⟨rfl, by (repeat (first | (with_reducible exact Below.refl _ _) | (with_reducible assumption) | (with_reducible refine Below.drew ?_) | (with_reducible refine below_drewN ?_ _) | ((with_reducible refine Below.setCell ?_ ?_ _); rotate_left; (focus (first | (simp; done) | (simp; omega) | omega))) | ((with_reducible refine Below.alloc ?_ ?_ _); rotate_left; (focus (first | (simp; done) | (simp; omega) | omega))) | ((with_reducible apply below_step1); (focus (with_reducible assumption)))))⟩
end Go.Proofs.YtjlhapbahecpoaaDoor
