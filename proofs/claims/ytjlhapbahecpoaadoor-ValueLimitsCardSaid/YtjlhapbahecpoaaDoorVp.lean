/- The walk of the law ValueOrder, where the table of powers of ten is as it is laid. -/
import Derived.Test.YtjlhapbahecpoaaDoorVo
import Derived.Test.YtjlhapbahecpoaaDoorTc
import Derived.Test.YtjlhapbahecpoaaDoorOrdLaw
namespace Go.Proofs.YtjlhapbahecpoaaDoor
open Go.RowKit

theorem cmpRows_range : ∀ a b : List V, -1 ≤ cmpRows a b ∧ cmpRows a b ≤ 1 := by
  have hi : ∀ x y : Int, -1 ≤ Lib.compareInt x y ∧ Lib.compareInt x y ≤ 1 := by
    intro x y; unfold Lib.compareInt; split
    · omega
    · split <;> omega
  have hb : ∀ x y : List UInt8, -1 ≤ Lib.compareBytes x y ∧ Lib.compareBytes x y ≤ 1 := by
    intro x y
    rw [bytesLess_compare]
    split
    · omega
    · split <;> omega
  have hc : ∀ x y : V, -1 ≤ cmpV x y ∧ cmpV x y ≤ 1 := by
    intro x y
    unfold cmpV cmpC
    split
    · exact hi _ _
    · split
      · exact hi _ _
      · split
        · exact hb _ _
        · omega
  intro a
  induction a with
  | nil => intro b; cases b <;> simp [cmpRows]
  | cons x l ih =>
    intro b
    cases b with
    | nil => simp [cmpRows]
    | cons y m =>
      simp only [cmpRows]
      split
      · exact hc x y
      · exact ih m
theorem same_zero {a b : List V} (ha : ∀ v ∈ a, v.ok = true) (hb : ∀ v ∈ b, v.ok = true) : sameB a b = (cmpRows a b == 0) := by
  rw [Bool.eq_iff_iff, sameB_iff, beq_iff_eq]
  constructor
  · rintro rfl; exact rows_ord.refl a
  · exact rows_ord.zero a b ha hb
/-- A row of the call's own, in every later world. -/
theorem own_row {w : World} {base n c : Nat} {A : Option Addr} {vs : List V} (h : w.ownsRow base 23 3 (.slice A n c) vs.length (vs.flatMap V.cells)) : n = vs.length ∧ ∀ W, Below w.heap.size w W → Row W W.heap.size A vs.length vs := by
  have hn : n = vs.length := by
    rcases h.2 with ⟨e, _⟩ | ⟨g, cap, cur, e, _⟩
    · injection e with _ e2 _
      rcases h.2 with ⟨_, e3⟩ | ⟨g, cap, cur, e3, _⟩
      · omega
      · injection e3 with _ e4 _
    · injection e with _ e2 _
  subst hn
  refine ⟨rfl, fun W hb => ?_⟩
  exact ((RowOf.of_own h rfl).below hb).more hb.size

set_option maxRecDepth 100000 in
set_option maxHeartbeats 2000000 in
theorem valueOrder_w (A : Option Addr) (n c : Nat) (zs : List Int) (w : World) (h : IntsR w A n c zs) (hG : G w) :
    Calls Tryd.prog 7 #[.slice A n c] w fun e w' => e = .returned (.bool true) ∧ Below w.heap.size w w' := by
  go_enter Tryd.func7, Tryd.ntmps7
  go_wp2_with fail
  refine (new_c A n c zs _ h).mono ?_
  rintro e w1 ⟨b, g, rfl, tp1, hb, hg, bel1⟩
  go_wp2_with fail
  refine (trow b g 3 _ (by omega) tp1).mono ?_
  rintro e w2 ⟨o1, xs, rfl, own1, ok1, l1, tp2, g2⟩
  go_wp2_with fail
  refine (trow b g 3 _ (by omega) tp2).mono ?_
  rintro e w3 ⟨o2, ys, rfl, own2, ok2, l2, tp3, g3⟩
  go_wp2_with fail
  refine (trow b g 3 _ (by omega) tp3).mono ?_
  rintro e w4 ⟨o3, us, rfl, own3, ok3, l3, tp4, g4⟩
  have lt1 := tp1.lt
  have lt2 := g2.size
  have lt3 := g3.size
  have lt4 := g4.size
  have ne1 : ∀ o : Value, ∀ B n xs, (w2.ownsRow B 23 3 o n xs) → w1.heap.size ≤ B → o.ownBlock ≠ some b := fun o B n xs ho hB e => by have := (ho.lt _ e).1; omega
  have ne2 : ∀ o : Value, ∀ B n xs, (w3.ownsRow B 23 3 o n xs) → w1.heap.size ≤ B → o.ownBlock ≠ some b := fun o B n xs ho hB e => by have := (ho.lt _ e).1; omega
  have own1' := own1.kept g3 (.inr (ne1 _ _ _ _ own1 (Nat.le_refl _)))
  have own1'' := own1'.kept g4 (.inr (ne2 _ _ _ _ own1' (Nat.le_refl _)))
  have own2' := own2.kept g4 (.inr (ne2 _ _ _ _ own2 (by omega)))
  have bel4 : Below w.heap.size w w4 := by
    refine ⟨g4.os.trans (g3.os.trans (g2.os.trans bel1.os)), g4.tape.trans (g3.tape.trans (g2.tape.trans bel1.tape)), g4.output.trans (g3.output.trans (g2.output.trans bel1.output)), by have := bel1.size; omega, fun k hk => ?_⟩
    have hz := bel1.size
    have hkb : some k ≠ some b := by intro e; injection e with e; omega
    exact (g4.block k (by omega) hkb).trans ((g3.block k (by omega) hkb).trans ((g2.block k (by omega) hkb).trans (bel1.block k hk)))
  clear own1 own1' own2 ne1 ne2 tp1 tp2 tp3 tp4 g2 g3 g4 bel1 hb hg h
  obtain ⟨A1, c1, hv1, _, _⟩ := own_slice own1''
  obtain ⟨A2, c2, hv2, _, _⟩ := own_slice own2'
  obtain ⟨A3, c3, hv3, _, _⟩ := own_slice own3
  subst hv1 hv2 hv3
  have R1 := Lib.hid (own_row own1'').2
  have R2 := Lib.hid (own_row own2').2
  have R3 := Lib.hid (own_row own3).2
  clear own1'' own2' own3
  have hm : (3 : Nat) ≤ maxLen := by decide
  go_wp2_with fail
  refine (vcompareRows A1 A2 _ _ _ _ xs ys _ (by omega) (by omega) (R1.out _ (by (repeat (first | (with_reducible exact Below.refl _ _) | (with_reducible assumption) | (with_reducible refine Below.drew ?_) | (with_reducible refine below_drewN ?_ _) | ((with_reducible refine Below.setCell ?_ ?_ _); rotate_left; (focus (first | (simp; done) | (simp; omega) | omega))) | ((with_reducible refine Below.alloc ?_ ?_ _); rotate_left; (focus (first | (simp; done) | (simp; omega) | omega))) | ((with_reducible apply below_step1); (focus (with_reducible assumption))))))) (R2.out _ (by (repeat (first | (with_reducible exact Below.refl _ _) | (with_reducible assumption) | (with_reducible refine Below.drew ?_) | (with_reducible refine below_drewN ?_ _) | ((with_reducible refine Below.setCell ?_ ?_ _); rotate_left; (focus (first | (simp; done) | (simp; omega) | omega))) | ((with_reducible refine Below.alloc ?_ ?_ _); rotate_left; (focus (first | (simp; done) | (simp; omega) | omega))) | ((with_reducible apply below_step1); (focus (with_reducible assumption)))))))).mono ?_
  rintro e w5 ⟨rfl, hb5⟩
  go_wp2_with fail
  refine (vcompareRows A2 A3 _ _ _ _ ys us _ (by omega) (by omega) (R2.out _ (by (repeat (first | (with_reducible exact Below.refl _ _) | (with_reducible assumption) | (with_reducible refine Below.drew ?_) | (with_reducible refine below_drewN ?_ _) | ((with_reducible refine Below.setCell ?_ ?_ _); rotate_left; (focus (first | (simp; done) | (simp; omega) | omega))) | ((with_reducible refine Below.alloc ?_ ?_ _); rotate_left; (focus (first | (simp; done) | (simp; omega) | omega))) | ((with_reducible apply below_step1); (focus (with_reducible assumption))))))) (R3.out _ (by (repeat (first | (with_reducible exact Below.refl _ _) | (with_reducible assumption) | (with_reducible refine Below.drew ?_) | (with_reducible refine below_drewN ?_ _) | ((with_reducible refine Below.setCell ?_ ?_ _); rotate_left; (focus (first | (simp; done) | (simp; omega) | omega))) | ((with_reducible refine Below.alloc ?_ ?_ _); rotate_left; (focus (first | (simp; done) | (simp; omega) | omega))) | ((with_reducible apply below_step1); (focus (with_reducible assumption)))))))).mono ?_
  rintro e w6 ⟨rfl, hb6⟩
  go_wp2_with fail
  refine (vcompareRows A1 A3 _ _ _ _ xs us _ (by omega) (by omega) (R1.out _ (by (repeat (first | (with_reducible exact Below.refl _ _) | (with_reducible assumption) | (with_reducible refine Below.drew ?_) | (with_reducible refine below_drewN ?_ _) | ((with_reducible refine Below.setCell ?_ ?_ _); rotate_left; (focus (first | (simp; done) | (simp; omega) | omega))) | ((with_reducible refine Below.alloc ?_ ?_ _); rotate_left; (focus (first | (simp; done) | (simp; omega) | omega))) | ((with_reducible apply below_step1); (focus (with_reducible assumption))))))) (R3.out _ (by (repeat (first | (with_reducible exact Below.refl _ _) | (with_reducible assumption) | (with_reducible refine Below.drew ?_) | (with_reducible refine below_drewN ?_ _) | ((with_reducible refine Below.setCell ?_ ?_ _); rotate_left; (focus (first | (simp; done) | (simp; omega) | omega))) | ((with_reducible refine Below.alloc ?_ ?_ _); rotate_left; (focus (first | (simp; done) | (simp; omega) | omega))) | ((with_reducible apply below_step1); (focus (with_reducible assumption)))))))).mono ?_
  rintro e w7 ⟨rfl, hb7⟩
  go_wp2_with fail
  refine (vcompareRows A2 A1 _ _ _ _ ys xs _ (by omega) (by omega) (R2.out _ (by (repeat (first | (with_reducible exact Below.refl _ _) | (with_reducible assumption) | (with_reducible refine Below.drew ?_) | (with_reducible refine below_drewN ?_ _) | ((with_reducible refine Below.setCell ?_ ?_ _); rotate_left; (focus (first | (simp; done) | (simp; omega) | omega))) | ((with_reducible refine Below.alloc ?_ ?_ _); rotate_left; (focus (first | (simp; done) | (simp; omega) | omega))) | ((with_reducible apply below_step1); (focus (with_reducible assumption))))))) (R1.out _ (by (repeat (first | (with_reducible exact Below.refl _ _) | (with_reducible assumption) | (with_reducible refine Below.drew ?_) | (with_reducible refine below_drewN ?_ _) | ((with_reducible refine Below.setCell ?_ ?_ _); rotate_left; (focus (first | (simp; done) | (simp; omega) | omega))) | ((with_reducible refine Below.alloc ?_ ?_ _); rotate_left; (focus (first | (simp; done) | (simp; omega) | omega))) | ((with_reducible apply below_step1); (focus (with_reducible assumption)))))))).mono ?_
  rintro e w8 ⟨rfl, hb8⟩
  rw [rows_ord.anti xs ys]
  have rg := cmpRows_range xs ys
  have T1 := fun a b => rows_ord.tr1 (a := xs) (b := ys) (c := us) ok1 ok2 ok3 a b
  have T2 := fun a b => rows_ord.tr xs ys us ok1 ok2 ok3 a b
  have HS := Lib.hid (same_zero ok1 ok2)
  have HR := Lib.hid (rows_ord.refl xs)
  clear ok1 ok2 ok3
  generalize cmpRows xs ys = x at *
  generalize cmpRows ys us = y at *
  generalize cmpRows xs us = z at *
  have HT1 := Lib.hid T1
  have HT2 := Lib.hid T2
  clear T1 T2
  obtain ⟨rg1, rg2⟩ := rg
  have en : (-x != -x) = false := by simp
  have e0 : ((x == 0) != (x == 0)) = false := by simp
  go_wp2_with fail
  refine (same_c A1 A2 _ _ _ _ xs ys _ (by omega) (by omega) (R1.out _ (by (repeat (first | (with_reducible exact Below.refl _ _) | (with_reducible assumption) | (with_reducible refine Below.drew ?_) | (with_reducible refine below_drewN ?_ _) | ((with_reducible refine Below.setCell ?_ ?_ _); rotate_left; (focus (first | (simp; done) | (simp; omega) | omega))) | ((with_reducible refine Below.alloc ?_ ?_ _); rotate_left; (focus (first | (simp; done) | (simp; omega) | omega))) | ((with_reducible apply below_step1); (focus (with_reducible assumption))))))) (R2.out _ (by (repeat (first | (with_reducible exact Below.refl _ _) | (with_reducible assumption) | (with_reducible refine Below.drew ?_) | (with_reducible refine below_drewN ?_ _) | ((with_reducible refine Below.setCell ?_ ?_ _); rotate_left; (focus (first | (simp; done) | (simp; omega) | omega))) | ((with_reducible refine Below.alloc ?_ ?_ _); rotate_left; (focus (first | (simp; done) | (simp; omega) | omega))) | ((with_reducible apply below_step1); (focus (with_reducible assumption)))))))).mono ?_
  rintro e w9 ⟨rfl, hb9⟩
  rw [HS.out]
  go_wp2_with fail
  refine (vcompareRows A1 A1 _ _ _ _ xs xs _ (by omega) (by omega) (R1.out _ (by (repeat (first | (with_reducible exact Below.refl _ _) | (with_reducible assumption) | (with_reducible refine Below.drew ?_) | (with_reducible refine below_drewN ?_ _) | ((with_reducible refine Below.setCell ?_ ?_ _); rotate_left; (focus (first | (simp; done) | (simp; omega) | omega))) | ((with_reducible refine Below.alloc ?_ ?_ _); rotate_left; (focus (first | (simp; done) | (simp; omega) | omega))) | ((with_reducible apply below_step1); (focus (with_reducible assumption))))))) (R1.out _ (by (repeat (first | (with_reducible exact Below.refl _ _) | (with_reducible assumption) | (with_reducible refine Below.drew ?_) | (with_reducible refine below_drewN ?_ _) | ((with_reducible refine Below.setCell ?_ ?_ _); rotate_left; (focus (first | (simp; done) | (simp; omega) | omega))) | ((with_reducible refine Below.alloc ?_ ?_ _); rotate_left; (focus (first | (simp; done) | (simp; omega) | omega))) | ((with_reducible apply below_step1); (focus (with_reducible assumption)))))))).mono ?_
  rintro e w10 ⟨rfl, hb10⟩
  rw [HR.out]
  by_cases hx : x ≤ 0
  · by_cases hy : y ≤ 0
    · have hz : z ≤ 0 := HT1.out hx hy
      have hz1 : decide (0 < z) = false := by simpa using hz
      by_cases hx2 : x < 0
      · by_cases hy2 : y < 0
        · have hz2 : z < 0 := HT2.out hx2 hy2
          have hz3 : decide (0 ≤ z) = false := by simpa using hz2
          go_wp2_with (go_at_call 14; refine (awake_c _ (by exact hG.below (by (repeat (first | (with_reducible exact Below.refl _ _) | (with_reducible assumption) | (with_reducible refine Below.drew ?_) | (with_reducible refine below_drewN ?_ _) | ((with_reducible refine Below.setCell ?_ ?_ _); rotate_left; (focus (first | (simp; done) | (simp; omega) | omega))) | ((with_reducible refine Below.alloc ?_ ?_ _); rotate_left; (focus (first | (simp; done) | (simp; omega) | omega))) | ((with_reducible apply below_step1); (focus (with_reducible assumption)))))))).mono ?_; rintro e w11 ⟨rfl, hb11⟩)
          go_ret
          exact ⟨rfl, by (repeat (first | (with_reducible exact Below.refl _ _) | (with_reducible assumption) | (with_reducible refine Below.drew ?_) | (with_reducible refine below_drewN ?_ _) | ((with_reducible refine Below.setCell ?_ ?_ _); rotate_left; (focus (first | (simp; done) | (simp; omega) | omega))) | ((with_reducible refine Below.alloc ?_ ?_ _); rotate_left; (focus (first | (simp; done) | (simp; omega) | omega))) | ((with_reducible apply below_step1); (focus (with_reducible assumption)))))⟩
        · go_wp2_with (go_at_call 14; refine (awake_c _ (by exact hG.below (by (repeat (first | (with_reducible exact Below.refl _ _) | (with_reducible assumption) | (with_reducible refine Below.drew ?_) | (with_reducible refine below_drewN ?_ _) | ((with_reducible refine Below.setCell ?_ ?_ _); rotate_left; (focus (first | (simp; done) | (simp; omega) | omega))) | ((with_reducible refine Below.alloc ?_ ?_ _); rotate_left; (focus (first | (simp; done) | (simp; omega) | omega))) | ((with_reducible apply below_step1); (focus (with_reducible assumption)))))))).mono ?_; rintro e w11 ⟨rfl, hb11⟩)
          go_ret
          exact ⟨rfl, by (repeat (first | (with_reducible exact Below.refl _ _) | (with_reducible assumption) | (with_reducible refine Below.drew ?_) | (with_reducible refine below_drewN ?_ _) | ((with_reducible refine Below.setCell ?_ ?_ _); rotate_left; (focus (first | (simp; done) | (simp; omega) | omega))) | ((with_reducible refine Below.alloc ?_ ?_ _); rotate_left; (focus (first | (simp; done) | (simp; omega) | omega))) | ((with_reducible apply below_step1); (focus (with_reducible assumption)))))⟩
      · go_wp2_with (go_at_call 14; refine (awake_c _ (by exact hG.below (by (repeat (first | (with_reducible exact Below.refl _ _) | (with_reducible assumption) | (with_reducible refine Below.drew ?_) | (with_reducible refine below_drewN ?_ _) | ((with_reducible refine Below.setCell ?_ ?_ _); rotate_left; (focus (first | (simp; done) | (simp; omega) | omega))) | ((with_reducible refine Below.alloc ?_ ?_ _); rotate_left; (focus (first | (simp; done) | (simp; omega) | omega))) | ((with_reducible apply below_step1); (focus (with_reducible assumption)))))))).mono ?_; rintro e w11 ⟨rfl, hb11⟩)
        go_ret
        exact ⟨rfl, by (repeat (first | (with_reducible exact Below.refl _ _) | (with_reducible assumption) | (with_reducible refine Below.drew ?_) | (with_reducible refine below_drewN ?_ _) | ((with_reducible refine Below.setCell ?_ ?_ _); rotate_left; (focus (first | (simp; done) | (simp; omega) | omega))) | ((with_reducible refine Below.alloc ?_ ?_ _); rotate_left; (focus (first | (simp; done) | (simp; omega) | omega))) | ((with_reducible apply below_step1); (focus (with_reducible assumption)))))⟩
    · by_cases hx2 : x < 0
      · go_wp2_with (go_at_call 14; refine (awake_c _ (by exact hG.below (by (repeat (first | (with_reducible exact Below.refl _ _) | (with_reducible assumption) | (with_reducible refine Below.drew ?_) | (with_reducible refine below_drewN ?_ _) | ((with_reducible refine Below.setCell ?_ ?_ _); rotate_left; (focus (first | (simp; done) | (simp; omega) | omega))) | ((with_reducible refine Below.alloc ?_ ?_ _); rotate_left; (focus (first | (simp; done) | (simp; omega) | omega))) | ((with_reducible apply below_step1); (focus (with_reducible assumption)))))))).mono ?_; rintro e w11 ⟨rfl, hb11⟩)
        go_ret
        exact ⟨rfl, by (repeat (first | (with_reducible exact Below.refl _ _) | (with_reducible assumption) | (with_reducible refine Below.drew ?_) | (with_reducible refine below_drewN ?_ _) | ((with_reducible refine Below.setCell ?_ ?_ _); rotate_left; (focus (first | (simp; done) | (simp; omega) | omega))) | ((with_reducible refine Below.alloc ?_ ?_ _); rotate_left; (focus (first | (simp; done) | (simp; omega) | omega))) | ((with_reducible apply below_step1); (focus (with_reducible assumption)))))⟩
      · go_wp2_with (go_at_call 14; refine (awake_c _ (by exact hG.below (by (repeat (first | (with_reducible exact Below.refl _ _) | (with_reducible assumption) | (with_reducible refine Below.drew ?_) | (with_reducible refine below_drewN ?_ _) | ((with_reducible refine Below.setCell ?_ ?_ _); rotate_left; (focus (first | (simp; done) | (simp; omega) | omega))) | ((with_reducible refine Below.alloc ?_ ?_ _); rotate_left; (focus (first | (simp; done) | (simp; omega) | omega))) | ((with_reducible apply below_step1); (focus (with_reducible assumption)))))))).mono ?_; rintro e w11 ⟨rfl, hb11⟩)
        go_ret
        exact ⟨rfl, by (repeat (first | (with_reducible exact Below.refl _ _) | (with_reducible assumption) | (with_reducible refine Below.drew ?_) | (with_reducible refine below_drewN ?_ _) | ((with_reducible refine Below.setCell ?_ ?_ _); rotate_left; (focus (first | (simp; done) | (simp; omega) | omega))) | ((with_reducible refine Below.alloc ?_ ?_ _); rotate_left; (focus (first | (simp; done) | (simp; omega) | omega))) | ((with_reducible apply below_step1); (focus (with_reducible assumption)))))⟩
  · go_wp2_with (go_at_call 14; refine (awake_c _ (by exact hG.below (by (repeat (first | (with_reducible exact Below.refl _ _) | (with_reducible assumption) | (with_reducible refine Below.drew ?_) | (with_reducible refine below_drewN ?_ _) | ((with_reducible refine Below.setCell ?_ ?_ _); rotate_left; (focus (first | (simp; done) | (simp; omega) | omega))) | ((with_reducible refine Below.alloc ?_ ?_ _); rotate_left; (focus (first | (simp; done) | (simp; omega) | omega))) | ((with_reducible apply below_step1); (focus (with_reducible assumption)))))))).mono ?_; rintro e w11 ⟨rfl, hb11⟩)
    go_ret
    exact ⟨rfl, by (repeat (first | (with_reducible exact Below.refl _ _) | (with_reducible assumption) | (with_reducible refine Below.drew ?_) | (with_reducible refine below_drewN ?_ _) | ((with_reducible refine Below.setCell ?_ ?_ _); rotate_left; (focus (first | (simp; done) | (simp; omega) | omega))) | ((with_reducible refine Below.alloc ?_ ?_ _); rotate_left; (focus (first | (simp; done) | (simp; omega) | omega))) | ((with_reducible apply below_step1); (focus (with_reducible assumption)))))⟩
end Go.Proofs.YtjlhapbahecpoaaDoor
