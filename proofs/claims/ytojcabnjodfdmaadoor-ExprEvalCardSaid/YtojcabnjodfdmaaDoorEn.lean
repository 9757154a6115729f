/- The law ExprLimits: bushy expressions, and the walk; the table of powers of ten is as it is laid. -/
import Derived.Test.YtojcabnjodfdmaaDoorBc
import Derived.Test.YtojcabnjodfdmaaDoorBa
import Derived.Test.YtojcabnjodfdmaaDoorBd
namespace Go.Proofs.YtojcabnjodfdmaaDoor
open Go.RowKit

/-- A new row of the terms of one expression. -/
def BuPost (w : World) (n : Int) (d : Nat) (e : Ending) (w' : World) : Prop := ∃ (A : Option Addr) (c : Nat) (x : X), e = .returned (.slice A x.flat.length c) ∧ w'.ownsRow w.heap.size 36 5 (.slice A x.flat.length c) x.flat.length (x.flat.flatMap T.cells) ∧ x.wf = true ∧ ((x.flat.length : Int) = max 1 n) ∧ x.depth ≤ d ∧ Below w.heap.size w w'
def tNeg : T := ⟨3, V.null, 0⟩
theorem leaf_wf : (X.node (tCol 0) []).wf = true := by simp only [X.wf, wfs, List.length_nil]; decide
theorem leaf_flat : (X.node (tCol 0) []).flat = [tCol 0] := by simp [X.flat, flats]
set_option maxRecDepth 100000 in
set_option maxHeartbeats 2000000 in
theorem bushy_c : ∀ (k : Nat) (n : Int) (w : World), 0 ≤ n → n ≤ (2 : Int) ^ k → n ≤ 1000 → Calls Tryd.prog 21 #[.int .i64 n] w (BuPost w n (k + 1)) := by
  intro k
  induction k with
  | zero =>
    intro n w h0 h1 h2
    have h3 : n ≤ 1 := by simpa using h1
    clear h1
    go_enter Tryd.func21, Tryd.ntmps21
    go_wp2_with fail
    go_ret
    refine ⟨_, _, X.node (tCol 0) [], by rw [leaf_flat]; rfl, ?_, leaf_wf, by rw [leaf_flat]; simp; omega, by simp [X.depth, deepest], by (repeat (first | (with_reducible exact Below.refl _ _) | (with_reducible assumption) | (with_reducible refine Below.drew ?_) | (with_reducible refine below_drewN ?_ _) | ((with_reducible refine Below.setCell ?_ ?_ _); rotate_left; (focus (first | (simp; done) | (simp; omega) | omega))) | ((with_reducible refine Below.alloc ?_ ?_ _); rotate_left; (focus (first | (simp; done) | (simp; omega) | omega))) | ((with_reducible apply below_step1); (focus (with_reducible assumption)))))⟩
    rw [leaf_flat]
    exact own_new w _ 36 5 1 (by decide) rfl
  | succ k ih =>
    intro n w h0 h1 h2
    have hpk : (2 : Int) ^ (k + 1) = 2 * 2 ^ k := by rw [Int.pow_succ]; omega
    rw [hpk] at h1
    by_cases h3 : n ≤ 1
    · clear h1
      go_enter Tryd.func21, Tryd.ntmps21
      go_wp2_with fail
      go_ret
      refine ⟨_, _, X.node (tCol 0) [], by rw [leaf_flat]; rfl, ?_, leaf_wf, by rw [leaf_flat]; simp; omega, by simp [X.depth, deepest], by (repeat (first | (with_reducible exact Below.refl _ _) | (with_reducible assumption) | (with_reducible refine Below.drew ?_) | (with_reducible refine below_drewN ?_ _) | ((with_reducible refine Below.setCell ?_ ?_ _); rotate_left; (focus (first | (simp; done) | (simp; omega) | omega))) | ((with_reducible refine Below.alloc ?_ ?_ _); rotate_left; (focus (first | (simp; done) | (simp; omega) | omega))) | ((with_reducible apply below_step1); (focus (with_reducible assumption)))))⟩
      rw [leaf_flat]
      exact own_new w _ 36 5 1 (by decide) rfl
    by_cases h4 : n = 2
    · have t4 : (n == 2) = true := by simpa using h4
      have hfl : (X.node tNeg [X.node (tCol 0) []]).flat = [tNeg, tCol 0] := by simp [X.flat, flats]
      clear h1
      go_enter Tryd.func21, Tryd.ntmps21
      go_wp2_with fail
      go_ret
      refine ⟨_, _, X.node tNeg [X.node (tCol 0) []], by rw [hfl]; rfl, ?_, by simp only [X.wf, wfs, List.length_nil, List.length_cons]; decide, by rw [hfl]; simp; omega, by simp [X.depth, deepest], by (repeat (first | (with_reducible exact Below.refl _ _) | (with_reducible assumption) | (with_reducible refine Below.drew ?_) | (with_reducible refine below_drewN ?_ _) | ((with_reducible refine Below.setCell ?_ ?_ _); rotate_left; (focus (first | (simp; done) | (simp; omega) | omega))) | ((with_reducible refine Below.alloc ?_ ?_ _); rotate_left; (focus (first | (simp; done) | (simp; omega) | omega))) | ((with_reducible apply below_step1); (focus (with_reducible assumption)))))⟩
      rw [hfl]
      exact own_new w _ 36 5 2 (by decide) rfl
    have t4 : (n == 2) = false := by simpa using h4
    have n1 : IntKind.i64.wrap (n - 1) = n - 1 := IntWalk.i64_in _ (by omega)
    have hq : (n - 1).tdiv 2 = (n - 1) / 2 := by rw [Int.tdiv_eq_ediv_of_nonneg (by omega)]
    have hq1 : 0 ≤ (n - 1) / 2 ∧ (n - 1) / 2 ≤ 2 ^ k ∧ (n - 1) / 2 ≤ 1000 ∧ 1 ≤ (n - 1) / 2 ∧ 0 ≤ n - 1 - (n - 1) / 2 ∧ n - 1 - (n - 1) / 2 ≤ 2 ^ k ∧ n - 1 - (n - 1) / 2 ≤ 1000 ∧ 1 ≤ n - 1 - (n - 1) / 2 := by omega
    generalize (n - 1) / 2 = q at hq hq1
    obtain ⟨q1, q2, q3, q4, q5, q6, q7, q8⟩ := hq1
    have nq : IntKind.i64.wrap q = q := IntWalk.i64_in _ (by omega)
    have nr : IntKind.i64.wrap (n - 1 - q) = n - 1 - q := IntWalk.i64_in _ (by omega)
    have A1 := fun w => ih q w q1 q2 q3
    have A2 := fun w => ih (n - 1 - q) w q5 q6 q7
    obtain ⟨r, hr⟩ : ∃ r, n - 1 - q = r := ⟨_, rfl⟩
    have nr2 : IntKind.i64.wrap (n - 1 - q) = r := nr.trans hr
    rw [hr] at A2 q8
    have HNR := Lib.hid hr
    clear nr hr
    clear ih h1 hpk q2 q6
    go_enter Tryd.func21, Tryd.ntmps21
    go_wp2_with (first
      | (go_at_call_of 21 (Value.int IntKind.i64 q); refine (A1 _).mono ?_; rintro e w1 ⟨B1, c1, x1, rfl, o1, f1, l1, d1, hb1⟩; have hz1 := hb1.size; (try simp at hz1); have oe := own_below (own_new w tAdd.cells.toArray 36 5 1 (by decide) rfl) hb1; have hw1 : Below w.heap.size w w1 := (by (repeat (first | (with_reducible exact Below.refl _ _) | (with_reducible assumption) | (with_reducible refine Below.drew ?_) | (with_reducible refine below_drewN ?_ _) | ((with_reducible refine Below.setCell ?_ ?_ _); rotate_left; (focus (first | (simp; done) | (simp; omega) | omega))) | ((with_reducible refine Below.alloc ?_ ?_ _); rotate_left; (focus (first | (simp; done) | (simp; omega) | omega))) | ((with_reducible apply below_step1); (focus (with_reducible assumption)))))); have L1 := Lib.hid l1; clear l1)
      | (at_builtin; refine wpList_appAny (v := .slice (some ⟨w.heap.size, 0, none⟩) 1 1) rfl _ _ stT rfl rfl oe rfl (news := x1.flat.flatMap T.cells) (tcells_len _) (Rd.of_own o1) (own_none o1) (tcells_one _) (by have := L1.out; omega) (by omega) ?_; intro v2 w2 o2 g2 _; have hz2 := g2.size; have hw2 := below_app hw1 oe g2 (Nat.le_refl _) (by omega); obtain ⟨B2, c2, rfl, _, _⟩ := own_slice o2)
      | (go_at_call 21; refine (A2 _).mono ?_; rintro e w3 ⟨B3, c3, x3, rfl, o3, f3, l3, d3, hb3⟩; have hz3 := hb3.size; have o4 := own_below o2 hb3; have hw3 : Below w.heap.size w w3 := (by (repeat (first | (with_reducible exact Below.refl _ _) | (with_reducible assumption) | (with_reducible refine Below.drew ?_) | (with_reducible refine below_drewN ?_ _) | ((with_reducible refine Below.setCell ?_ ?_ _); rotate_left; (focus (first | (simp; done) | (simp; omega) | omega))) | ((with_reducible refine Below.alloc ?_ ?_ _); rotate_left; (focus (first | (simp; done) | (simp; omega) | omega))) | ((with_reducible apply below_step1); (focus (with_reducible assumption)))))); have L3 := Lib.hid l3; clear l3)
      | (at_builtin; refine wpList_appAny (v := .slice B2 (1 + x1.flat.length) c2) rfl _ _ stT rfl rfl o4 rfl (news := x3.flat.flatMap T.cells) (tcells_len _) (Rd.of_own o3) (own_none o3) (tcells_one _) (by have := L1.out; have := L3.out; have := HNR.out; omega) (by omega) ?_; intro v5 w5 o5 g5 _; have hz5 := g5.size; have hw5 := below_app hw3 o4 g5 (Nat.le_refl _) (by omega); obtain ⟨B5, c5, rfl, _, _⟩ := own_slice o5))
    go_ret
    have hfl : (X.node tAdd [x1, x3]).flat = tAdd :: (x1.flat ++ x3.flat) := by simp [X.flat, flats]
    have hln : (X.node tAdd [x1, x3]).flat.length = 1 + x1.flat.length + x3.flat.length := by rw [hfl]; simp; omega
    refine ⟨B5, c5, X.node tAdd [x1, x3], by rw [hln]; rfl, ?_, ?_, ?_, ?_, hw5⟩
    · rw [hln, hfl]
      simpa [List.append_assoc] using o5
    · have : tAdd.ok = true ∧ ar tAdd.op = 2 := by decide
      simp [X.wf, wfs, f1, f3, this.1, this.2]
    · have := L1.out; have := L3.out; have := HNR.out; omega
    · simp only [X.depth, deepest]; omega
def negX : Nat → X
  | 0 => .node (tCol 0) []
  | k + 1 => .node tNeg [negX k]
theorem negX_flat : ∀ k, (negX k).flat = List.replicate k tNeg ++ [tCol 0] := by
  intro k
  induction k with
  | zero => exact leaf_flat
  | succ k ih => simp [negX, X.flat, flats, ih, List.replicate_succ]
theorem negX_depth : ∀ k, (negX k).depth = k + 1 := by
  intro k
  induction k with
  | zero => simp [negX, X.depth, deepest]
  | succ k ih => simp [negX, X.depth, deepest, ih]
theorem negX_wf : ∀ k, (negX k).wf = true := by
  intro k
  induction k with
  | zero => exact leaf_wf
  | succ k ih =>
    have : tNeg.ok = true ∧ ar tNeg.op = 1 := by decide
    simp [negX, X.wf, wfs, ih, this.1, this.2]
set_option maxRecDepth 100000 in
set_option maxHeartbeats 2000000 in
theorem exprLimits_w (n : Int) (w : World) (h0 : 0 ≤ n) (hG : G w) :
    Calls Tryd.prog 4 #[.int .u8 n] w fun e w' => e = .returned (.bool true) ∧ Below w.heap.size w w' := by
  obtain ⟨kk, hk⟩ : ∃ kk, n.tmod 3 = kk := ⟨_, rfl⟩
  have b1 := Int.tmod_lt_of_pos n (show (0 : Int) < 3 by omega)
  have b2 := Int.tmod_nonneg 3 h0
  rw [hk] at b1 b2
  obtain ⟨d, hd⟩ : ∃ d, kk - 1 = d := ⟨_, rfl⟩
  have hkw : IntKind.u8.wrap kk = kk := by simp [IntKind.wrap, IntKind.bits]; omega
  have hkw2 : IntKind.i64.wrap kk = kk := IntWalk.i64_in _ (by omega)
  have hdw : IntKind.i64.wrap (kk - 1) = d := by rw [hd]; exact IntWalk.i64_in _ (by omega)
  have hdb : -1 ≤ d ∧ d ≤ 1 := by omega
  have h15 : IntKind.i64.wrap (15 + d) = 15 + d := IntWalk.i64_in _ (by omega)
  have h64 : IntKind.i64.wrap (64 + d) = 64 + d := IntWalk.i64_in _ (by omega)
  have HB := fun w => bushy_c 7 (64 + d) w (by omega) (by have : (2 : Int) ^ 7 = 128 := by decide
                                                          omega) (by omega)
  go_enter Tryd.func4, Tryd.ntmps4
  go_wp2_with fail
  go_loopw [4, 6] (fun u i wr => ∃ j : Nat, i = .int .i64 j ∧ (j : Int) ≤ 15 + d ∧ wr.ownsRow w.heap.size 36 5 u j ((List.replicate j tNeg).flatMap T.cells) ∧ Below w.heap.size w wr) (fun _ i _ => 40 - (intOf i).toNat)
  case atStart => exact ⟨0, rfl, by omega, World.ownsRow_nil _ _ _ _, by (repeat (first | (with_reducible exact Below.refl _ _) | (with_reducible assumption) | (with_reducible refine Below.drew ?_) | (with_reducible refine below_drewN ?_ _) | ((with_reducible refine Below.setCell ?_ ?_ _); rotate_left; (focus (first | (simp; done) | (simp; omega) | omega))) | ((with_reducible refine Below.alloc ?_ ?_ _); rotate_left; (focus (first | (simp; done) | (simp; omega) | omega))) | ((with_reducible apply below_step1); (focus (with_reducible assumption)))))⟩
  case round =>
    obtain ⟨j, rfl, hj, hown, hbel⟩ := hrel
    have hzz := hbel.size
    by_cases hlt : (j : Int) < 15 + d
    · have hjw : IntKind.i64.wrap ((j : Int) + 1) = (j : Int) + 1 := IntWalk.i64_in _ (by omega)
      go_wp2_with (at_builtin; refine wpList_app (v := u4) rfl _ _ stT rfl rfl (hown) rfl (by simp) rfl (by simp [Value.oneCell']) (by omega) (by omega) ?_; intro v' w3 own3 hg3 hat3)
      have hb3 := below_app hbel hown hg3 (Nat.le_refl _) (by omega)
      go_roundw
      case rel =>
        refine ⟨j + 1, by go_num, by omega, ?_, hb3⟩
        rw [List.replicate_succ', show (List.replicate j tNeg ++ [tNeg]).flatMap T.cells = (List.replicate j tNeg).flatMap T.cells ++ tNeg.cells by simp]
        exact own3
      case measure => simp [intOf]; omega
    · have hje : (j : Int) = 15 + d := by omega
      have HV1 := Lib.hid (show validE (List.replicate j tNeg ++ [tCol 0]) = decide (d ≤ 0) by
        rw [← negX_flat, validE_flat (negX_wf j), negX_depth, negX_flat, Bool.eq_iff_iff]
        simp
        omega)
      clear hje
      go_wp2_with (first
        | (at_builtin; refine wpList_app (v := u4) rfl _ _ stT rfl rfl (hown) rfl (by simp) rfl (by simp [Value.oneCell']) (by omega) (by omega) ?_; intro v' w3 own3 hg3 hat3; have hb3 := below_app hbel hown hg3 (Nat.le_refl _) (by omega); have hz3 := hb3.size; obtain ⟨B3, c3, rfl, _, _⟩ := own_slice own3)
        | (go_at_call 21; refine (HB _).mono ?_; rintro e w4 ⟨B4, c4, x4, rfl, o4, f4, l4, d4, hb4⟩; have hz4 := hb4.size; have L4 := Lib.hid l4; clear l4; have r3 : RowT w3 w3.heap.size B3 (j + 1) (List.replicate j tNeg ++ [tCol 0]) := RowOf.of_own (by rw [show (List.replicate j tNeg ++ [tCol 0]).flatMap T.cells = (List.replicate j tNeg).flatMap T.cells ++ (tCol 0).cells by simp]; exact own3) (by simp); have r4 : RowT w4 w4.heap.size B4 x4.flat.length x4.flat := RowOf.of_own o4 rfl; have HV2 := Lib.hid (show validE x4.flat = decide (d ≤ 0) by rw [validE_flat f4, Bool.eq_iff_iff]; simp; have := L4.out; omega)))
      refine (xvalidE _ _ _ _ _ (by unfold maxLen; omega) (by exact r3.to (by (repeat (first | (with_reducible exact Below.refl _ _) | (with_reducible assumption) | (with_reducible refine Below.drew ?_) | (with_reducible refine below_drewN ?_ _) | ((with_reducible refine Below.setCell ?_ ?_ _); rotate_left; (focus (first | (simp; done) | (simp; omega) | omega))) | ((with_reducible refine Below.alloc ?_ ?_ _); rotate_left; (focus (first | (simp; done) | (simp; omega) | omega))) | ((with_reducible apply below_step1); (focus (with_reducible assumption)))))))).mono ?_
      rintro e w5 ⟨rfl, hb5⟩
      rw [HV1.out]
      go_wp2_with (first
        | (go_at_call 18; refine (xvalidE _ _ _ _ _ (by have := L4.out; unfold maxLen; omega) (by exact r4.to (by (repeat (first | (with_reducible exact Below.refl _ _) | (with_reducible assumption) | (with_reducible refine Below.drew ?_) | (with_reducible refine below_drewN ?_ _) | ((with_reducible refine Below.setCell ?_ ?_ _); rotate_left; (focus (first | (simp; done) | (simp; omega) | omega))) | ((with_reducible refine Below.alloc ?_ ?_ _); rotate_left; (focus (first | (simp; done) | (simp; omega) | omega))) | ((with_reducible apply below_step1); (focus (with_reducible assumption)))))))).mono ?_; rintro e w6 ⟨rfl, hb6⟩; rw [HV2.out])
        | (go_at_call 19; refine (rvalidE _ _ _ _ _ (by have := L4.out; unfold maxLen; omega) (by exact r4.to (by (repeat (first | (with_reducible exact Below.refl _ _) | (with_reducible assumption) | (with_reducible refine Below.drew ?_) | (with_reducible refine below_drewN ?_ _) | ((with_reducible refine Below.setCell ?_ ?_ _); rotate_left; (focus (first | (simp; done) | (simp; omega) | omega))) | ((with_reducible refine Below.alloc ?_ ?_ _); rotate_left; (focus (first | (simp; done) | (simp; omega) | omega))) | ((with_reducible apply below_step1); (focus (with_reducible assumption)))))))).mono ?_; rintro e w7 ⟨rfl, hb7⟩; rw [HV2.out])
        | (go_at_call 18; refine (xvalidE _ _ _ _ _ (by have := L4.out; unfold maxLen; omega) (by exact r4.to (by (repeat (first | (with_reducible exact Below.refl _ _) | (with_reducible assumption) | (with_reducible refine Below.drew ?_) | (with_reducible refine below_drewN ?_ _) | ((with_reducible refine Below.setCell ?_ ?_ _); rotate_left; (focus (first | (simp; done) | (simp; omega) | omega))) | ((with_reducible refine Below.alloc ?_ ?_ _); rotate_left; (focus (first | (simp; done) | (simp; omega) | omega))) | ((with_reducible apply below_step1); (focus (with_reducible assumption)))))))).mono ?_; rintro e w9 ⟨rfl, hb9⟩; rw [HV2.out])
        | (go_at_call 20; refine (awake_c _ (by exact hG.below (by (repeat (first | (with_reducible exact Below.refl _ _) | (with_reducible assumption) | (with_reducible refine Below.drew ?_) | (with_reducible refine below_drewN ?_ _) | ((with_reducible refine Below.setCell ?_ ?_ _); rotate_left; (focus (first | (simp; done) | (simp; omega) | omega))) | ((with_reducible refine Below.alloc ?_ ?_ _); rotate_left; (focus (first | (simp; done) | (simp; omega) | omega))) | ((with_reducible apply below_step1); (focus (with_reducible assumption)))))))).mono ?_; rintro e w8 ⟨rfl, hb8⟩))
      go_ret
      exact ⟨rfl, by (repeat (first | (with_reducible exact Below.refl _ _) | (with_reducible assumption) | (with_reducible refine Below.drew ?_) | (with_reducible refine below_drewN ?_ _) | ((with_reducible refine Below.setCell ?_ ?_ _); rotate_left; (focus (first | (simp; done) | (simp; omega) | omega))) | ((with_reducible refine Below.alloc ?_ ?_ _); rotate_left; (focus (first | (simp; done) | (simp; omega) | omega))) | ((with_reducible apply below_step1); (focus (with_reducible assumption)))))⟩
end Go.Proofs.YtojcabnjodfdmaaDoor
