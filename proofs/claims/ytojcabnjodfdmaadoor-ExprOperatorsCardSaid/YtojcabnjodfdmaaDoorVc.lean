/- Contracts of Compare, of the program and of the reference, and of cmp.Compare at int64. No condition. -/
import Derived.Test.YtojcabnjodfdmaaDoorVeq
import Derived.Test.YtojcabnjodfdmaaDoorGrow
import Derived.Test.YtojcabnjodfdmaaDoorVSpec2
import Derived.Test.YtojcabnjodfdmaaDoorShelf
import Derived.Laws.StructEq
import Derived.Deep.DeepCutAuto
import Derived.Deep.RegionWith
import Derived.Deep.Light
namespace Go.Proofs.YtojcabnjodfdmaaDoor
open Go.RowKit

set_option maxHeartbeats 400000 in
theorem cmp64 (x y : Int) (w : World) : Calls Tryd.prog 99 #[.int .i64 x, .int .i64 y] w fun e w' => e = .returned (.int .i64 (Lib.compareInt x y)) ∧ w = w' := by
  go_enter Tryd.func99, Tryd.ntmps99
  go_wp2
  all_goals go_ret
  all_goals refine ⟨ret_int ?_, rfl⟩
  all_goals unfold Lib.compareInt
  · have h : x < y := by assumption
    rw [if_pos h]
  · have h : y ≤ x := by assumption
    have h' : y < x := by assumption
    rw [if_neg (by omega), if_pos (by omega)]
  · have h : y ≤ x := by assumption
    have h' : x ≤ y := by assumption
    rw [if_neg (by omega), if_neg (by omega)]

/-- What a statement 'a, b = Clean(a), Clean(b)' leaves. -/
def Cleaned (w wx : World) (a b : V) : Prop := Below w.heap.size w wx ∧ w.heap.size + 2 ≤ wx.heap.size ∧ wx.cell? ⟨w.heap.size, 0, none⟩ = some (.int .i64 a.cl.k) ∧ wx.cell? ⟨w.heap.size, 1, none⟩ = some (.int .i64 a.cl.n) ∧ wx.cell? ⟨w.heap.size, 2, none⟩ = some (.string a.cl.s)
   ∧ wx.cell? ⟨w.heap.size + 1, 0, none⟩ = some (.int .i64 b.cl.k) ∧ wx.cell? ⟨w.heap.size + 1, 1, none⟩ = some (.int .i64 b.cl.n) ∧ wx.cell? ⟨w.heap.size + 1, 2, none⟩ = some (.string b.cl.s)

set_option maxHeartbeats 2000000 in
set_option maxRecDepth 100000 in
theorem vcompare (a b : V) (w : World) : Calls Tryd.prog 84 #[.agg #[.int .i64 a.k, .int .i64 a.n, .string a.s], .agg #[.int .i64 b.k, .int .i64 b.n, .string b.s]] w fun e w' => e = .returned (.int .i64 (cmpV a b)) ∧ Below w.heap.size w w' := by
  have hp1 : w.heap.size < w.heap.size + 1 + 1 := by omega
  go_enter Tryd.func84, Tryd.ntmps84
  go_upto_region 1 with fail
  go_cut [] (fun wx => Cleaned w wx a b)
  case first =>
    go_region_with (first
     | (go_at_call_of 79 (Value.agg #[.int .i64 a.k, .int .i64 a.n, .string a.s]); refine (vclean a _).mono ?_; rintro e w1 ⟨rfl, hb⟩; obtain ⟨hc1, hf1⟩ := bcell hb; have hz1 := (hb).size; (try simp at hz1); have hl10 : w.heap.size < w1.heap.size := (by omega); have hl11 : w.heap.size + 1 < w1.heap.size := (by omega))
     | (go_at_call_of 79 (Value.agg #[.int .i64 b.k, .int .i64 b.n, .string b.s]); refine (vclean b _).mono ?_; rintro e w2 ⟨rfl, hb'⟩; obtain ⟨hc2, hf2⟩ := bcell hb'; have hz2 := (hb').size; (try simp at hz2); have hl20 : w.heap.size < w2.heap.size := (by omega); have hl21 : w.heap.size + 1 < w2.heap.size := (by omega)))
    all_goals go_wp2_with fail
    all_goals go_meet
    all_goals go_light
    all_goals unfold Cleaned
    all_goals refine ⟨?_, by simp; omega, by go_simp, by go_simp, by go_simp, by go_simp, by go_simp, by go_simp⟩
    all_goals (repeat (first | (with_reducible exact Below.refl _ _) | (with_reducible assumption) | (with_reducible refine Below.drew ?_) | (with_reducible refine below_drewN ?_ _) | ((with_reducible refine Below.setCell ?_ ?_ _); rotate_left; (focus (first | (simp; done) | (simp; omega) | omega))) | ((with_reducible refine Below.alloc ?_ ?_ _); rotate_left; (focus (first | (simp; done) | (simp; omega) | omega))) | ((with_reducible apply below_step1); (focus (with_reducible assumption)))))
  case rest =>
    obtain ⟨h1, h2, h3, h4, h5, h6, h7, h8⟩ := hcut
    by_cases hk : a.cl.k = b.cl.k
    · have HK := Lib.hid hk
      have hk' : (a.cl.k != b.cl.k) = false := by simpa using hk
      clear hk
      by_cases e1 : a.cl.k = 1
      · have E1 := Lib.hid e1
        have e1' : (a.cl.k == 1) = true := by simpa using e1
        clear e1
        go_wp2_with (go_at_call 99; refine (cmp64 _ _ _).mono ?_; rintro e w3 ⟨rfl, rfl⟩)
        go_ret
        exact ⟨ret_int (by unfold cmpV cmpC; rw [if_neg (by rw [HK.out]; simp), if_pos E1.out]), h1⟩
      · have E1 := Lib.hid e1
        have e1' : (a.cl.k == 1) = false := by simpa using e1
        clear e1
        by_cases e2 : a.cl.k = 2
        · have E2 := Lib.hid e2
          have e2' : (a.cl.k == 2) = true := by simpa using e2
          clear e2
          go_wp2_with (go_at_call 100; refine (Tryd.strings_Compare _ _ _).mono ?_; rintro e w3 ⟨rfl, rfl⟩)
          go_ret
          exact ⟨ret_int (by unfold cmpV cmpC; rw [if_neg (by rw [HK.out]; simp), if_neg E1.out, if_pos E2.out]), h1⟩
        · have E2 := Lib.hid e2
          have e2' : (a.cl.k == 2) = false := by simpa using e2
          clear e2
          go_wp2
          go_ret
          exact ⟨ret_int (by unfold cmpV cmpC; rw [if_neg (by rw [HK.out]; simp), if_neg E1.out, if_neg E2.out]), h1⟩
    · have HK := Lib.hid hk
      have hk' : (a.cl.k != b.cl.k) = true := by simpa using hk
      clear hk
      go_wp2_with (go_at_call 98; refine (Tryd.cmp_Compare_int _ _ _).mono ?_; rintro e w3 ⟨rfl, rfl⟩)
      go_ret
      exact ⟨ret_int (by unfold cmpV cmpC; rw [if_pos HK.out]), h1⟩

set_option maxHeartbeats 2000000 in
set_option maxRecDepth 100000 in
theorem rcompare (a b : V) (w : World) : Calls Tryd.prog 102 #[.agg #[.int .i64 a.k, .int .i64 a.n, .string a.s], .agg #[.int .i64 b.k, .int .i64 b.n, .string b.s]] w fun e w' => e = .returned (.int .i64 (cmpV a b)) ∧ Below w.heap.size w w' := by
  unfold cmpV
  rw [← cmpR_eq a.cl_ok b.cl_ok]
  have hp1 : w.heap.size < w.heap.size + 1 + 1 := by omega
  go_enter Tryd.func102, Tryd.ntmps102
  go_upto_region 1 with fail
  go_cut [] (fun wx => Cleaned w wx a b)
  case first =>
    go_region_with (first
     | (go_at_call_of 45 (Value.agg #[.int .i64 a.k, .int .i64 a.n, .string a.s]); refine (rclean a _).mono ?_; rintro e w1 ⟨rfl, hb⟩; obtain ⟨hc1, hf1⟩ := bcell hb; have hz1 := (hb).size; (try simp at hz1); have hl10 : w.heap.size < w1.heap.size := (by omega); have hl11 : w.heap.size + 1 < w1.heap.size := (by omega))
     | (go_at_call_of 45 (Value.agg #[.int .i64 b.k, .int .i64 b.n, .string b.s]); refine (rclean b _).mono ?_; rintro e w2 ⟨rfl, hb'⟩; obtain ⟨hc2, hf2⟩ := bcell hb'; have hz2 := (hb').size; (try simp at hz2); have hl20 : w.heap.size < w2.heap.size := (by omega); have hl21 : w.heap.size + 1 < w2.heap.size := (by omega)))
    all_goals go_wp2_with fail
    all_goals go_meet
    all_goals go_light
    all_goals unfold Cleaned
    all_goals refine ⟨?_, by simp; omega, by go_simp, by go_simp, by go_simp, by go_simp, by go_simp, by go_simp⟩
    all_goals (repeat (first | (with_reducible exact Below.refl _ _) | (with_reducible assumption) | (with_reducible refine Below.drew ?_) | (with_reducible refine below_drewN ?_ _) | ((with_reducible refine Below.setCell ?_ ?_ _); rotate_left; (focus (first | (simp; done) | (simp; omega) | omega))) | ((with_reducible refine Below.alloc ?_ ?_ _); rotate_left; (focus (first | (simp; done) | (simp; omega) | omega))) | ((with_reducible apply below_step1); (focus (with_reducible assumption)))))
  case rest =>
    obtain ⟨h1, h2, h3, h4, h5, h6, h7, h8⟩ := hcut
    have he := run_eqV a.cl.k a.cl.n a.cl.s b.cl.k b.cl.n b.cl.s
    by_cases hq : a.cl.beq b.cl = true
    · have he' : ∀ w, _ := fun w => (he w).trans (by rw [show eqB a.cl.k a.cl.n a.cl.s b.cl.k b.cl.n b.cl.s = true from hq])
      have HQ := Lib.hid hq
      clear hq he
      go_wp2
      go_ret
      exact ⟨ret_int (by rw [cmpR, if_pos HQ.out]), h1⟩
    · have he' : ∀ w, _ := fun w => (he w).trans (by rw [show eqB a.cl.k a.cl.n a.cl.s b.cl.k b.cl.n b.cl.s = false from eq_false_of_ne_true hq])
      have HQ := Lib.hid hq
      clear hq he
      go_wp2
      all_goals go_ret
      all_goals refine ⟨ret_int ?_, h1⟩
      all_goals rw [cmpR, if_neg HQ.out]
      · have g0 : a.cl.k = b.cl.k := by assumption
        have g1 : a.cl.n < b.cl.n ∨ Op.bytesLess a.cl.s.toList b.cl.s.toList = true := by assumption
        rw [Lib.toList_data, Lib.toList_data] at g1
        rw [if_pos (.inr ⟨g0, g1⟩)]
      · have g0 : b.cl.k ≤ a.cl.k := by assumption
        have g1 : b.cl.n ≤ a.cl.n ∧ Op.bytesLess a.cl.s.toList b.cl.s.toList = false := by assumption
        rw [Lib.toList_data, Lib.toList_data] at g1
        rw [if_neg]
        rintro (g | ⟨_, g | g⟩)
        · omega
        · omega
        · rw [g1.2] at g; cases g
      · have g0 : a.cl.k = b.cl.k := by assumption
        have g1 : a.cl.n < b.cl.n := by assumption
        rw [if_pos (.inr ⟨g0, .inl g1⟩)]
      · have g0 : b.cl.k ≤ a.cl.k := by assumption
        have g1 : ¬ a.cl.k = b.cl.k := by assumption
        rw [if_neg]
        rintro (g | ⟨g, _⟩)
        · omega
        · exact g1 g
      · have g0 : a.cl.k < b.cl.k := by assumption
        rw [if_pos (.inl g0)]
end Go.Proofs.YtojcabnjodfdmaaDoor
