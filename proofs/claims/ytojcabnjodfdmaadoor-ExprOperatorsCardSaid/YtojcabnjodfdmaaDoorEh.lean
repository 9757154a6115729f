/- Contracts of the program's ofText and compare. Texts of at most a thousand bytes. -/
import Derived.Test.YtojcabnjodfdmaaDoorEf
import Derived.Test.YtojcabnjodfdmaaDoorVc
import Derived.Test.YtojcabnjodfdmaaDoorVi
namespace Go.Proofs.YtojcabnjodfdmaaDoor
open Go.RowKit

set_option maxRecDepth 100000 in
set_option maxHeartbeats 2000000 in
theorem ofText_c (op : Int) (a b : V) (w : World) (ha : a.s.size ≤ 1000) (hb : b.s.size ≤ 1000) : Calls Tryd.prog 66 #[.int .i64 op, .agg #[.int .i64 a.k, .int .i64 a.n, .string a.s], .agg #[.int .i64 b.k, .int .i64 b.n, .string b.s]] w fun e w' => e = .returned (.agg #[.int .i64 (textV op a b).k, .int .i64 (textV op a b).n, .string (textV op a b).s]) ∧ Below w.heap.size w w' := by
  have HE := Lib.hid (show textV op a b = if a.k ≠ 2 then V.null else if op = 9 then numV a.s.size else if op = 8 ∧ b.k = 2 ∧ a.s.size + b.s.size ≤ 32 then ⟨2, 0, a.s ++ b.s⟩ else if op = 10 ∧ b.k = 1 ∧ 0 ≤ b.n then ⟨2, 0, a.s.extract 0 (min b.n a.s.size).toNat⟩ else V.null from rfl)
  generalize textV op a b = r at HE
  have hsw : IntKind.i64.wrap (a.s.size : Int) = (a.s.size : Int) := IntWalk.i64_in _ (by omega)
  have hsw2 : IntKind.i64.wrap ((a.s.size : Int) + (b.s.size : Int)) = (a.s.size : Int) + (b.s.size : Int) := IntWalk.i64_in _ (by omega)
  have hadd : ∀ w, (Op.stringOp .add a.s b.s).run Tryd.prog w = .ok (.string (a.s ++ b.s)) w := fun w => run_string_add_sum w _ _ (by omega)
  by_cases hk : a.k = 2
  case neg =>
    have tk : (a.k != 2) = true := by simpa using hk
    rw [if_pos hk] at HE
    clear hk
    go_enter Tryd.func66, Tryd.ntmps66
    go_wp2_with fail
    refine bodyPost_ret (by simp [results, Tryd.results66, go_sem, *]; rfl) rfl ?_
    rw [HE.out]
    exact ⟨rfl, by (repeat (first | (with_reducible exact Below.refl _ _) | (with_reducible assumption) | (with_reducible refine Below.drew ?_) | (with_reducible refine below_drewN ?_ _) | ((with_reducible refine Below.setCell ?_ ?_ _); rotate_left; (focus (first | (simp; done) | (simp; omega) | omega))) | ((with_reducible refine Below.alloc ?_ ?_ _); rotate_left; (focus (first | (simp; done) | (simp; omega) | omega))) | ((with_reducible apply below_step1); (focus (with_reducible assumption)))))⟩
  have tk : (a.k != 2) = false := by simpa using hk
  rw [if_neg (by simpa using hk)] at HE
  clear hk
  by_cases h9 : op = 9
  · have t9 : (op == 9) = true := by simpa using h9
    rw [if_pos h9] at HE
    clear h9
    go_enter Tryd.func66, Tryd.ntmps66
    go_wp2_with (go_at_call 83; refine (number_c _ _).mono ?_; rintro e w1 ⟨rfl, hb1⟩; obtain ⟨hc1, hf1⟩ := bcell hb1; have hz1 := (hb1).size; (try simp at hz1); have hl10 : w.heap.size < w1.heap.size := (by omega); have hl11 : w.heap.size + 1 < w1.heap.size := (by omega); have hl12 : w.heap.size + 1 + 1 < w1.heap.size := (by omega))
    refine bodyPost_ret (by simp [results, Tryd.results66, go_sem, *]; rfl) rfl ?_
    rw [HE.out]
    exact ⟨rfl, by (repeat (first | (with_reducible exact Below.refl _ _) | (with_reducible assumption) | (with_reducible refine Below.drew ?_) | (with_reducible refine below_drewN ?_ _) | ((with_reducible refine Below.setCell ?_ ?_ _); rotate_left; (focus (first | (simp; done) | (simp; omega) | omega))) | ((with_reducible refine Below.alloc ?_ ?_ _); rotate_left; (focus (first | (simp; done) | (simp; omega) | omega))) | ((with_reducible apply below_step1); (focus (with_reducible assumption)))))⟩
  have t9 : (op == 9) = false := by simpa using h9
  rw [if_neg h9] at HE
  clear h9
  by_cases h8 : op = 8
  · have t8 : (op == 8) = true := by simpa using h8
    have t10 : (op == 10) = false := by simp; omega
    rw [if_neg (show ¬ (op = 10 ∧ b.k = 1 ∧ 0 ≤ b.n) by omega)] at HE
    by_cases hk : b.k = 2
    · have tk2 : (b.k == 2) = true := by simpa using hk
      by_cases hs : a.s.size + b.s.size ≤ 32
      · have ts : (a.s.size : Int) + (b.s.size : Int) ≤ 32 := by omega
        rw [if_pos ⟨h8, hk, hs⟩] at HE
        clear h8 hk hs
        go_enter Tryd.func66, Tryd.ntmps66
        go_wp2_with fail
        refine bodyPost_ret (by simp [results, Tryd.results66, go_sem, *]; rfl) rfl ?_
        rw [HE.out]
        exact ⟨rfl, by (repeat (first | (with_reducible exact Below.refl _ _) | (with_reducible assumption) | (with_reducible refine Below.drew ?_) | (with_reducible refine below_drewN ?_ _) | ((with_reducible refine Below.setCell ?_ ?_ _); rotate_left; (focus (first | (simp; done) | (simp; omega) | omega))) | ((with_reducible refine Below.alloc ?_ ?_ _); rotate_left; (focus (first | (simp; done) | (simp; omega) | omega))) | ((with_reducible apply below_step1); (focus (with_reducible assumption)))))⟩
      · have ts : ¬ (a.s.size : Int) + (b.s.size : Int) ≤ 32 := by omega
        rw [if_neg (fun h => hs h.2.2)] at HE
        clear h8 hk hs
        go_enter Tryd.func66, Tryd.ntmps66
        go_wp2_with fail
        refine bodyPost_ret (by simp [results, Tryd.results66, go_sem, *]; rfl) rfl ?_
        rw [HE.out]
        exact ⟨rfl, by (repeat (first | (with_reducible exact Below.refl _ _) | (with_reducible assumption) | (with_reducible refine Below.drew ?_) | (with_reducible refine below_drewN ?_ _) | ((with_reducible refine Below.setCell ?_ ?_ _); rotate_left; (focus (first | (simp; done) | (simp; omega) | omega))) | ((with_reducible refine Below.alloc ?_ ?_ _); rotate_left; (focus (first | (simp; done) | (simp; omega) | omega))) | ((with_reducible apply below_step1); (focus (with_reducible assumption)))))⟩
    · have tk2 : (b.k == 2) = false := by simpa using hk
      rw [if_neg (fun h => hk h.2.1)] at HE
      clear h8 hk
      go_enter Tryd.func66, Tryd.ntmps66
      go_wp2_with fail
      refine bodyPost_ret (by simp [results, Tryd.results66, go_sem, *]; rfl) rfl ?_
      rw [HE.out]
      exact ⟨rfl, by (repeat (first | (with_reducible exact Below.refl _ _) | (with_reducible assumption) | (with_reducible refine Below.drew ?_) | (with_reducible refine below_drewN ?_ _) | ((with_reducible refine Below.setCell ?_ ?_ _); rotate_left; (focus (first | (simp; done) | (simp; omega) | omega))) | ((with_reducible refine Below.alloc ?_ ?_ _); rotate_left; (focus (first | (simp; done) | (simp; omega) | omega))) | ((with_reducible apply below_step1); (focus (with_reducible assumption)))))⟩
  have t8 : (op == 8) = false := by simpa using h8
  rw [if_neg (fun h => h8 h.1)] at HE
  clear h8
  by_cases h10 : op = 10
  · have t10 : (op == 10) = true := by simpa using h10
    by_cases hk : b.k = 1
    · have tk2 : (b.k == 1) = true := by simpa using hk
      by_cases hs : 0 ≤ b.n
      · rw [if_pos ⟨h10, hk, hs⟩] at HE
        clear h10 hk
        have hm0 : 0 ≤ min b.n (a.s.size : Int) := by omega
        have hm1 : min b.n (a.s.size : Int) ≤ (a.s.size : Int) := by omega
        have HM := Lib.hid hm0
        go_enter Tryd.func66, Tryd.ntmps66
        go_wp2_with fail
        refine bodyPost_ret (by simp [results, Tryd.results66, go_sem, *]; rfl) rfl ?_
        rw [HE.out]
        exact ⟨rfl, by (repeat (first | (with_reducible exact Below.refl _ _) | (with_reducible assumption) | (with_reducible refine Below.drew ?_) | (with_reducible refine below_drewN ?_ _) | ((with_reducible refine Below.setCell ?_ ?_ _); rotate_left; (focus (first | (simp; done) | (simp; omega) | omega))) | ((with_reducible refine Below.alloc ?_ ?_ _); rotate_left; (focus (first | (simp; done) | (simp; omega) | omega))) | ((with_reducible apply below_step1); (focus (with_reducible assumption)))))⟩
      · rw [if_neg (fun h => hs h.2.2)] at HE
        clear h10 hk
        go_enter Tryd.func66, Tryd.ntmps66
        go_wp2_with fail
        refine bodyPost_ret (by simp [results, Tryd.results66, go_sem, *]; rfl) rfl ?_
        rw [HE.out]
        exact ⟨rfl, by (repeat (first | (with_reducible exact Below.refl _ _) | (with_reducible assumption) | (with_reducible refine Below.drew ?_) | (with_reducible refine below_drewN ?_ _) | ((with_reducible refine Below.setCell ?_ ?_ _); rotate_left; (focus (first | (simp; done) | (simp; omega) | omega))) | ((with_reducible refine Below.alloc ?_ ?_ _); rotate_left; (focus (first | (simp; done) | (simp; omega) | omega))) | ((with_reducible apply below_step1); (focus (with_reducible assumption)))))⟩
    · have tk2 : (b.k == 1) = false := by simpa using hk
      rw [if_neg (fun h => hk h.2.1)] at HE
      clear h10 hk
      go_enter Tryd.func66, Tryd.ntmps66
      go_wp2_with fail
      refine bodyPost_ret (by simp [results, Tryd.results66, go_sem, *]; rfl) rfl ?_
      rw [HE.out]
      exact ⟨rfl, by (repeat (first | (with_reducible exact Below.refl _ _) | (with_reducible assumption) | (with_reducible refine Below.drew ?_) | (with_reducible refine below_drewN ?_ _) | ((with_reducible refine Below.setCell ?_ ?_ _); rotate_left; (focus (first | (simp; done) | (simp; omega) | omega))) | ((with_reducible refine Below.alloc ?_ ?_ _); rotate_left; (focus (first | (simp; done) | (simp; omega) | omega))) | ((with_reducible apply below_step1); (focus (with_reducible assumption)))))⟩
  have t10 : (op == 10) = false := by simpa using h10
  rw [if_neg (fun h => h10 h.1)] at HE
  clear h10
  go_enter Tryd.func66, Tryd.ntmps66
  go_wp2_with fail
  refine bodyPost_ret (by simp [results, Tryd.results66, go_sem, *]; rfl) rfl ?_
  rw [HE.out]
  exact ⟨rfl, by (repeat (first | (with_reducible exact Below.refl _ _) | (with_reducible assumption) | (with_reducible refine Below.drew ?_) | (with_reducible refine below_drewN ?_ _) | ((with_reducible refine Below.setCell ?_ ?_ _); rotate_left; (focus (first | (simp; done) | (simp; omega) | omega))) | ((with_reducible refine Below.alloc ?_ ?_ _); rotate_left; (focus (first | (simp; done) | (simp; omega) | omega))) | ((with_reducible apply below_step1); (focus (with_reducible assumption)))))⟩

set_option maxRecDepth 100000 in
set_option maxHeartbeats 2000000 in
theorem compare_c (op : Int) (a b : V) (w : World) : Calls Tryd.prog 67 #[.int .i64 op, .agg #[.int .i64 a.k, .int .i64 a.n, .string a.s], .agg #[.int .i64 b.k, .int .i64 b.n, .string b.s]] w fun e w' => e = .returned (.agg #[.int .i64 (compV op a b).k, .int .i64 (compV op a b).n, .string (compV op a b).s]) ∧ Below w.heap.size w w' := by
  have HE := Lib.hid (show compV op a b = if a.k = 0 ∨ a.k ≠ b.k then V.null else if op = 11 then truthV (a.beq b) else truthV (decide (cmpV a b < 0)) from rfl)
  generalize compV op a b = r at HE
  have he := run_eqV a.k a.n a.s b.k b.n b.s
  rw [show eqB a.k a.n a.s b.k b.n b.s = a.beq b from rfl] at he
  generalize a.beq b = q at he HE
  by_cases hk : a.k = 0
  · have tk : (a.k == 0) = true := by simpa using hk
    rw [if_pos (.inl hk)] at HE
    clear hk
    go_enter Tryd.func67, Tryd.ntmps67
    go_wp2_with fail
    refine bodyPost_ret (by simp [results, Tryd.results67, go_sem, *]; rfl) rfl ?_
    rw [HE.out]
    exact ⟨rfl, by (repeat (first | (with_reducible exact Below.refl _ _) | (with_reducible assumption) | (with_reducible refine Below.drew ?_) | (with_reducible refine below_drewN ?_ _) | ((with_reducible refine Below.setCell ?_ ?_ _); rotate_left; (focus (first | (simp; done) | (simp; omega) | omega))) | ((with_reducible refine Below.alloc ?_ ?_ _); rotate_left; (focus (first | (simp; done) | (simp; omega) | omega))) | ((with_reducible apply below_step1); (focus (with_reducible assumption)))))⟩
  have tk : (a.k == 0) = false := by simpa using hk
  by_cases hkk : a.k = b.k
  case neg =>
    have tkk : (a.k != b.k) = true := by simpa using hkk
    rw [if_pos (.inr hkk)] at HE
    clear hk hkk
    go_enter Tryd.func67, Tryd.ntmps67
    go_wp2_with fail
    refine bodyPost_ret (by simp [results, Tryd.results67, go_sem, *]; rfl) rfl ?_
    rw [HE.out]
    exact ⟨rfl, by (repeat (first | (with_reducible exact Below.refl _ _) | (with_reducible assumption) | (with_reducible refine Below.drew ?_) | (with_reducible refine below_drewN ?_ _) | ((with_reducible refine Below.setCell ?_ ?_ _); rotate_left; (focus (first | (simp; done) | (simp; omega) | omega))) | ((with_reducible refine Below.alloc ?_ ?_ _); rotate_left; (focus (first | (simp; done) | (simp; omega) | omega))) | ((with_reducible apply below_step1); (focus (with_reducible assumption)))))⟩
  have tkk : (a.k != b.k) = false := by simpa using hkk
  rw [if_neg (show ¬ (a.k = 0 ∨ a.k ≠ b.k) by rintro (h | h); exact hk h; exact h hkk)] at HE
  clear hk hkk
  by_cases h11 : op = 11
  · have t11 : (op == 11) = true := by simpa using h11
    rw [if_pos h11] at HE
    clear h11
    go_enter Tryd.func67, Tryd.ntmps67
    go_wp2_with (go_at_call 82; refine (truth_c _ _).mono ?_; rintro e w1 ⟨rfl, hb1⟩; obtain ⟨hc1, hf1⟩ := bcell hb1; have hz1 := (hb1).size; (try simp at hz1); have hl10 : w.heap.size < w1.heap.size := (by omega); have hl11 : w.heap.size + 1 < w1.heap.size := (by omega); have hl12 : w.heap.size + 1 + 1 < w1.heap.size := (by omega))
    refine bodyPost_ret (by simp [results, Tryd.results67, go_sem, *]; rfl) rfl ?_
    rw [HE.out]
    exact ⟨rfl, by (repeat (first | (with_reducible exact Below.refl _ _) | (with_reducible assumption) | (with_reducible refine Below.drew ?_) | (with_reducible refine below_drewN ?_ _) | ((with_reducible refine Below.setCell ?_ ?_ _); rotate_left; (focus (first | (simp; done) | (simp; omega) | omega))) | ((with_reducible refine Below.alloc ?_ ?_ _); rotate_left; (focus (first | (simp; done) | (simp; omega) | omega))) | ((with_reducible apply below_step1); (focus (with_reducible assumption)))))⟩
  · have t11 : (op == 11) = false := by simpa using h11
    rw [if_neg h11] at HE
    clear h11 he
    have hC := vcompare a b
    generalize cmpV a b = z at hC HE
    go_enter Tryd.func67, Tryd.ntmps67
    go_wp2_with (first
      | (go_at_call 84; refine (hC _).mono ?_; rintro e w1 ⟨rfl, hb1⟩; obtain ⟨hc1, hf1⟩ := bcell hb1; have hz1 := (hb1).size; (try simp at hz1); have hl10 : w.heap.size < w1.heap.size := (by omega); have hl11 : w.heap.size + 1 < w1.heap.size := (by omega); have hl12 : w.heap.size + 1 + 1 < w1.heap.size := (by omega))
      | (go_at_call 82; refine (truth_c _ _).mono ?_; rintro e w2 ⟨rfl, hb2⟩; obtain ⟨hc2, hf2⟩ := bcell hb2; have hz2 := (hb2).size; (try simp at hz2); have hl20 : w.heap.size < w2.heap.size := (by omega); have hl21 : w.heap.size + 1 < w2.heap.size := (by omega); have hl22 : w.heap.size + 1 + 1 < w2.heap.size := (by omega)))
    refine bodyPost_ret (by simp [results, Tryd.results67, go_sem, *]; rfl) rfl ?_
    rw [HE.out]
    exact ⟨rfl, by (repeat (first | (with_reducible exact Below.refl _ _) | (with_reducible assumption) | (with_reducible refine Below.drew ?_) | (with_reducible refine below_drewN ?_ _) | ((with_reducible refine Below.setCell ?_ ?_ _); rotate_left; (focus (first | (simp; done) | (simp; omega) | omega))) | ((with_reducible refine Below.alloc ?_ ?_ _); rotate_left; (focus (first | (simp; done) | (simp; omega) | omega))) | ((with_reducible apply below_step1); (focus (with_reducible assumption)))))⟩
end Go.Proofs.YtojcabnjodfdmaaDoor
