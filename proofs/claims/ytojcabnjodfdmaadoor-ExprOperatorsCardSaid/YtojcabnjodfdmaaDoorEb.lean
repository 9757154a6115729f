/- Contract of the program's validTerm. No condition. -/
import Derived.Test.YtojcabnjodfdmaaDoorEa
namespace Go.Proofs.YtojcabnjodfdmaaDoor
open Go.RowKit

set_option maxRecDepth 100000 in
set_option maxHeartbeats 1000000 in
theorem xvalidTerm (t : T) (w : World) : Calls Tryd.prog 61 #[.agg #[.int .i64 t.op, .int .i64 t.v.k, .int .i64 t.v.n, .string t.v.s, .int .i64 t.c]] w fun e w' => e = .returned (.bool t.ok) ∧ Below w.heap.size w w' := by
  have hA := xarity t.op
  have he := run_eqV t.v.k t.v.n t.v.s 0 0 ⟨#[]⟩
  rw [show eqB t.v.k t.v.n t.v.s 0 0 ⟨#[]⟩ = t.v.beq V.null from rfl] at he
  by_cases ha : arity t.op < 0
  · have HR := Lib.hid (show t.ok = false by unfold T.ok; rw [show decide (0 ≤ arity t.op) = false by simpa using ha]; rfl)
    go_enter Tryd.func61, Tryd.ntmps61
    go_wp2_with (go_at_call 16; refine (hA _).mono ?_; rintro e w1 ⟨rfl, rfl⟩)
    go_ret
    exact ⟨ret_bool HR.out.symm, by (repeat (first | (with_reducible exact Below.refl _ _) | (with_reducible assumption) | (with_reducible refine Below.drew ?_) | (with_reducible refine below_drewN ?_ _) | ((with_reducible refine Below.setCell ?_ ?_ _); rotate_left; (focus (first | (simp; done) | (simp; omega) | omega))) | ((with_reducible refine Below.alloc ?_ ?_ _); rotate_left; (focus (first | (simp; done) | (simp; omega) | omega))) | ((with_reducible apply below_step1); (focus (with_reducible assumption)))))⟩
  have hk : decide (0 ≤ arity t.op) = true := by simp; omega
  by_cases h1 : t.op = 1
  · have t1 : (t.op == 1) = true := by simpa using h1
    have HT := Lib.hid (show t.ok = (t.c == 0 && (t.v.k != 0 && t.v.ok)) by unfold T.ok; rw [hk, if_pos h1]; rfl)
    clear h1 hk
    go_enter Tryd.func61, Tryd.ntmps61
    go_wp2_with (first
      | (go_at_call 16; refine (hA _).mono ?_; rintro e w1 ⟨rfl, rfl⟩)
      | (go_at_call 78; refine (vvalid t.v _).mono ?_; rintro e w2 ⟨rfl, hb2⟩))
    all_goals go_ret
    all_goals refine ⟨ret_bool ?_, by (repeat (first | (with_reducible exact Below.refl _ _) | (with_reducible assumption) | (with_reducible refine Below.drew ?_) | (with_reducible refine below_drewN ?_ _) | ((with_reducible refine Below.setCell ?_ ?_ _); rotate_left; (focus (first | (simp; done) | (simp; omega) | omega))) | ((with_reducible refine Below.alloc ?_ ?_ _); rotate_left; (focus (first | (simp; done) | (simp; omega) | omega))) | ((with_reducible apply below_step1); (focus (with_reducible assumption)))))⟩
    all_goals rw [HT.out]
    all_goals simp_all
  have t1 : (t.op == 1) = false := by simpa using h1
  by_cases h2 : t.op = 2
  · have t2 : (t.op == 2) = true := by simpa using h2
    have HT := Lib.hid (show t.ok = (decide (0 ≤ t.c) && t.v.beq V.null) by unfold T.ok; rw [hk, if_neg h1, if_pos h2]; rfl)
    clear h1 h2 hk
    generalize t.v.beq V.null = nb at he HT
    go_enter Tryd.func61, Tryd.ntmps61
    go_wp2_with (go_at_call 16; refine (hA _).mono ?_; rintro e w1 ⟨rfl, rfl⟩)
    all_goals go_ret
    all_goals refine ⟨ret_bool ?_, by (repeat (first | (with_reducible exact Below.refl _ _) | (with_reducible assumption) | (with_reducible refine Below.drew ?_) | (with_reducible refine below_drewN ?_ _) | ((with_reducible refine Below.setCell ?_ ?_ _); rotate_left; (focus (first | (simp; done) | (simp; omega) | omega))) | ((with_reducible refine Below.alloc ?_ ?_ _); rotate_left; (focus (first | (simp; done) | (simp; omega) | omega))) | ((with_reducible apply below_step1); (focus (with_reducible assumption)))))⟩
    all_goals rw [HT.out]
    all_goals simp_all
    all_goals (intro h; exfalso; omega)
  · have t2 : (t.op == 2) = false := by simpa using h2
    have HT := Lib.hid (show t.ok = (t.c == 0 && t.v.beq V.null) by unfold T.ok; rw [hk, if_neg h1, if_neg h2]; rfl)
    clear h1 h2 hk
    generalize t.v.beq V.null = nb at he HT
    go_enter Tryd.func61, Tryd.ntmps61
    go_wp2_with (go_at_call 16; refine (hA _).mono ?_; rintro e w1 ⟨rfl, rfl⟩)
    all_goals go_ret
    all_goals refine ⟨ret_bool ?_, by (repeat (first | (with_reducible exact Below.refl _ _) | (with_reducible assumption) | (with_reducible refine Below.drew ?_) | (with_reducible refine below_drewN ?_ _) | ((with_reducible refine Below.setCell ?_ ?_ _); rotate_left; (focus (first | (simp; done) | (simp; omega) | omega))) | ((with_reducible refine Below.alloc ?_ ?_ _); rotate_left; (focus (first | (simp; done) | (simp; omega) | omega))) | ((with_reducible apply below_step1); (focus (with_reducible assumption)))))⟩
    all_goals rw [HT.out]
    all_goals simp_all
end Go.Proofs.YtojcabnjodfdmaaDoor
