/- Contracts of the program's small operators: truth values, and, or, numbers, the operators that can have a value although an operand is null. No condition. -/
import Derived.Test.YtojcabnjodfdmaaDoorXEval
import Derived.Test.YtojcabnjodfdmaaDoorVeq
import Derived.Laws.StructEq
import Derived.Deep.DeepCutAuto
import Derived.Deep.RegionWith
import Derived.Deep.Light
namespace Go.Proofs.YtojcabnjodfdmaaDoor
open Go.RowKit

set_option maxHeartbeats 400000 in
theorem isTrue_c (v : V) (w : World) : Calls Tryd.prog 52 #[.agg #[.int .i64 v.k, .int .i64 v.n, .string v.s]] w fun e w' => e = .returned (.bool (isTrueV v)) ∧ Below w.heap.size w w' := by
  go_enter Tryd.func52, Tryd.ntmps52
  go_wp2
  all_goals go_ret
  all_goals refine ⟨ret_bool ?_, by (repeat (first | (with_reducible exact Below.refl _ _) | (with_reducible assumption) | (with_reducible refine Below.drew ?_) | (with_reducible refine below_drewN ?_ _) | ((with_reducible refine Below.setCell ?_ ?_ _); rotate_left; (focus (first | (simp; done) | (simp; omega) | omega))) | ((with_reducible refine Below.alloc ?_ ?_ _); rotate_left; (focus (first | (simp; done) | (simp; omega) | omega))) | ((with_reducible apply below_step1); (focus (with_reducible assumption)))))⟩
  all_goals simp_all [isTrueV]
set_option maxHeartbeats 400000 in
theorem isFalse_c (v : V) (w : World) : Calls Tryd.prog 97 #[.agg #[.int .i64 v.k, .int .i64 v.n, .string v.s]] w fun e w' => e = .returned (.bool (isFalseV v)) ∧ Below w.heap.size w w' := by
  go_enter Tryd.func97, Tryd.ntmps97
  go_wp2
  all_goals go_ret
  all_goals refine ⟨ret_bool ?_, by (repeat (first | (with_reducible exact Below.refl _ _) | (with_reducible assumption) | (with_reducible refine Below.drew ?_) | (with_reducible refine below_drewN ?_ _) | ((with_reducible refine Below.setCell ?_ ?_ _); rotate_left; (focus (first | (simp; done) | (simp; omega) | omega))) | ((with_reducible refine Below.alloc ?_ ?_ _); rotate_left; (focus (first | (simp; done) | (simp; omega) | omega))) | ((with_reducible apply below_step1); (focus (with_reducible assumption)))))⟩
  all_goals simp_all [isFalseV]
set_option maxHeartbeats 400000 in
theorem number_c (n : Int) (w : World) : Calls Tryd.prog 83 #[.int .i64 n] w fun e w' => e = .returned (.agg #[.int .i64 (numV n).k, .int .i64 (numV n).n, .string (numV n).s]) ∧ Below w.heap.size w w' := by
  go_enter Tryd.func83, Tryd.ntmps83
  go_wp2_with (go_at_call 79; refine (vclean ⟨1, n, ⟨#[]⟩⟩ _).mono ?_; rintro e w1 ⟨rfl, hb1⟩; obtain ⟨hc1, hf1⟩ := bcell hb1; have hz1 := (hb1).size; try simp at hz1)
  refine bodyPost_ret (by simp [results, Tryd.results83, go_sem, hc1]; rfl) rfl ?_
  exact ⟨rfl, by (repeat (first | (with_reducible exact Below.refl _ _) | (with_reducible assumption) | (with_reducible refine Below.drew ?_) | (with_reducible refine below_drewN ?_ _) | ((with_reducible refine Below.setCell ?_ ?_ _); rotate_left; (focus (first | (simp; done) | (simp; omega) | omega))) | ((with_reducible refine Below.alloc ?_ ?_ _); rotate_left; (focus (first | (simp; done) | (simp; omega) | omega))) | ((with_reducible apply below_step1); (focus (with_reducible assumption)))))⟩
set_option maxHeartbeats 400000 in
theorem truth_c (b : Bool) (w : World) : Calls Tryd.prog 82 #[.bool b] w fun e w' => e = .returned (.agg #[.int .i64 (truthV b).k, .int .i64 (truthV b).n, .string (truthV b).s]) ∧ Below w.heap.size w w' := by
  cases b
  all_goals go_enter Tryd.func82, Tryd.ntmps82
  all_goals go_wp2_with (go_at_call 83; refine (number_c _ _).mono ?_; rintro e w1 ⟨rfl, hb1⟩; obtain ⟨hc1, hf1⟩ := bcell hb1; have hz1 := (hb1).size; try simp at hz1)
  all_goals refine bodyPost_ret (by simp [results, Tryd.results82, go_sem, hc1]; rfl) rfl ?_
  all_goals exact ⟨rfl, by (repeat (first | (with_reducible exact Below.refl _ _) | (with_reducible assumption) | (with_reducible refine Below.drew ?_) | (with_reducible refine below_drewN ?_ _) | ((with_reducible refine Below.setCell ?_ ?_ _); rotate_left; (focus (first | (simp; done) | (simp; omega) | omega))) | ((with_reducible refine Below.alloc ?_ ?_ _); rotate_left; (focus (first | (simp; done) | (simp; omega) | omega))) | ((with_reducible apply below_step1); (focus (with_reducible assumption)))))⟩
set_option maxRecDepth 100000 in
set_option maxHeartbeats 1000000 in
theorem and_c (a b : V) (w : World) : Calls Tryd.prog 80 #[.agg #[.int .i64 a.k, .int .i64 a.n, .string a.s], .agg #[.int .i64 b.k, .int .i64 b.n, .string b.s]] w fun e w' => e = .returned (.agg #[.int .i64 (andV a b).k, .int .i64 (andV a b).n, .string (andV a b).s]) ∧ Below w.heap.size w w' := by
  have F1 := isFalse_c a
  have F2 := isFalse_c b
  have T1 := isTrue_c a
  have T2 := isTrue_c b
  have HE := Lib.hid (show andV a b = if (isFalseV a || isFalseV b) = true then truthV false else if (isTrueV a && isTrueV b) = true then truthV true else V.null from rfl)
  generalize andV a b = r at HE
  generalize isFalseV a = fa at F1 HE
  generalize isFalseV b = fb at F2 HE
  generalize isTrueV a = ta at T1 HE
  generalize isTrueV b = tb at T2 HE
  cases fa
  · cases fb
    · cases ta
      · have HR := Lib.hid (show r = V.null from HE.out)
        go_enter Tryd.func80, Tryd.ntmps80
        go_wp2_with (first
            | (go_at_call_of 97 (Value.agg #[.int .i64 a.k, .int .i64 a.n, .string a.s]); refine (F1 _).mono ?_; rintro e w1 ⟨rfl, hb1⟩; obtain ⟨hc1, hf1⟩ := bcell hb1; have hz1 := (hb1).size; (try simp at hz1); have hl10 : w.heap.size < w1.heap.size := (by omega); have hl11 : w.heap.size + 1 < w1.heap.size := (by omega); have hl12 : w.heap.size + 1 + 1 < w1.heap.size := (by omega)) | (go_at_call_of 97 (Value.agg #[.int .i64 b.k, .int .i64 b.n, .string b.s]); refine (F2 _).mono ?_; rintro e w1 ⟨rfl, hb1⟩; obtain ⟨hc1, hf1⟩ := bcell hb1; have hz1 := (hb1).size; (try simp at hz1); have hl10 : w.heap.size < w1.heap.size := (by omega); have hl11 : w.heap.size + 1 < w1.heap.size := (by omega); have hl12 : w.heap.size + 1 + 1 < w1.heap.size := (by omega))
            | (go_at_call_of 52 (Value.agg #[.int .i64 a.k, .int .i64 a.n, .string a.s]); refine (T1 _).mono ?_; rintro e w1 ⟨rfl, hb1⟩; obtain ⟨hc1, hf1⟩ := bcell hb1; have hz1 := (hb1).size; (try simp at hz1); have hl10 : w.heap.size < w1.heap.size := (by omega); have hl11 : w.heap.size + 1 < w1.heap.size := (by omega); have hl12 : w.heap.size + 1 + 1 < w1.heap.size := (by omega)) | (go_at_call_of 52 (Value.agg #[.int .i64 b.k, .int .i64 b.n, .string b.s]); refine (T2 _).mono ?_; rintro e w1 ⟨rfl, hb1⟩; obtain ⟨hc1, hf1⟩ := bcell hb1; have hz1 := (hb1).size; (try simp at hz1); have hl10 : w.heap.size < w1.heap.size := (by omega); have hl11 : w.heap.size + 1 < w1.heap.size := (by omega); have hl12 : w.heap.size + 1 + 1 < w1.heap.size := (by omega))
            | (go_at_call 82; refine (truth_c _ _).mono ?_; rintro e w1 ⟨rfl, hb1⟩; obtain ⟨hc1, hf1⟩ := bcell hb1; have hz1 := (hb1).size; (try simp at hz1); have hl10 : w.heap.size < w1.heap.size := (by omega); have hl11 : w.heap.size + 1 < w1.heap.size := (by omega); have hl12 : w.heap.size + 1 + 1 < w1.heap.size := (by omega)))
        refine bodyPost_ret (by simp [results, Tryd.results80, go_sem, *]; rfl) rfl ?_
        rw [HR.out]
        exact ⟨rfl, by (repeat (first | (with_reducible exact Below.refl _ _) | (with_reducible assumption) | (with_reducible refine Below.drew ?_) | (with_reducible refine below_drewN ?_ _) | ((with_reducible refine Below.setCell ?_ ?_ _); rotate_left; (focus (first | (simp; done) | (simp; omega) | omega))) | ((with_reducible refine Below.alloc ?_ ?_ _); rotate_left; (focus (first | (simp; done) | (simp; omega) | omega))) | ((with_reducible apply below_step1); (focus (with_reducible assumption)))))⟩
      · cases tb
        · have HR := Lib.hid (show r = V.null from HE.out)
          go_enter Tryd.func80, Tryd.ntmps80
          go_wp2_with (first
              | (go_at_call_of 97 (Value.agg #[.int .i64 a.k, .int .i64 a.n, .string a.s]); refine (F1 _).mono ?_; rintro e w1 ⟨rfl, hb1⟩; obtain ⟨hc1, hf1⟩ := bcell hb1; have hz1 := (hb1).size; (try simp at hz1); have hl10 : w.heap.size < w1.heap.size := (by omega); have hl11 : w.heap.size + 1 < w1.heap.size := (by omega); have hl12 : w.heap.size + 1 + 1 < w1.heap.size := (by omega)) | (go_at_call_of 97 (Value.agg #[.int .i64 b.k, .int .i64 b.n, .string b.s]); refine (F2 _).mono ?_; rintro e w1 ⟨rfl, hb1⟩; obtain ⟨hc1, hf1⟩ := bcell hb1; have hz1 := (hb1).size; (try simp at hz1); have hl10 : w.heap.size < w1.heap.size := (by omega); have hl11 : w.heap.size + 1 < w1.heap.size := (by omega); have hl12 : w.heap.size + 1 + 1 < w1.heap.size := (by omega))
              | (go_at_call_of 52 (Value.agg #[.int .i64 a.k, .int .i64 a.n, .string a.s]); refine (T1 _).mono ?_; rintro e w1 ⟨rfl, hb1⟩; obtain ⟨hc1, hf1⟩ := bcell hb1; have hz1 := (hb1).size; (try simp at hz1); have hl10 : w.heap.size < w1.heap.size := (by omega); have hl11 : w.heap.size + 1 < w1.heap.size := (by omega); have hl12 : w.heap.size + 1 + 1 < w1.heap.size := (by omega)) | (go_at_call_of 52 (Value.agg #[.int .i64 b.k, .int .i64 b.n, .string b.s]); refine (T2 _).mono ?_; rintro e w1 ⟨rfl, hb1⟩; obtain ⟨hc1, hf1⟩ := bcell hb1; have hz1 := (hb1).size; (try simp at hz1); have hl10 : w.heap.size < w1.heap.size := (by omega); have hl11 : w.heap.size + 1 < w1.heap.size := (by omega); have hl12 : w.heap.size + 1 + 1 < w1.heap.size := (by omega))
              | (go_at_call 82; refine (truth_c _ _).mono ?_; rintro e w1 ⟨rfl, hb1⟩; obtain ⟨hc1, hf1⟩ := bcell hb1; have hz1 := (hb1).size; (try simp at hz1); have hl10 : w.heap.size < w1.heap.size := (by omega); have hl11 : w.heap.size + 1 < w1.heap.size := (by omega); have hl12 : w.heap.size + 1 + 1 < w1.heap.size := (by omega)))
          refine bodyPost_ret (by simp [results, Tryd.results80, go_sem, *]; rfl) rfl ?_
          rw [HR.out]
          exact ⟨rfl, by (repeat (first | (with_reducible exact Below.refl _ _) | (with_reducible assumption) | (with_reducible refine Below.drew ?_) | (with_reducible refine below_drewN ?_ _) | ((with_reducible refine Below.setCell ?_ ?_ _); rotate_left; (focus (first | (simp; done) | (simp; omega) | omega))) | ((with_reducible refine Below.alloc ?_ ?_ _); rotate_left; (focus (first | (simp; done) | (simp; omega) | omega))) | ((with_reducible apply below_step1); (focus (with_reducible assumption)))))⟩
        · have HR := Lib.hid (show r = truthV true from HE.out)
          go_enter Tryd.func80, Tryd.ntmps80
          go_wp2_with (first
              | (go_at_call_of 97 (Value.agg #[.int .i64 a.k, .int .i64 a.n, .string a.s]); refine (F1 _).mono ?_; rintro e w1 ⟨rfl, hb1⟩; obtain ⟨hc1, hf1⟩ := bcell hb1; have hz1 := (hb1).size; (try simp at hz1); have hl10 : w.heap.size < w1.heap.size := (by omega); have hl11 : w.heap.size + 1 < w1.heap.size := (by omega); have hl12 : w.heap.size + 1 + 1 < w1.heap.size := (by omega)) | (go_at_call_of 97 (Value.agg #[.int .i64 b.k, .int .i64 b.n, .string b.s]); refine (F2 _).mono ?_; rintro e w1 ⟨rfl, hb1⟩; obtain ⟨hc1, hf1⟩ := bcell hb1; have hz1 := (hb1).size; (try simp at hz1); have hl10 : w.heap.size < w1.heap.size := (by omega); have hl11 : w.heap.size + 1 < w1.heap.size := (by omega); have hl12 : w.heap.size + 1 + 1 < w1.heap.size := (by omega))
              | (go_at_call_of 52 (Value.agg #[.int .i64 a.k, .int .i64 a.n, .string a.s]); refine (T1 _).mono ?_; rintro e w1 ⟨rfl, hb1⟩; obtain ⟨hc1, hf1⟩ := bcell hb1; have hz1 := (hb1).size; (try simp at hz1); have hl10 : w.heap.size < w1.heap.size := (by omega); have hl11 : w.heap.size + 1 < w1.heap.size := (by omega); have hl12 : w.heap.size + 1 + 1 < w1.heap.size := (by omega)) | (go_at_call_of 52 (Value.agg #[.int .i64 b.k, .int .i64 b.n, .string b.s]); refine (T2 _).mono ?_; rintro e w1 ⟨rfl, hb1⟩; obtain ⟨hc1, hf1⟩ := bcell hb1; have hz1 := (hb1).size; (try simp at hz1); have hl10 : w.heap.size < w1.heap.size := (by omega); have hl11 : w.heap.size + 1 < w1.heap.size := (by omega); have hl12 : w.heap.size + 1 + 1 < w1.heap.size := (by omega))
              | (go_at_call 82; refine (truth_c _ _).mono ?_; rintro e w1 ⟨rfl, hb1⟩; obtain ⟨hc1, hf1⟩ := bcell hb1; have hz1 := (hb1).size; (try simp at hz1); have hl10 : w.heap.size < w1.heap.size := (by omega); have hl11 : w.heap.size + 1 < w1.heap.size := (by omega); have hl12 : w.heap.size + 1 + 1 < w1.heap.size := (by omega)))
          refine bodyPost_ret (by simp [results, Tryd.results80, go_sem, *]; rfl) rfl ?_
          rw [HR.out]
          exact ⟨rfl, by (repeat (first | (with_reducible exact Below.refl _ _) | (with_reducible assumption) | (with_reducible refine Below.drew ?_) | (with_reducible refine below_drewN ?_ _) | ((with_reducible refine Below.setCell ?_ ?_ _); rotate_left; (focus (first | (simp; done) | (simp; omega) | omega))) | ((with_reducible refine Below.alloc ?_ ?_ _); rotate_left; (focus (first | (simp; done) | (simp; omega) | omega))) | ((with_reducible apply below_step1); (focus (with_reducible assumption)))))⟩
    · have HR := Lib.hid (show r = truthV false from HE.out)
      go_enter Tryd.func80, Tryd.ntmps80
      go_wp2_with (first
          | (go_at_call_of 97 (Value.agg #[.int .i64 a.k, .int .i64 a.n, .string a.s]); refine (F1 _).mono ?_; rintro e w1 ⟨rfl, hb1⟩; obtain ⟨hc1, hf1⟩ := bcell hb1; have hz1 := (hb1).size; (try simp at hz1); have hl10 : w.heap.size < w1.heap.size := (by omega); have hl11 : w.heap.size + 1 < w1.heap.size := (by omega); have hl12 : w.heap.size + 1 + 1 < w1.heap.size := (by omega)) | (go_at_call_of 97 (Value.agg #[.int .i64 b.k, .int .i64 b.n, .string b.s]); refine (F2 _).mono ?_; rintro e w1 ⟨rfl, hb1⟩; obtain ⟨hc1, hf1⟩ := bcell hb1; have hz1 := (hb1).size; (try simp at hz1); have hl10 : w.heap.size < w1.heap.size := (by omega); have hl11 : w.heap.size + 1 < w1.heap.size := (by omega); have hl12 : w.heap.size + 1 + 1 < w1.heap.size := (by omega))
          | (go_at_call_of 52 (Value.agg #[.int .i64 a.k, .int .i64 a.n, .string a.s]); refine (T1 _).mono ?_; rintro e w1 ⟨rfl, hb1⟩; obtain ⟨hc1, hf1⟩ := bcell hb1; have hz1 := (hb1).size; (try simp at hz1); have hl10 : w.heap.size < w1.heap.size := (by omega); have hl11 : w.heap.size + 1 < w1.heap.size := (by omega); have hl12 : w.heap.size + 1 + 1 < w1.heap.size := (by omega)) | (go_at_call_of 52 (Value.agg #[.int .i64 b.k, .int .i64 b.n, .string b.s]); refine (T2 _).mono ?_; rintro e w1 ⟨rfl, hb1⟩; obtain ⟨hc1, hf1⟩ := bcell hb1; have hz1 := (hb1).size; (try simp at hz1); have hl10 : w.heap.size < w1.heap.size := (by omega); have hl11 : w.heap.size + 1 < w1.heap.size := (by omega); have hl12 : w.heap.size + 1 + 1 < w1.heap.size := (by omega))
          | (go_at_call 82; refine (truth_c _ _).mono ?_; rintro e w1 ⟨rfl, hb1⟩; obtain ⟨hc1, hf1⟩ := bcell hb1; have hz1 := (hb1).size; (try simp at hz1); have hl10 : w.heap.size < w1.heap.size := (by omega); have hl11 : w.heap.size + 1 < w1.heap.size := (by omega); have hl12 : w.heap.size + 1 + 1 < w1.heap.size := (by omega)))
      refine bodyPost_ret (by simp [results, Tryd.results80, go_sem, *]; rfl) rfl ?_
      rw [HR.out]
      exact ⟨rfl, by (repeat (first | (with_reducible exact Below.refl _ _) | (with_reducible assumption) | (with_reducible refine Below.drew ?_) | (with_reducible refine below_drewN ?_ _) | ((with_reducible refine Below.setCell ?_ ?_ _); rotate_left; (focus (first | (simp; done) | (simp; omega) | omega))) | ((with_reducible refine Below.alloc ?_ ?_ _); rotate_left; (focus (first | (simp; done) | (simp; omega) | omega))) | ((with_reducible apply below_step1); (focus (with_reducible assumption)))))⟩
  · have HR := Lib.hid (show r = truthV false from HE.out)
    go_enter Tryd.func80, Tryd.ntmps80
    go_wp2_with (first
        | (go_at_call_of 97 (Value.agg #[.int .i64 a.k, .int .i64 a.n, .string a.s]); refine (F1 _).mono ?_; rintro e w1 ⟨rfl, hb1⟩; obtain ⟨hc1, hf1⟩ := bcell hb1; have hz1 := (hb1).size; (try simp at hz1); have hl10 : w.heap.size < w1.heap.size := (by omega); have hl11 : w.heap.size + 1 < w1.heap.size := (by omega); have hl12 : w.heap.size + 1 + 1 < w1.heap.size := (by omega)) | (go_at_call_of 97 (Value.agg #[.int .i64 b.k, .int .i64 b.n, .string b.s]); refine (F2 _).mono ?_; rintro e w1 ⟨rfl, hb1⟩; obtain ⟨hc1, hf1⟩ := bcell hb1; have hz1 := (hb1).size; (try simp at hz1); have hl10 : w.heap.size < w1.heap.size := (by omega); have hl11 : w.heap.size + 1 < w1.heap.size := (by omega); have hl12 : w.heap.size + 1 + 1 < w1.heap.size := (by omega))
        | (go_at_call_of 52 (Value.agg #[.int .i64 a.k, .int .i64 a.n, .string a.s]); refine (T1 _).mono ?_; rintro e w1 ⟨rfl, hb1⟩; obtain ⟨hc1, hf1⟩ := bcell hb1; have hz1 := (hb1).size; (try simp at hz1); have hl10 : w.heap.size < w1.heap.size := (by omega); have hl11 : w.heap.size + 1 < w1.heap.size := (by omega); have hl12 : w.heap.size + 1 + 1 < w1.heap.size := (by omega)) | (go_at_call_of 52 (Value.agg #[.int .i64 b.k, .int .i64 b.n, .string b.s]); refine (T2 _).mono ?_; rintro e w1 ⟨rfl, hb1⟩; obtain ⟨hc1, hf1⟩ := bcell hb1; have hz1 := (hb1).size; (try simp at hz1); have hl10 : w.heap.size < w1.heap.size := (by omega); have hl11 : w.heap.size + 1 < w1.heap.size := (by omega); have hl12 : w.heap.size + 1 + 1 < w1.heap.size := (by omega))
        | (go_at_call 82; refine (truth_c _ _).mono ?_; rintro e w1 ⟨rfl, hb1⟩; obtain ⟨hc1, hf1⟩ := bcell hb1; have hz1 := (hb1).size; (try simp at hz1); have hl10 : w.heap.size < w1.heap.size := (by omega); have hl11 : w.heap.size + 1 < w1.heap.size := (by omega); have hl12 : w.heap.size + 1 + 1 < w1.heap.size := (by omega)))
    refine bodyPost_ret (by simp [results, Tryd.results80, go_sem, *]; rfl) rfl ?_
    rw [HR.out]
    exact ⟨rfl, by (repeat (first | (with_reducible exact Below.refl _ _) | (with_reducible assumption) | (with_reducible refine Below.drew ?_) | (with_reducible refine below_drewN ?_ _) | ((with_reducible refine Below.setCell ?_ ?_ _); rotate_left; (focus (first | (simp; done) | (simp; omega) | omega))) | ((with_reducible refine Below.alloc ?_ ?_ _); rotate_left; (focus (first | (simp; done) | (simp; omega) | omega))) | ((with_reducible apply below_step1); (focus (with_reducible assumption)))))⟩
set_option maxRecDepth 100000 in
set_option maxHeartbeats 1000000 in
theorem or_c (a b : V) (w : World) : Calls Tryd.prog 81 #[.agg #[.int .i64 a.k, .int .i64 a.n, .string a.s], .agg #[.int .i64 b.k, .int .i64 b.n, .string b.s]] w fun e w' => e = .returned (.agg #[.int .i64 (orV a b).k, .int .i64 (orV a b).n, .string (orV a b).s]) ∧ Below w.heap.size w w' := by
  have F1 := isTrue_c a
  have F2 := isTrue_c b
  have T1 := isFalse_c a
  have T2 := isFalse_c b
  have HE := Lib.hid (show orV a b = if (isTrueV a || isTrueV b) = true then truthV true else if (isFalseV a && isFalseV b) = true then truthV false else V.null from rfl)
  generalize orV a b = r at HE
  generalize isTrueV a = fa at F1 HE
  generalize isTrueV b = fb at F2 HE
  generalize isFalseV a = ta at T1 HE
  generalize isFalseV b = tb at T2 HE
  cases fa
  · cases fb
    · cases ta
      · have HR := Lib.hid (show r = V.null from HE.out)
        go_enter Tryd.func81, Tryd.ntmps81
        go_wp2_with (first
            | (go_at_call_of 52 (Value.agg #[.int .i64 a.k, .int .i64 a.n, .string a.s]); refine (F1 _).mono ?_; rintro e w1 ⟨rfl, hb1⟩; obtain ⟨hc1, hf1⟩ := bcell hb1; have hz1 := (hb1).size; (try simp at hz1); have hl10 : w.heap.size < w1.heap.size := (by omega); have hl11 : w.heap.size + 1 < w1.heap.size := (by omega); have hl12 : w.heap.size + 1 + 1 < w1.heap.size := (by omega)) | (go_at_call_of 52 (Value.agg #[.int .i64 b.k, .int .i64 b.n, .string b.s]); refine (F2 _).mono ?_; rintro e w1 ⟨rfl, hb1⟩; obtain ⟨hc1, hf1⟩ := bcell hb1; have hz1 := (hb1).size; (try simp at hz1); have hl10 : w.heap.size < w1.heap.size := (by omega); have hl11 : w.heap.size + 1 < w1.heap.size := (by omega); have hl12 : w.heap.size + 1 + 1 < w1.heap.size := (by omega))
            | (go_at_call_of 97 (Value.agg #[.int .i64 a.k, .int .i64 a.n, .string a.s]); refine (T1 _).mono ?_; rintro e w1 ⟨rfl, hb1⟩; obtain ⟨hc1, hf1⟩ := bcell hb1; have hz1 := (hb1).size; (try simp at hz1); have hl10 : w.heap.size < w1.heap.size := (by omega); have hl11 : w.heap.size + 1 < w1.heap.size := (by omega); have hl12 : w.heap.size + 1 + 1 < w1.heap.size := (by omega)) | (go_at_call_of 97 (Value.agg #[.int .i64 b.k, .int .i64 b.n, .string b.s]); refine (T2 _).mono ?_; rintro e w1 ⟨rfl, hb1⟩; obtain ⟨hc1, hf1⟩ := bcell hb1; have hz1 := (hb1).size; (try simp at hz1); have hl10 : w.heap.size < w1.heap.size := (by omega); have hl11 : w.heap.size + 1 < w1.heap.size := (by omega); have hl12 : w.heap.size + 1 + 1 < w1.heap.size := (by omega))
            | (go_at_call 82; refine (truth_c _ _).mono ?_; rintro e w1 ⟨rfl, hb1⟩; obtain ⟨hc1, hf1⟩ := bcell hb1; have hz1 := (hb1).size; (try simp at hz1); have hl10 : w.heap.size < w1.heap.size := (by omega); have hl11 : w.heap.size + 1 < w1.heap.size := (by omega); have hl12 : w.heap.size + 1 + 1 < w1.heap.size := (by omega)))
        refine bodyPost_ret (by simp [results, Tryd.results81, go_sem, *]; rfl) rfl ?_
        rw [HR.out]
        exact ⟨rfl, by (repeat (first | (with_reducible exact Below.refl _ _) | (with_reducible assumption) | (with_reducible refine Below.drew ?_) | (with_reducible refine below_drewN ?_ _) | ((with_reducible refine Below.setCell ?_ ?_ _); rotate_left; (focus (first | (simp; done) | (simp; omega) | omega))) | ((with_reducible refine Below.alloc ?_ ?_ _); rotate_left; (focus (first | (simp; done) | (simp; omega) | omega))) | ((with_reducible apply below_step1); (focus (with_reducible assumption)))))⟩
      · cases tb
        · have HR := Lib.hid (show r = V.null from HE.out)
          go_enter Tryd.func81, Tryd.ntmps81
          go_wp2_with (first
              | (go_at_call_of 52 (Value.agg #[.int .i64 a.k, .int .i64 a.n, .string a.s]); refine (F1 _).mono ?_; rintro e w1 ⟨rfl, hb1⟩; obtain ⟨hc1, hf1⟩ := bcell hb1; have hz1 := (hb1).size; (try simp at hz1); have hl10 : w.heap.size < w1.heap.size := (by omega); have hl11 : w.heap.size + 1 < w1.heap.size := (by omega); have hl12 : w.heap.size + 1 + 1 < w1.heap.size := (by omega)) | (go_at_call_of 52 (Value.agg #[.int .i64 b.k, .int .i64 b.n, .string b.s]); refine (F2 _).mono ?_; rintro e w1 ⟨rfl, hb1⟩; obtain ⟨hc1, hf1⟩ := bcell hb1; have hz1 := (hb1).size; (try simp at hz1); have hl10 : w.heap.size < w1.heap.size := (by omega); have hl11 : w.heap.size + 1 < w1.heap.size := (by omega); have hl12 : w.heap.size + 1 + 1 < w1.heap.size := (by omega))
              | (go_at_call_of 97 (Value.agg #[.int .i64 a.k, .int .i64 a.n, .string a.s]); refine (T1 _).mono ?_; rintro e w1 ⟨rfl, hb1⟩; obtain ⟨hc1, hf1⟩ := bcell hb1; have hz1 := (hb1).size; (try simp at hz1); have hl10 : w.heap.size < w1.heap.size := (by omega); have hl11 : w.heap.size + 1 < w1.heap.size := (by omega); have hl12 : w.heap.size + 1 + 1 < w1.heap.size := (by omega)) | (go_at_call_of 97 (Value.agg #[.int .i64 b.k, .int .i64 b.n, .string b.s]); refine (T2 _).mono ?_; rintro e w1 ⟨rfl, hb1⟩; obtain ⟨hc1, hf1⟩ := bcell hb1; have hz1 := (hb1).size; (try simp at hz1); have hl10 : w.heap.size < w1.heap.size := (by omega); have hl11 : w.heap.size + 1 < w1.heap.size := (by omega); have hl12 : w.heap.size + 1 + 1 < w1.heap.size := (by omega))
              | (go_at_call 82; refine (truth_c _ _).mono ?_; rintro e w1 ⟨rfl, hb1⟩; obtain ⟨hc1, hf1⟩ := bcell hb1; have hz1 := (hb1).size; (try simp at hz1); have hl10 : w.heap.size < w1.heap.size := (by omega); have hl11 : w.heap.size + 1 < w1.heap.size := (by omega); have hl12 : w.heap.size + 1 + 1 < w1.heap.size := (by omega)))
          refine bodyPost_ret (by simp [results, Tryd.results81, go_sem, *]; rfl) rfl ?_
          rw [HR.out]
          exact ⟨rfl, by (repeat (first | (with_reducible exact Below.refl _ _) | (with_reducible assumption) | (with_reducible refine Below.drew ?_) | (with_reducible refine below_drewN ?_ _) | ((with_reducible refine Below.setCell ?_ ?_ _); rotate_left; (focus (first | (simp; done) | (simp; omega) | omega))) | ((with_reducible refine Below.alloc ?_ ?_ _); rotate_left; (focus (first | (simp; done) | (simp; omega) | omega))) | ((with_reducible apply below_step1); (focus (with_reducible assumption)))))⟩
        · have HR := Lib.hid (show r = truthV false from HE.out)
          go_enter Tryd.func81, Tryd.ntmps81
          go_wp2_with (first
              | (go_at_call_of 52 (Value.agg #[.int .i64 a.k, .int .i64 a.n, .string a.s]); refine (F1 _).mono ?_; rintro e w1 ⟨rfl, hb1⟩; obtain ⟨hc1, hf1⟩ := bcell hb1; have hz1 := (hb1).size; (try simp at hz1); have hl10 : w.heap.size < w1.heap.size := (by omega); have hl11 : w.heap.size + 1 < w1.heap.size := (by omega); have hl12 : w.heap.size + 1 + 1 < w1.heap.size := (by omega)) | (go_at_call_of 52 (Value.agg #[.int .i64 b.k, .int .i64 b.n, .string b.s]); refine (F2 _).mono ?_; rintro e w1 ⟨rfl, hb1⟩; obtain ⟨hc1, hf1⟩ := bcell hb1; have hz1 := (hb1).size; (try simp at hz1); have hl10 : w.heap.size < w1.heap.size := (by omega); have hl11 : w.heap.size + 1 < w1.heap.size := (by omega); have hl12 : w.heap.size + 1 + 1 < w1.heap.size := (by omega))
              | (go_at_call_of 97 (Value.agg #[.int .i64 a.k, .int .i64 a.n, .string a.s]); refine (T1 _).mono ?_; rintro e w1 ⟨rfl, hb1⟩; obtain ⟨hc1, hf1⟩ := bcell hb1; have hz1 := (hb1).size; (try simp at hz1); have hl10 : w.heap.size < w1.heap.size := (by omega); have hl11 : w.heap.size + 1 < w1.heap.size := (by omega); have hl12 : w.heap.size + 1 + 1 < w1.heap.size := (by omega)) | (go_at_call_of 97 (Value.agg #[.int .i64 b.k, .int .i64 b.n, .string b.s]); refine (T2 _).mono ?_; rintro e w1 ⟨rfl, hb1⟩; obtain ⟨hc1, hf1⟩ := bcell hb1; have hz1 := (hb1).size; (try simp at hz1); have hl10 : w.heap.size < w1.heap.size := (by omega); have hl11 : w.heap.size + 1 < w1.heap.size := (by omega); have hl12 : w.heap.size + 1 + 1 < w1.heap.size := (by omega))
              | (go_at_call 82; refine (truth_c _ _).mono ?_; rintro e w1 ⟨rfl, hb1⟩; obtain ⟨hc1, hf1⟩ := bcell hb1; have hz1 := (hb1).size; (try simp at hz1); have hl10 : w.heap.size < w1.heap.size := (by omega); have hl11 : w.heap.size + 1 < w1.heap.size := (by omega); have hl12 : w.heap.size + 1 + 1 < w1.heap.size := (by omega)))
          refine bodyPost_ret (by simp [results, Tryd.results81, go_sem, *]; rfl) rfl ?_
          rw [HR.out]
          exact ⟨rfl, by (repeat (first | (with_reducible exact Below.refl _ _) | (with_reducible assumption) | (with_reducible refine Below.drew ?_) | (with_reducible refine below_drewN ?_ _) | ((with_reducible refine Below.setCell ?_ ?_ _); rotate_left; (focus (first | (simp; done) | (simp; omega) | omega))) | ((with_reducible refine Below.alloc ?_ ?_ _); rotate_left; (focus (first | (simp; done) | (simp; omega) | omega))) | ((with_reducible apply below_step1); (focus (with_reducible assumption)))))⟩
    · have HR := Lib.hid (show r = truthV true from HE.out)
      go_enter Tryd.func81, Tryd.ntmps81
      go_wp2_with (first
          | (go_at_call_of 52 (Value.agg #[.int .i64 a.k, .int .i64 a.n, .string a.s]); refine (F1 _).mono ?_; rintro e w1 ⟨rfl, hb1⟩; obtain ⟨hc1, hf1⟩ := bcell hb1; have hz1 := (hb1).size; (try simp at hz1); have hl10 : w.heap.size < w1.heap.size := (by omega); have hl11 : w.heap.size + 1 < w1.heap.size := (by omega); have hl12 : w.heap.size + 1 + 1 < w1.heap.size := (by omega)) | (go_at_call_of 52 (Value.agg #[.int .i64 b.k, .int .i64 b.n, .string b.s]); refine (F2 _).mono ?_; rintro e w1 ⟨rfl, hb1⟩; obtain ⟨hc1, hf1⟩ := bcell hb1; have hz1 := (hb1).size; (try simp at hz1); have hl10 : w.heap.size < w1.heap.size := (by omega); have hl11 : w.heap.size + 1 < w1.heap.size := (by omega); have hl12 : w.heap.size + 1 + 1 < w1.heap.size := (by omega))
          | (go_at_call_of 97 (Value.agg #[.int .i64 a.k, .int .i64 a.n, .string a.s]); refine (T1 _).mono ?_; rintro e w1 ⟨rfl, hb1⟩; obtain ⟨hc1, hf1⟩ := bcell hb1; have hz1 := (hb1).size; (try simp at hz1); have hl10 : w.heap.size < w1.heap.size := (by omega); have hl11 : w.heap.size + 1 < w1.heap.size := (by omega); have hl12 : w.heap.size + 1 + 1 < w1.heap.size := (by omega)) | (go_at_call_of 97 (Value.agg #[.int .i64 b.k, .int .i64 b.n, .string b.s]); refine (T2 _).mono ?_; rintro e w1 ⟨rfl, hb1⟩; obtain ⟨hc1, hf1⟩ := bcell hb1; have hz1 := (hb1).size; (try simp at hz1); have hl10 : w.heap.size < w1.heap.size := (by omega); have hl11 : w.heap.size + 1 < w1.heap.size := (by omega); have hl12 : w.heap.size + 1 + 1 < w1.heap.size := (by omega))
          | (go_at_call 82; refine (truth_c _ _).mono ?_; rintro e w1 ⟨rfl, hb1⟩; obtain ⟨hc1, hf1⟩ := bcell hb1; have hz1 := (hb1).size; (try simp at hz1); have hl10 : w.heap.size < w1.heap.size := (by omega); have hl11 : w.heap.size + 1 < w1.heap.size := (by omega); have hl12 : w.heap.size + 1 + 1 < w1.heap.size := (by omega)))
      refine bodyPost_ret (by simp [results, Tryd.results81, go_sem, *]; rfl) rfl ?_
      rw [HR.out]
      exact ⟨rfl, by (repeat (first | (with_reducible exact Below.refl _ _) | (with_reducible assumption) | (with_reducible refine Below.drew ?_) | (with_reducible refine below_drewN ?_ _) | ((with_reducible refine Below.setCell ?_ ?_ _); rotate_left; (focus (first | (simp; done) | (simp; omega) | omega))) | ((with_reducible refine Below.alloc ?_ ?_ _); rotate_left; (focus (first | (simp; done) | (simp; omega) | omega))) | ((with_reducible apply below_step1); (focus (with_reducible assumption)))))⟩
  · have HR := Lib.hid (show r = truthV true from HE.out)
    go_enter Tryd.func81, Tryd.ntmps81
    go_wp2_with (first
        | (go_at_call_of 52 (Value.agg #[.int .i64 a.k, .int .i64 a.n, .string a.s]); refine (F1 _).mono ?_; rintro e w1 ⟨rfl, hb1⟩; obtain ⟨hc1, hf1⟩ := bcell hb1; have hz1 := (hb1).size; (try simp at hz1); have hl10 : w.heap.size < w1.heap.size := (by omega); have hl11 : w.heap.size + 1 < w1.heap.size := (by omega); have hl12 : w.heap.size + 1 + 1 < w1.heap.size := (by omega)) | (go_at_call_of 52 (Value.agg #[.int .i64 b.k, .int .i64 b.n, .string b.s]); refine (F2 _).mono ?_; rintro e w1 ⟨rfl, hb1⟩; obtain ⟨hc1, hf1⟩ := bcell hb1; have hz1 := (hb1).size; (try simp at hz1); have hl10 : w.heap.size < w1.heap.size := (by omega); have hl11 : w.heap.size + 1 < w1.heap.size := (by omega); have hl12 : w.heap.size + 1 + 1 < w1.heap.size := (by omega))
        | (go_at_call_of 97 (Value.agg #[.int .i64 a.k, .int .i64 a.n, .string a.s]); refine (T1 _).mono ?_; rintro e w1 ⟨rfl, hb1⟩; obtain ⟨hc1, hf1⟩ := bcell hb1; have hz1 := (hb1).size; (try simp at hz1); have hl10 : w.heap.size < w1.heap.size := (by omega); have hl11 : w.heap.size + 1 < w1.heap.size := (by omega); have hl12 : w.heap.size + 1 + 1 < w1.heap.size := (by omega)) | (go_at_call_of 97 (Value.agg #[.int .i64 b.k, .int .i64 b.n, .string b.s]); refine (T2 _).mono ?_; rintro e w1 ⟨rfl, hb1⟩; obtain ⟨hc1, hf1⟩ := bcell hb1; have hz1 := (hb1).size; (try simp at hz1); have hl10 : w.heap.size < w1.heap.size := (by omega); have hl11 : w.heap.size + 1 < w1.heap.size := (by omega); have hl12 : w.heap.size + 1 + 1 < w1.heap.size := (by omega))
        | (go_at_call 82; refine (truth_c _ _).mono ?_; rintro e w1 ⟨rfl, hb1⟩; obtain ⟨hc1, hf1⟩ := bcell hb1; have hz1 := (hb1).size; (try simp at hz1); have hl10 : w.heap.size < w1.heap.size := (by omega); have hl11 : w.heap.size + 1 < w1.heap.size := (by omega); have hl12 : w.heap.size + 1 + 1 < w1.heap.size := (by omega)))
    refine bodyPost_ret (by simp [results, Tryd.results81, go_sem, *]; rfl) rfl ?_
    rw [HR.out]
    exact ⟨rfl, by (repeat (first | (with_reducible exact Below.refl _ _) | (with_reducible assumption) | (with_reducible refine Below.drew ?_) | (with_reducible refine below_drewN ?_ _) | ((with_reducible refine Below.setCell ?_ ?_ _); rotate_left; (focus (first | (simp; done) | (simp; omega) | omega))) | ((with_reducible refine Below.alloc ?_ ?_ _); rotate_left; (focus (first | (simp; done) | (simp; omega) | omega))) | ((with_reducible apply below_step1); (focus (with_reducible assumption)))))⟩
end Go.Proofs.YtojcabnjodfdmaaDoor
