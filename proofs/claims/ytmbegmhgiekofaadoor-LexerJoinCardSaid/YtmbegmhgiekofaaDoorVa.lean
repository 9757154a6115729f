/- Contracts of Valid and Clean, of the program and of the reference. No condition. -/
import Derived.Test.YtmbegmhgiekofaaDoorProg
import Derived.Test.YtmbegmhgiekofaaDoorBase
import Derived.Test.YtmbegmhgiekofaaDoorVSpec
namespace Go.Proofs.YtmbegmhgiekofaaDoor
open Go.RowKit

abbrev Row := @RowOf V V.cells
theorem Row.at3 {w : World} {B n : Nat} {A : Option Addr} {vs : List V} (h : Row w B A n vs) {k : Nat} (hk : k < n) :
   ∃ b off v, A = some ⟨b, off, none⟩ ∧ b < B ∧ vs[k]? = some v ∧ w.cell? ⟨b, off + k * 3, none⟩ = some (.int .i64 v.k) ∧ w.cell? ⟨b, off + k * 3 + 1, none⟩ = some (.int .i64 v.n) ∧ w.cell? ⟨b, off + k * 3 + 2, none⟩ = some (.string v.s) := by
  obtain ⟨b, off, v, h1, h2, h3, h4⟩ := h.at_ 3 (fun _ => rfl) (by omega) hk
  exact ⟨b, off, v, h1, h2, h3, h4 0 _ rfl, h4 1 _ rfl, h4 2 _ rfl⟩

set_option maxHeartbeats 400000 in
theorem vvalid (v : V) (w : World) : Calls Tryd.prog 79 #[.agg #[.int .i64 v.k, .int .i64 v.n, .string v.s]] w fun e w' => e = .returned (.bool v.ok) ∧ Below w.heap.size w w' := by
  go_enter Tryd.func79, Tryd.ntmps79
  go_wp2
  all_goals go_ret
  all_goals refine ⟨ret_bool ?_, (Below.refl _ _).alloc (Nat.le_refl _) _⟩
  all_goals simp_all [V.ok, toList_isEmpty]
  all_goals omega
set_option maxHeartbeats 400000 in
theorem rvalid (v : V) (w : World) : Calls Tryd.prog 58 #[.agg #[.int .i64 v.k, .int .i64 v.n, .string v.s]] w fun e w' => e = .returned (.bool v.ok) ∧ Below w.heap.size w w' := by
  go_enter Tryd.func58, Tryd.ntmps58
  go_wp2
  all_goals go_ret
  all_goals refine ⟨ret_bool ?_, (Below.refl _ _).alloc (Nat.le_refl _) _⟩
  all_goals simp_all [V.ok, toList_isEmpty]
  all_goals omega
set_option maxHeartbeats 400000 in
theorem vclean (v : V) (w : World) : Calls Tryd.prog 66 #[.agg #[.int .i64 v.k, .int .i64 v.n, .string v.s]] w fun e w' => e = .returned (.agg #[.int .i64 v.cl.k, .int .i64 v.cl.n, .string v.cl.s]) ∧ Below w.heap.size w w' := by
  generalize hv : v.ok = b
  have HV := Lib.hid hv
  cases b
  · rw [V.cl_not hv]
    clear hv
    go_enter Tryd.func66, Tryd.ntmps66
    go_wp2_with (go_at_call 79; refine (vvalid v _).mono ?_; rintro e w1 ⟨rfl, hb⟩; rw [HV.out]; obtain ⟨hc1, hf1⟩ := bcell hb; have hz1 := (hb).size; try simp at hz1)
    refine bodyPost_ret (by simp [results, Tryd.results66, go_sem, hc1]; rfl) rfl ?_
    exact ⟨rfl, by (repeat (first | (with_reducible exact Below.refl _ _) | (with_reducible assumption) | (with_reducible refine Below.drew ?_) | (with_reducible refine below_drewN ?_ _) | ((with_reducible refine Below.setCell ?_ ?_ _); rotate_left; (focus (first | (simp; done) | (simp; omega) | omega))) | ((with_reducible refine Below.alloc ?_ ?_ _); rotate_left; (focus (first | (simp; done) | (simp; omega) | omega))) | ((with_reducible apply below_step1); (focus (with_reducible assumption)))))⟩
  · rw [V.cl_of hv]
    clear hv
    go_enter Tryd.func66, Tryd.ntmps66
    go_wp2_with (go_at_call 79; refine (vvalid v _).mono ?_; rintro e w1 ⟨rfl, hb⟩; rw [HV.out]; obtain ⟨hc1, hf1⟩ := bcell hb; have hz1 := (hb).size; try simp at hz1)
    refine bodyPost_ret (by simp [results, Tryd.results66, go_sem, hc1]; rfl) rfl ?_
    exact ⟨rfl, by (repeat (first | (with_reducible exact Below.refl _ _) | (with_reducible assumption) | (with_reducible refine Below.drew ?_) | (with_reducible refine below_drewN ?_ _) | ((with_reducible refine Below.setCell ?_ ?_ _); rotate_left; (focus (first | (simp; done) | (simp; omega) | omega))) | ((with_reducible refine Below.alloc ?_ ?_ _); rotate_left; (focus (first | (simp; done) | (simp; omega) | omega))) | ((with_reducible apply below_step1); (focus (with_reducible assumption)))))⟩
set_option maxHeartbeats 400000 in
theorem rclean (v : V) (w : World) : Calls Tryd.prog 37 #[.agg #[.int .i64 v.k, .int .i64 v.n, .string v.s]] w fun e w' => e = .returned (.agg #[.int .i64 v.cl.k, .int .i64 v.cl.n, .string v.cl.s]) ∧ Below w.heap.size w w' := by
  generalize hv : v.ok = b
  have HV := Lib.hid hv
  cases b
  · rw [V.cl_not hv]
    clear hv
    go_enter Tryd.func37, Tryd.ntmps37
    go_wp2_with (go_at_call 58; refine (rvalid v _).mono ?_; rintro e w1 ⟨rfl, hb⟩; rw [HV.out]; obtain ⟨hc1, hf1⟩ := bcell hb; have hz1 := (hb).size; try simp at hz1)
    refine bodyPost_ret (by simp [results, Tryd.results37, go_sem, hc1]; rfl) rfl ?_
    exact ⟨rfl, by (repeat (first | (with_reducible exact Below.refl _ _) | (with_reducible assumption) | (with_reducible refine Below.drew ?_) | (with_reducible refine below_drewN ?_ _) | ((with_reducible refine Below.setCell ?_ ?_ _); rotate_left; (focus (first | (simp; done) | (simp; omega) | omega))) | ((with_reducible refine Below.alloc ?_ ?_ _); rotate_left; (focus (first | (simp; done) | (simp; omega) | omega))) | ((with_reducible apply below_step1); (focus (with_reducible assumption)))))⟩
  · rw [V.cl_of hv]
    clear hv
    go_enter Tryd.func37, Tryd.ntmps37
    go_wp2_with (go_at_call 58; refine (rvalid v _).mono ?_; rintro e w1 ⟨rfl, hb⟩; rw [HV.out]; obtain ⟨hc1, hf1⟩ := bcell hb; have hz1 := (hb).size; try simp at hz1)
    refine bodyPost_ret (by simp [results, Tryd.results37, go_sem, hc1]; rfl) rfl ?_
    exact ⟨rfl, by (repeat (first | (with_reducible exact Below.refl _ _) | (with_reducible assumption) | (with_reducible refine Below.drew ?_) | (with_reducible refine below_drewN ?_ _) | ((with_reducible refine Below.setCell ?_ ?_ _); rotate_left; (focus (first | (simp; done) | (simp; omega) | omega))) | ((with_reducible refine Below.alloc ?_ ?_ _); rotate_left; (focus (first | (simp; done) | (simp; omega) | omega))) | ((with_reducible apply below_step1); (focus (with_reducible assumption)))))⟩
end Go.Proofs.YtmbegmhgiekofaaDoor
