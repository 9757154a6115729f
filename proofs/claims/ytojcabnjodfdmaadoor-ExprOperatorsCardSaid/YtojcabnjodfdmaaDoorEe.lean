/- Contract of the program's Valid, and what its deferred closures do where nothing panics. -/
import Derived.Test.YtojcabnjodfdmaaDoorEd
import Derived.Test.YtojcabnjodfdmaaDoorIdle
namespace Go.Proofs.YtojcabnjodfdmaaDoor
open Go.RowKit

theorem idle_Valid (w : World) : CallsD Tryd.prog 41 #[] .returning w fun e u' w' => e = .returned (.tuple #[]) ∧ u' = .returning ∧ w' = w := by
  refine callsD_of_wpS Tryd.func41 rfl fun c₀ cs hu => ?_
  apply wpS_region
  cases c₀
  simp_all [wpOpsS, go_sem, recoverD, Tryd.ntmps41, Exit.thenS, bodyPostS, results, Tryd.results41]
set_option maxRecDepth 100000 in
set_option maxHeartbeats 1000000 in
theorem xvalidE (A : Option Addr) (n c : Nat) (es : List T) (w : World) (hn : n ≤ maxLen) (hr : RowT w w.heap.size A n es) : Calls Tryd.prog 18 #[.slice A n c] w fun e w' => e = .returned (.bool (validE es)) ∧ Below w.heap.size w w' := by
  have hmf : ∀ (fn : Fn) (first cap : Array Value) (w : World), (Instr.makeFunc fn first cap).run Tryd.prog w = .ok (.func fn first cap) w := fun _ _ _ _ => rfl
  unfold maxLen at hn
  have HV := Lib.hid (valid_prog es)
  rw [hr.len] at HV
  by_cases h64 : 64 < n
  · have h2 : (64 : Int) < (n : Int) := by omega
    have HR := Lib.hid (show validE es = false by rw [HV.out, show decide (n ≤ 64) = false by simp; omega]; rfl)
    go_enter_defers Tryd.func18, Tryd.ntmps18
    go_wp2_with fail
    refine leave_idle idle_Valid (by simp [go_sem]) (by simp [results, Tryd.results18, go_sem]; rfl) ?_
    exact ⟨ret_bool HR.out.symm, by (repeat (first | (with_reducible exact Below.refl _ _) | (with_reducible assumption) | (with_reducible refine Below.drew ?_) | (with_reducible refine below_drewN ?_ _) | ((with_reducible refine Below.setCell ?_ ?_ _); rotate_left; (focus (first | (simp; done) | (simp; omega) | omega))) | ((with_reducible refine Below.alloc ?_ ?_ _); rotate_left; (focus (first | (simp; done) | (simp; omega) | omega))) | ((with_reducible apply below_step1); (focus (with_reducible assumption)))))⟩
  have h2 : ¬ (64 : Int) < (n : Int) := by omega
  have hE := xmeasure A n c es (by omega) n 0 w (by omega) (by omega) hr
  have hml := measO_le (es := es) (e := 0) (by omega)
  rw [hr.len] at hml
  have HR := Lib.hid (show validE es = (decide (0 < (measO es 0).1) && (decide ((measO es 0).1 ≤ 16) && decide ((measO es 0).2 = n))) by rw [HV.out, show decide (n ≤ 64) = true by simp; omega]; rfl)
  obtain ⟨y, hy⟩ : ∃ y, measO es 0 = y := ⟨_, rfl⟩
  rw [hy] at HR hE hml
  clear hy
  obtain ⟨d, e⟩ := y
  simp only at hml HR
  go_enter_defers Tryd.func18, Tryd.ntmps18
  go_wp2_with (go_at_call 42; refine hE.mono ?_; rintro e2 w2 ⟨rfl, hb2⟩)
  all_goals refine leave_idle idle_Valid (by simp [go_sem]) (by simp [results, Tryd.results18, go_sem]; rfl) ?_
  all_goals refine ⟨ret_bool ?_, by (repeat (first | (with_reducible exact Below.refl _ _) | (with_reducible assumption) | (with_reducible refine Below.drew ?_) | (with_reducible refine below_drewN ?_ _) | ((with_reducible refine Below.setCell ?_ ?_ _); rotate_left; (focus (first | (simp; done) | (simp; omega) | omega))) | ((with_reducible refine Below.alloc ?_ ?_ _); rotate_left; (focus (first | (simp; done) | (simp; omega) | omega))) | ((with_reducible apply below_step1); (focus (with_reducible assumption)))))⟩
  all_goals rw [HR.out, Bool.eq_iff_iff]
  all_goals simp
  all_goals omega
end Go.Proofs.YtojcabnjodfdmaaDoor
