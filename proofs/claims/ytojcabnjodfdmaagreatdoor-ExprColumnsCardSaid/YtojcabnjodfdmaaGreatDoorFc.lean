/- Contracts of the reference's Substitute, and of Same where both are equal. -/
import Derived.Test.YtojcabnjodfdmaaGreatDoorFb
import Derived.Test.YtojcabnjodfdmaaGreatDoorBb
namespace Go.Proofs.YtojcabnjodfdmaaGreatDoor
open Go.RowKit

theorem standT : Tryz.prog.stoodInHeld 48 = false := by kernel_rfl
theorem neqT_self (t : T) (w : World) : (binOp .neq 48 (.agg #[.int .i64 t.op, .int .i64 t.v.k, .int .i64 t.v.n, .string t.v.s, .int .i64 t.c]) (.agg #[.int .i64 t.op, .int .i64 t.v.k, .int .i64 t.v.n, .string t.v.s, .int .i64 t.c])).run Tryz.prog w = .ok (.bool false) w := by
  have hu := Tryz.underlying48
  have hu2 := Tryz.underlying38
  have h1 := standT
  have h2 := standV
  simp [go_sem, h1, h2, hu, hu2]
set_option maxRecDepth 100000 in
set_option maxHeartbeats 1000000 in
theorem rsame (A B : Option Addr) (n c d : Nat) (es : List T) (w : World) (hn : n ≤ maxLen) (hr : RowT w w.heap.size A n es) (hs : RowT w w.heap.size B n es) : Calls Tryz.prog 9 #[.slice A n c, .slice B n d] w fun e w' => e = .returned (.bool true) ∧ Below w.heap.size w w' := by
  unfold maxLen at hn
  have tn : ((n : Int) != (n : Int)) = false := by simp
  go_enter Tryz.func9, Tryz.ntmps9
  go_wp2_with fail
  go_loopw [5] (fun v5 wr => ∃ k : Nat, v5 = .int .i64 (k : Int) ∧ k ≤ n ∧ Below w.heap.size w wr) (fun v5 _ => n - (intOf v5).toNat)
  case atStart => exact ⟨0, rfl, by omega, by (repeat (first | (with_reducible exact Below.refl _ _) | (with_reducible assumption) | (with_reducible refine Below.drew ?_) | (with_reducible refine below_drewN ?_ _) | ((with_reducible refine Below.setCell ?_ ?_ _); rotate_left; (focus (first | (simp; done) | (simp; omega) | omega))) | ((with_reducible refine Below.alloc ?_ ?_ _); rotate_left; (focus (first | (simp; done) | (simp; omega) | omega))) | ((with_reducible apply below_step1); (focus (with_reducible assumption)))))⟩
  case round =>
    obtain ⟨k, rfl, hk, hbel⟩ := hrel
    have hzz := hbel.size
    by_cases hlt : k < n
    · have h1 : (k : Int) < (n : Int) := by omega
      have h0 : (0 : Int) ≤ (k : Int) := by omega
      have hkw : IntKind.i64.wrap ((k : Int) + 1) = (k : Int) + 1 := IntWalk.i64_in _ (by omega)
      obtain ⟨b, off, t, rfl, hb, ht, c0, c1, c2, c3, c4⟩ := RowT.at5 (hr.to hbel) hlt
      obtain ⟨b', off', t', rfl, hb', ht', d0, d1, d2, d3, d4⟩ := RowT.at5 (hs.to hbel) hlt
      obtain rfl := Option.some.inj (ht.symm.trans ht')
      have hneq := neqT_self t
      clear ht ht'
      go_wp2_with fail
      go_quiet (fail)
      go_wp2_with fail
      go_roundw
      case rel => exact ⟨k + 1, by go_num, by omega, by (repeat (first | (with_reducible exact Below.refl _ _) | (with_reducible assumption) | (with_reducible refine Below.drew ?_) | (with_reducible refine below_drewN ?_ _) | ((with_reducible refine Below.setCell ?_ ?_ _); rotate_left; (focus (first | (simp; done) | (simp; omega) | omega))) | ((with_reducible refine Below.alloc ?_ ?_ _); rotate_left; (focus (first | (simp; done) | (simp; omega) | omega))) | ((with_reducible apply below_step1); (focus (with_reducible assumption)))))⟩
      case measure => simp [intOf]; omega
    · have h1 : ¬ (k : Int) < (n : Int) := by omega
      go_wp2_with fail
      go_ret
      exact ⟨rfl, by (repeat (first | (with_reducible exact Below.refl _ _) | (with_reducible assumption) | (with_reducible refine Below.drew ?_) | (with_reducible refine below_drewN ?_ _) | ((with_reducible refine Below.setCell ?_ ?_ _); rotate_left; (focus (first | (simp; done) | (simp; omega) | omega))) | ((with_reducible refine Below.alloc ?_ ?_ _); rotate_left; (focus (first | (simp; done) | (simp; omega) | omega))) | ((with_reducible apply below_step1); (focus (with_reducible assumption)))))⟩
end Go.Proofs.YtojcabnjodfdmaaGreatDoor
