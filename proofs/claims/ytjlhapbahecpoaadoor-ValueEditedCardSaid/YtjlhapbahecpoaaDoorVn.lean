/- The walks of the laws ValueValid and ValueCompare, where the table of powers of ten is as it is laid. -/
import Derived.Test.YtjlhapbahecpoaaDoorVm
namespace Go.Proofs.YtjlhapbahecpoaaDoor
open Go.RowKit

theorem long_le {vs : List V} (h : longB vs = false) : vs.length ≤ 40 := by
  simp only [longB, Bool.or_eq_false_iff, decide_eq_false_iff_not] at h
  omega
set_option maxRecDepth 100000 in
set_option maxHeartbeats 2000000 in
theorem valueValid_w (A : Option Addr) (n c : Nat) (vs : List V) (w : World) (hn : n ≤ maxLen) (hr : Row w w.heap.size A n vs) (hG : G w) :
    Calls Tryd.prog 4 #[.slice A n c] w fun e w' => e = .returned (.bool true) ∧ Below w.heap.size w w' := by
  have HL := Lib.hid hr.len
  cases hlg : longB vs
  · have HLG := Lib.hid hlg
    have h40 : n ≤ 40 := by have := long_le hlg; rw [HL.out] at this; exact this
    clear hlg
    go_enter Tryd.func4, Tryd.ntmps4
    go_wp2_with (go_at_call 17; refine (long_c A n c vs _ hn hr).mono ?_; rintro e w1 ⟨rfl, rfl⟩; rw [HLG.out])
    go_loopw [3] (fun i wr => ∃ k : Nat, k ≤ n ∧ i = .int .i64 k ∧ Below w.heap.size w wr) (fun i _ => n - (intOf i).toNat)
    case atStart => exact ⟨0, Nat.zero_le _, rfl, Below.refl _ _⟩
    case round =>
      obtain ⟨k, hk, rfl, hbel⟩ := hrel
      have hzz := hbel.size
      by_cases hlt : k < n
      · obtain ⟨b, off, v, rfl, hb, hv, hc0, hc1, hc2⟩ := Row.at3 (hr.below hbel) hlt
        have hbw : b < wr.heap.size := by omega
        have hkn : (k : Int) < (n : Int) := by omega
        have hk0 : (0 : Int) ≤ (k : Int) := by omega
        clear hv hr
        have he' : ∀ w, _ := fun w => (run_neqV v.cl.k v.cl.n v.cl.s v.cl.k v.cl.n v.cl.s w).trans (by rw [show eqB v.cl.k v.cl.n v.cl.s v.cl.k v.cl.n v.cl.s = true from (V.beq_iff v.cl v.cl).2 rfl])
        have hok := v.cl_ok
        go_wp2_with fail
        go_region_held3 (fun w' => Below (wr).heap.size (wr) w' ∧ ∀ b o, b < (wr).heap.size → w'.cell? ⟨b, o, none⟩ = (wr).cell? ⟨b, o, none⟩) ((first | (with_reducible assumption) | (with_reducible exact ext_refl _) | ((with_reducible apply ext_step) <;> (with_reducible assumption)) | ((with_reducible refine ext_drew ?_) <;> (with_reducible assumption)) | ((with_reducible refine ext_alloc ?_ _) <;> (with_reducible assumption))))
          (first
            | (go_at_call_of 18 (Value.agg #[.int .i64 v.k, .int .i64 v.n, .string v.s]); refine (vvalid v _).mono ?_; rintro e w1 ⟨rfl, hb1⟩)
            | (go_at_call 19; refine (rvalid v _).mono ?_; rintro e w2 ⟨rfl, hb2⟩)
            | (go_at_call 20; refine (vclean v _).mono ?_; rintro e w3 ⟨rfl, hb3⟩)
            | (go_at_call 21; refine (rclean v _).mono ?_; rintro e w4 ⟨rfl, hb4⟩)
            | (go_at_call_of 18 (Value.agg #[.int .i64 v.cl.k, .int .i64 v.cl.n, .string v.cl.s]); refine (vvalid v.cl _).mono ?_; rintro e w5 ⟨rfl, hb5⟩))
        go_wp2
        go_roundw
        case rel => exact ⟨k + 1, by omega, by go_num, by (repeat (first | (with_reducible exact Below.refl _ _) | (with_reducible assumption) | (with_reducible refine Below.drew ?_) | (with_reducible refine below_drewN ?_ _) | ((with_reducible refine Below.setCell ?_ ?_ _); rotate_left; (focus (first | (simp; done) | (simp; omega) | omega))) | ((with_reducible refine Below.alloc ?_ ?_ _); rotate_left; (focus (first | (simp; done) | (simp; omega) | omega))) | ((with_reducible apply below_step1); (focus (with_reducible assumption)))))⟩
        case measure => simp [intOf]; omega
      · have hrw := hr.below hbel
        have hr1 : Row wr wr.heap.size A n vs := hrw.more (by omega)
        go_wp2_with (first
          | (go_at_call 22; refine (vvalidRow A n c vs _ hn hr1).mono ?_; rintro e w1 ⟨rfl, hb1⟩; have hr2 := (hr1.below hb1).more hb1.size)
          | (go_at_call 23; refine (rvalidRow A n c vs _ hn hr2).mono ?_; rintro e w2 ⟨rfl, hb2⟩)
          | (go_at_call 14; refine (awake_c _ (by exact hG.below (by (repeat (first | (with_reducible exact Below.refl _ _) | (with_reducible assumption) | (with_reducible refine Below.drew ?_) | (with_reducible refine below_drewN ?_ _) | ((with_reducible refine Below.setCell ?_ ?_ _); rotate_left; (focus (first | (simp; done) | (simp; omega) | omega))) | ((with_reducible refine Below.alloc ?_ ?_ _); rotate_left; (focus (first | (simp; done) | (simp; omega) | omega))) | ((with_reducible apply below_step1); (focus (with_reducible assumption)))))))).mono ?_; rintro e w3 ⟨rfl, hb3⟩))
        go_ret
        exact ⟨rfl, by (repeat (first | (with_reducible exact Below.refl _ _) | (with_reducible assumption) | (with_reducible refine Below.drew ?_) | (with_reducible refine below_drewN ?_ _) | ((with_reducible refine Below.setCell ?_ ?_ _); rotate_left; (focus (first | (simp; done) | (simp; omega) | omega))) | ((with_reducible refine Below.alloc ?_ ?_ _); rotate_left; (focus (first | (simp; done) | (simp; omega) | omega))) | ((with_reducible apply below_step1); (focus (with_reducible assumption)))))⟩
  · have HLG := Lib.hid hlg
    clear hlg
    go_enter Tryd.func4, Tryd.ntmps4
    go_wp2_with (first
      | (go_at_call 17; refine (long_c A n c vs _ hn hr).mono ?_; rintro e w1 ⟨rfl, rfl⟩; rw [HLG.out])
      | (go_at_call 14; refine (awake_c _ hG).mono ?_; rintro e w3 ⟨rfl, hb3⟩))
    go_ret
    exact ⟨rfl, hb3⟩
end Go.Proofs.YtjlhapbahecpoaaDoor
