/- Contracts of the program's Eval and Holds. -/
import Derived.Test.YtojcabnjodfdmaaDoorEj
import Derived.Test.YtojcabnjodfdmaaDoorXTree
namespace Go.Proofs.YtojcabnjodfdmaaDoor
open Go.RowKit

theorem idle_Eval (w : World) : CallsD Tryd.prog 46 #[] .returning w fun e u' w' => e = .returned (.tuple #[]) ∧ u' = .returning ∧ w' = w := by
  refine callsD_of_wpS Tryd.func46 rfl fun c₀ cs hu => ?_
  apply wpS_region
  cases c₀
  simp_all [wpOpsS, go_sem, recoverD, Tryd.ntmps46, Exit.thenS, bodyPostS, results, Tryd.results46]
set_option maxRecDepth 100000 in
set_option maxHeartbeats 1000000 in
theorem xeval (A R : Option Addr) (n c m d : Nat) (es : List T) (row : List V) (w : World) (hn : n ≤ maxLen) (hm : m ≤ maxLen) (hr : RowT w w.heap.size A n es) (hv : Row w w.heap.size R m row) : Calls Tryd.prog 24 #[.slice A n c, .slice R m d] w fun e w' => e = .returned (.agg #[.int .i64 (evalE es row).k, .int .i64 (evalE es row).n, .string (evalE es row).s]) ∧ Below w.heap.size w w' := by
  have hmf : ∀ (fn : Fn) (first cap : Array Value) (w : World), (Instr.makeFunc fn first cap).run Tryd.prog w = .ok (.func fn first cap) w := fun _ _ _ _ => rfl
  have hr1 := (hr.keep (w' := w.alloc (.cells #[.int .i64 0, .int .i64 0, .string ⟨#[]⟩] 34)) fun p hp => World.cell?_alloc_lt w _ p hp).more (show w.heap.size ≤ (w.alloc (.cells #[.int .i64 0, .int .i64 0, .string ⟨#[]⟩] 34)).heap.size by simp)
  have hv1 := (hv.keep (w' := w.alloc (.cells #[.int .i64 0, .int .i64 0, .string ⟨#[]⟩] 34)) fun p hp => World.cell?_alloc_lt w _ p hp).more (show w.heap.size ≤ (w.alloc (.cells #[.int .i64 0, .int .i64 0, .string ⟨#[]⟩] 34)).heap.size by simp)
  have hvd := xvalidE A n c es (w.alloc (.cells #[.int .i64 0, .int .i64 0, .string ⟨#[]⟩] 34)) hn hr1
  cases hval : validE es
  · rw [hval] at hvd
    have HR := Lib.hid (show evalE es row = V.null by unfold evalE; rw [treeE_bad hval])
    clear hval
    go_enter_defers Tryd.func24, Tryd.ntmps24
    go_wp2_with (go_at_call 18; refine hvd.mono ?_; rintro e w1 ⟨rfl, hb1⟩; obtain ⟨hc1, hf1⟩ := bcell hb1; have hz1 := (hb1).size; (try simp at hz1); have hl10 : w.heap.size < w1.heap.size := (by omega))
    refine leave_idle idle_Eval (by simp [go_sem]) (by simp [results, Tryd.results24, go_sem, *]; rfl) ?_
    rw [HR.out]
    exact ⟨rfl, by (repeat (first | (with_reducible exact Below.refl _ _) | (with_reducible assumption) | (with_reducible refine Below.drew ?_) | (with_reducible refine below_drewN ?_ _) | ((with_reducible refine Below.setCell ?_ ?_ _); rotate_left; (focus (first | (simp; done) | (simp; omega) | omega))) | ((with_reducible refine Below.alloc ?_ ?_ _); rotate_left; (focus (first | (simp; done) | (simp; omega) | omega))) | ((with_reducible apply below_step1); (focus (with_reducible assumption)))))⟩
  · rw [hval] at hvd
    obtain ⟨x, hx, hfl, hw, hd, hl⟩ := treeE_ok hval
    have hl2 := hr.len
    have HR := Lib.hid (show evalE es row = x.ev row by unfold evalE; rw [hx])
    have hev := fun w1 hr1 hv1 => evalAt_c A R n c m d es row (by omega) hm 16 x [] 0 w1 hd hw (by simpa using hfl) hr1 hv1
    clear hval hx hfl hw hd hl hl2
    go_enter_defers Tryd.func24, Tryd.ntmps24
    go_wp2_with (first
      | (go_at_call 18; refine hvd.mono ?_; rintro e w1 ⟨rfl, hb1⟩; obtain ⟨hc1, hf1⟩ := bcell hb1; have hz1 := (hb1).size; (try simp at hz1); have hl10 : w.heap.size < w1.heap.size := (by omega))
      | (go_at_call 47; refine (hev w1 ((hr1.below hb1).more hb1.size) ((hv1.below hb1).more hb1.size)).mono ?_; rintro e w2 ⟨rfl, hb2⟩; obtain ⟨hc2, hf2⟩ := bcell hb2; have hz2 := (hb2).size; (try simp at hz2); have hl20 : w.heap.size < w2.heap.size := (by omega)))
    refine leave_idle idle_Eval (by simp [go_sem]) (by simp [results, Tryd.results24, go_sem, *]; rfl) ?_
    rw [HR.out]
    exact ⟨rfl, by (repeat (first | (with_reducible exact Below.refl _ _) | (with_reducible assumption) | (with_reducible refine Below.drew ?_) | (with_reducible refine below_drewN ?_ _) | ((with_reducible refine Below.setCell ?_ ?_ _); rotate_left; (focus (first | (simp; done) | (simp; omega) | omega))) | ((with_reducible refine Below.alloc ?_ ?_ _); rotate_left; (focus (first | (simp; done) | (simp; omega) | omega))) | ((with_reducible apply below_step1); (focus (with_reducible assumption)))))⟩
set_option maxRecDepth 100000 in
set_option maxHeartbeats 1000000 in
theorem xholds (A R : Option Addr) (n c m d : Nat) (es : List T) (row : List V) (w : World) (hn : n ≤ maxLen) (hm : m ≤ maxLen) (hr : RowT w w.heap.size A n es) (hv : Row w w.heap.size R m row) : Calls Tryd.prog 29 #[.slice A n c, .slice R m d] w fun e w' => e = .returned (.bool (isTrueV (evalE es row))) ∧ Below w.heap.size w w' := by
  go_enter Tryd.func29, Tryd.ntmps29
  go_wp2_with (first
    | (go_at_call 24; refine (xeval A R n c m d es row _ hn hm hr hv).mono ?_; rintro e w1 ⟨rfl, hb1⟩)
    | (go_at_call 52; refine (isTrue_c _ _).mono ?_; rintro e w2 ⟨rfl, hb2⟩))
  go_ret
  exact ⟨rfl, by (repeat (first | (with_reducible exact Below.refl _ _) | (with_reducible assumption) | (with_reducible refine Below.drew ?_) | (with_reducible refine below_drewN ?_ _) | ((with_reducible refine Below.setCell ?_ ?_ _); rotate_left; (focus (first | (simp; done) | (simp; omega) | omega))) | ((with_reducible refine Below.alloc ?_ ?_ _); rotate_left; (focus (first | (simp; done) | (simp; omega) | omega))) | ((with_reducible apply below_step1); (focus (with_reducible assumption)))))⟩
end Go.Proofs.YtojcabnjodfdmaaDoor
