/- The walks of the laws ValueFormat, ValueValid and ValueCompare, where the table of powers of ten is as it is laid. -/
import Derived.Test.YtjlhapbahecpoaaDoorVl
import Derived.Test.YtjlhapbahecpoaaDoorVe
namespace Go.Proofs.YtjlhapbahecpoaaDoor
open Go.RowKit

set_option maxRecDepth 100000 in
set_option maxHeartbeats 400000 in
theorem valueFormat_w (v : V) (w : World) (hG : G w) :
    Calls Tryd.prog 3 #[.agg #[.int .i64 v.k, .int .i64 v.n, .string v.s]] w fun e w' => e = .returned (.bool true) ∧ Below w.heap.size w w' := by
  by_cases h : 200 < v.s.size
  · go_enter Tryd.func3, Tryd.ntmps3
    go_wp2_with (go_at_call 14; refine (awake_c _ (by exact hG.below (by (repeat (first | (with_reducible exact Below.refl _ _) | (with_reducible assumption) | (with_reducible refine Below.drew ?_) | (with_reducible refine below_drewN ?_ _) | ((with_reducible refine Below.setCell ?_ ?_ _); rotate_left; (focus (first | (simp; done) | (simp; omega) | omega))) | ((with_reducible refine Below.alloc ?_ ?_ _); rotate_left; (focus (first | (simp; done) | (simp; omega) | omega))) | ((with_reducible apply below_step1); (focus (with_reducible assumption)))))))).mono ?_; rintro e w1 ⟨rfl, hb⟩)
    go_ret
    exact ⟨rfl, by (repeat (first | (with_reducible exact Below.refl _ _) | (with_reducible assumption) | (with_reducible refine Below.drew ?_) | (with_reducible refine below_drewN ?_ _) | ((with_reducible refine Below.setCell ?_ ?_ _); rotate_left; (focus (first | (simp; done) | (simp; omega) | omega))) | ((with_reducible refine Below.alloc ?_ ?_ _); rotate_left; (focus (first | (simp; done) | (simp; omega) | omega))) | ((with_reducible apply below_step1); (focus (with_reducible assumption)))))⟩
  · go_enter Tryd.func3, Tryd.ntmps3
    go_wp2_with fail
    go_region_held3 (fun w' => Below (w.alloc (.cells #[.int .i64 v.k, .int .i64 v.n, .string v.s] 23)).heap.size (w.alloc (.cells #[.int .i64 v.k, .int .i64 v.n, .string v.s] 23)) w' ∧ ∀ b o, b < (w.alloc (.cells #[.int .i64 v.k, .int .i64 v.n, .string v.s] 23)).heap.size → w'.cell? ⟨b, o, none⟩ = (w.alloc (.cells #[.int .i64 v.k, .int .i64 v.n, .string v.s] 23)).cell? ⟨b, o, none⟩) ((first | (with_reducible assumption) | (with_reducible exact ext_refl _) | ((with_reducible apply ext_step) <;> (with_reducible assumption)) | ((with_reducible refine ext_drew ?_) <;> (with_reducible assumption)) | ((with_reducible refine ext_alloc ?_ _) <;> (with_reducible assumption))))
      (first
        | (go_at_call 15; refine (vformat v _ (by exact hG.below (by (repeat (first | (with_reducible exact Below.refl _ _) | (with_reducible assumption) | (with_reducible refine Below.drew ?_) | (with_reducible refine below_drewN ?_ _) | ((with_reducible refine Below.setCell ?_ ?_ _); rotate_left; (focus (first | (simp; done) | (simp; omega) | omega))) | ((with_reducible refine Below.alloc ?_ ?_ _); rotate_left; (focus (first | (simp; done) | (simp; omega) | omega))) | ((with_reducible apply below_step1); (focus (with_reducible assumption)))))))).mono ?_; rintro e w1 ⟨rfl, hb⟩)
        | (go_at_call 16; refine (rformat v _).mono ?_; rintro e w2 ⟨rfl, hb2⟩)
        | (go_at_call 14; refine (awake_c _ (by exact hG.below (by (repeat (first | (with_reducible exact Below.refl _ _) | (with_reducible assumption) | (with_reducible refine Below.drew ?_) | (with_reducible refine below_drewN ?_ _) | ((with_reducible refine Below.setCell ?_ ?_ _); rotate_left; (focus (first | (simp; done) | (simp; omega) | omega))) | ((with_reducible refine Below.alloc ?_ ?_ _); rotate_left; (focus (first | (simp; done) | (simp; omega) | omega))) | ((with_reducible apply below_step1); (focus (with_reducible assumption)))))))).mono ?_; rintro e w3 ⟨rfl, hb3⟩))
    go_wp2
    go_ret
    exact ⟨rfl, by (repeat (first | (with_reducible exact Below.refl _ _) | (with_reducible assumption) | (with_reducible refine Below.drew ?_) | (with_reducible refine below_drewN ?_ _) | ((with_reducible refine Below.setCell ?_ ?_ _); rotate_left; (focus (first | (simp; done) | (simp; omega) | omega))) | ((with_reducible refine Below.alloc ?_ ?_ _); rotate_left; (focus (first | (simp; done) | (simp; omega) | omega))) | ((with_reducible apply below_step1); (focus (with_reducible assumption)))))⟩
end Go.Proofs.YtjlhapbahecpoaaDoor
