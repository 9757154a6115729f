/- The walk of the law ValueEncode, where the table of powers of ten is as it is laid. -/
import Derived.Test.YtjlhapbahecpoaaDoorDd
import Derived.Test.YtjlhapbahecpoaaDoorDe
import Derived.Test.YtjlhapbahecpoaaDoorVn
namespace Go.Proofs.YtjlhapbahecpoaaDoor
open Go.RowKit

theorem encRow_ge : ∀ vs : List V, vs.length ≤ (encRow vs).length := by
  intro vs
  induction vs with
  | nil => simp
  | cons v vs ih =>
    have h : 1 ≤ (encV v.cl).length := by
      rcases h0 : encV v.cl with _ | ⟨a, l⟩
      · exact absurd h0 (encV_ne _)
      · simp
    simp only [encRow, List.flatMap_cons, List.length_append, List.length_cons] at *
    omega
theorem decRow_enc (vs : List V) : decRow (encRow vs) [] = if vs.length ≤ 16 then (vs.map V.cl, 0) else ([], 1) := by
  unfold decRow
  rw [decR_enc vs [] _ (by have := encRow_ge vs; omega) (by simp)]
  simp only [List.length_nil, Nat.zero_add, List.nil_append]
  split <;> rename_i h <;> split at h <;> simp_all

set_option maxRecDepth 100000 in
set_option maxHeartbeats 2000000 in
theorem valueEncode_w (A : Option Addr) (n c : Nat) (vs : List V) (w : World) (hn : n ≤ maxLen) (hr : Row w w.heap.size A n vs) (hG : G w) :
    Calls Tryd.prog 9 #[.slice A n c] w fun e w' => e = .returned (.bool true) ∧ Below w.heap.size w w' := by
  have HL := Lib.hid hr.len
  cases hlg : longB vs
  · have HLG := Lib.hid hlg
    have h40 : n ≤ 40 := by have := long_le hlg; rw [HL.out] at this; exact this
    clear hlg
    have hes : (⟨(encRow vs).toArray⟩ : ByteArray).size ≤ 100000 := by
      have := encRow_len vs
      rw [HL.out] at this
      rw [Lib.size_eq]
      simp only
      omega
    have hD := vdecodeRow ⟨(encRow vs).toArray⟩
    rw [show (⟨(encRow vs).toArray⟩ : ByteArray).data.toList = encRow vs from rfl, decRow_enc, HL.out] at hD
    by_cases h16 : n ≤ 16
    · rw [if_pos h16] at hD
      have h17 : ¬ (16 : Int) < (n : Int) := by omega
      have hC := fun w hr => cleanRow_c A n c vs w (by omega) hr
      obtain ⟨xs, hxs⟩ : ∃ xs, vs.map V.cl = xs := ⟨_, rfl⟩
      have hxl : xs.length = n := by rw [← hxs, List.length_map, HL.out]
      have HXL := Lib.hid hxl
      rw [hxs] at hD
      simp only [hxs] at hC
      clear hxs hxl
      have HS := Lib.hid ((sameB_iff xs xs).2 rfl)
      go_enter Tryd.func9, Tryd.ntmps9
      go_wp2_with (first
        | (go_at_call 17; refine (long_c A n c vs _ hn hr).mono ?_; rintro e w1 ⟨rfl, rfl⟩; rw [HLG.out])
        | (go_at_call 33; refine (vencodeRow A n c vs _ (by omega) hr).mono ?_; rintro e w2 ⟨rfl, hb2⟩; have hr2 := (hr.below hb2).more hb2.size)
        | (go_at_call 34; refine (rencodeRow A n c vs _ (by omega) hr2).mono ?_; rintro e w3 ⟨rfl, hb3⟩; have hr3 := (hr2.below hb3).more hb3.size)
        | (go_at_call 35; refine (hD _ hes).mono ?_; rintro e w4 ⟨o, rfl, own4, hb4⟩; obtain ⟨A4, c4, rfl, _, _⟩ := own_slice own4; have hr4 := (hr3.below hb4).more hb4.size; have hx4 := own4.row; simp only [HXL.out] at hx4 ⊢; clear own4)
        | (go_at_call 36; refine (hC _ hr4).mono ?_; rintro e w6 ⟨o6, rfl, own6, hb6⟩; obtain ⟨A6, c6, rfl, _, _⟩ := own_slice own6; have hx6 := (hx4.below hb6).more hb6.size; have hy6 : Row w6 w6.heap.size A6 n xs := RowOf.of_own own6 HXL.out; clear own6)
        | (go_at_call 30; refine (same_c A4 A6 n c4 n c6 xs xs _ hn hn hx6 hy6).mono ?_; rintro e w7 ⟨rfl, hb7⟩; rw [HS.out])
        | (go_at_call 14; refine (awake_c _ (by exact hG.below (by (repeat (first | (with_reducible exact Below.refl _ _) | (with_reducible assumption) | (with_reducible refine Below.drew ?_) | (with_reducible refine below_drewN ?_ _) | ((with_reducible refine Below.setCell ?_ ?_ _); rotate_left; (focus (first | (simp; done) | (simp; omega) | omega))) | ((with_reducible refine Below.alloc ?_ ?_ _); rotate_left; (focus (first | (simp; done) | (simp; omega) | omega))) | ((with_reducible apply below_step1); (focus (with_reducible assumption)))))))).mono ?_; rintro e w5 ⟨rfl, hb5⟩))
      go_ret
      exact ⟨rfl, by (repeat (first | (with_reducible exact Below.refl _ _) | (with_reducible assumption) | (with_reducible refine Below.drew ?_) | (with_reducible refine below_drewN ?_ _) | ((with_reducible refine Below.setCell ?_ ?_ _); rotate_left; (focus (first | (simp; done) | (simp; omega) | omega))) | ((with_reducible refine Below.alloc ?_ ?_ _); rotate_left; (focus (first | (simp; done) | (simp; omega) | omega))) | ((with_reducible apply below_step1); (focus (with_reducible assumption)))))⟩
    · rw [if_neg h16] at hD
      have h17 : (16 : Int) < (n : Int) := by omega
      go_enter Tryd.func9, Tryd.ntmps9
      go_wp2_with (first
        | (go_at_call 17; refine (long_c A n c vs _ hn hr).mono ?_; rintro e w1 ⟨rfl, rfl⟩; rw [HLG.out])
        | (go_at_call 33; refine (vencodeRow A n c vs _ (by omega) hr).mono ?_; rintro e w2 ⟨rfl, hb2⟩; have hr2 := (hr.below hb2).more hb2.size)
        | (go_at_call 34; refine (rencodeRow A n c vs _ (by omega) hr2).mono ?_; rintro e w3 ⟨rfl, hb3⟩)
        | (go_at_call 35; refine (hD _ hes).mono ?_; rintro e w4 ⟨o, rfl, own4, hb4⟩; obtain ⟨A4, c4, rfl, _, _⟩ := own_slice own4)
        | (go_at_call 14; refine (awake_c _ (by exact hG.below (by (repeat (first | (with_reducible exact Below.refl _ _) | (with_reducible assumption) | (with_reducible refine Below.drew ?_) | (with_reducible refine below_drewN ?_ _) | ((with_reducible refine Below.setCell ?_ ?_ _); rotate_left; (focus (first | (simp; done) | (simp; omega) | omega))) | ((with_reducible refine Below.alloc ?_ ?_ _); rotate_left; (focus (first | (simp; done) | (simp; omega) | omega))) | ((with_reducible apply below_step1); (focus (with_reducible assumption)))))))).mono ?_; rintro e w5 ⟨rfl, hb5⟩))
      go_ret
      exact ⟨rfl, by (repeat (first | (with_reducible exact Below.refl _ _) | (with_reducible assumption) | (with_reducible refine Below.drew ?_) | (with_reducible refine below_drewN ?_ _) | ((with_reducible refine Below.setCell ?_ ?_ _); rotate_left; (focus (first | (simp; done) | (simp; omega) | omega))) | ((with_reducible refine Below.alloc ?_ ?_ _); rotate_left; (focus (first | (simp; done) | (simp; omega) | omega))) | ((with_reducible apply below_step1); (focus (with_reducible assumption)))))⟩
  · have HLG := Lib.hid hlg
    clear hlg
    go_enter Tryd.func9, Tryd.ntmps9
    go_wp2_with (first
      | (go_at_call 17; refine (long_c A n c vs _ hn hr).mono ?_; rintro e w1 ⟨rfl, rfl⟩; rw [HLG.out])
      | (go_at_call 14; refine (awake_c _ hG).mono ?_; rintro e w3 ⟨rfl, hb3⟩))
    go_ret
    exact ⟨rfl, hb3⟩
end Go.Proofs.YtjlhapbahecpoaaDoor
