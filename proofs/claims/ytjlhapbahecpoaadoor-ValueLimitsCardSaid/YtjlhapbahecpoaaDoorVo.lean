/- The walk of the law ValueCompare, where the table of powers of ten is as it is laid. -/
import Derived.Test.YtjlhapbahecpoaaDoorVn
namespace Go.Proofs.YtjlhapbahecpoaaDoor
open Go.RowKit

set_option maxRecDepth 100000 in
set_option maxHeartbeats 2000000 in
theorem valueCompare_w (A B : Option Addr) (n c m d : Nat) (xs ys : List V) (w : World) (hn : n ≤ maxLen) (hm : m ≤ maxLen) (hr : Row w w.heap.size A n xs) (hs : Row w w.heap.size B m ys) (hG : G w) :
    Calls Tryd.prog 6 #[.slice A n c, .slice B m d] w fun e w' => e = .returned (.bool true) ∧ Below w.heap.size w w' := by
  have HL := Lib.hid hr.len
  have HM := Lib.hid hs.len
  cases hlg : longB xs
  · have HLG := Lib.hid hlg
    have h40 : n ≤ 40 := by have := long_le hlg; rw [HL.out] at this; exact this
    clear hlg
    cases hlh : longB ys
    · have HLH := Lib.hid hlh
      have h40' : m ≤ 40 := by have := long_le hlh; rw [HM.out] at this; exact this
      clear hlh
      go_enter Tryd.func6, Tryd.ntmps6
      go_wp2_with fail
      refine (long_c A n c xs _ hn hr).mono ?_
      rintro e w1 ⟨rfl, rfl⟩
      rw [HLG.out]
      go_wp2_with fail
      refine (long_c B m d ys _ hm hs).mono ?_
      rintro e w1 ⟨rfl, rfl⟩
      rw [HLH.out]
      go_wp2_with fail
      go_loopw [5] (fun i wr => ∃ k : Nat, k ≤ n ∧ i = .int .i64 k ∧ Below w.heap.size w wr) (fun i _ => n - (intOf i).toNat)
      case atStart => exact ⟨0, Nat.zero_le _, rfl, Below.refl _ _⟩
      case round =>
        obtain ⟨k, hk, rfl, hbel⟩ := hrel
        have hzz := hbel.size
        by_cases hlt : k < n ∧ k < m
        · obtain ⟨b, off, x, rfl, hb, hx, hc0, hc1, hc2⟩ := Row.at3 (hr.below hbel) hlt.1
          obtain ⟨b', off', y, rfl, hb', hy, hd0, hd1, hd2⟩ := Row.at3 (hs.below hbel) hlt.2
          have hbw : b < wr.heap.size := by omega
          have hbw' : b' < wr.heap.size := by omega
          have hkn : (k : Int) < (n : Int) := by omega
          have hkm : (k : Int) < (m : Int) := by omega
          have hk0 : (0 : Int) ≤ (k : Int) := by omega
          obtain ⟨hlt1, hlt2⟩ := hlt
          clear hx hy hr hs
          go_wp2_with fail
          go_region_held3 (fun w' => Below (wr).heap.size (wr) w' ∧ ∀ b o, b < (wr).heap.size → w'.cell? ⟨b, o, none⟩ = (wr).cell? ⟨b, o, none⟩) ((first | (with_reducible assumption) | (with_reducible exact ext_refl _) | ((with_reducible apply ext_step) <;> (with_reducible assumption)) | ((with_reducible refine ext_drew ?_) <;> (with_reducible assumption)) | ((with_reducible refine ext_alloc ?_ _) <;> (with_reducible assumption))))
            (first
              | (go_at_call 24; refine (vcompare x y _).mono ?_; rintro e w1 ⟨rfl, hb1⟩)
              | (go_at_call 25; refine (rcompare x y _).mono ?_; rintro e w2 ⟨rfl, hb2⟩))
          go_wp2
          go_roundw
          case rel => exact ⟨k + 1, by omega, by go_num, by (repeat (first | (with_reducible exact Below.refl _ _) | (with_reducible assumption) | (with_reducible refine Below.drew ?_) | (with_reducible refine below_drewN ?_ _) | ((with_reducible refine Below.setCell ?_ ?_ _); rotate_left; (focus (first | (simp; done) | (simp; omega) | omega))) | ((with_reducible refine Below.alloc ?_ ?_ _); rotate_left; (focus (first | (simp; done) | (simp; omega) | omega))) | ((with_reducible apply below_step1); (focus (with_reducible assumption)))))⟩
          case measure => simp [intOf]; omega
        · have hr1 : Row wr wr.heap.size A n xs := (hr.below hbel).more (by omega)
          have hs1 : Row wr wr.heap.size B m ys := (hs.below hbel).more (by omega)
          by_cases h1 : k < n
          · have h2 : ¬ k < m := fun h => hlt ⟨h1, h⟩
            clear hlt
            go_wp2_with (first
              | (go_at_call 26; refine (vcompareRows A B n c m d xs ys _ hn hm hr1 hs1).mono ?_; rintro e w1 ⟨rfl, hb1⟩; have hr2 := (hr1.below hb1).more hb1.size; have hs2 := (hs1.below hb1).more hb1.size)
              | (go_at_call 27; refine (rcompareRows A B n c m d xs ys _ hn hm hr2 hs2).mono ?_; rintro e w2 ⟨rfl, hb2⟩)
              | (go_at_call 14; refine (awake_c _ (by exact hG.below (by (repeat (first | (with_reducible exact Below.refl _ _) | (with_reducible assumption) | (with_reducible refine Below.drew ?_) | (with_reducible refine below_drewN ?_ _) | ((with_reducible refine Below.setCell ?_ ?_ _); rotate_left; (focus (first | (simp; done) | (simp; omega) | omega))) | ((with_reducible refine Below.alloc ?_ ?_ _); rotate_left; (focus (first | (simp; done) | (simp; omega) | omega))) | ((with_reducible apply below_step1); (focus (with_reducible assumption)))))))).mono ?_; rintro e w3 ⟨rfl, hb3⟩))
            go_ret
            exact ⟨rfl, by (repeat (first | (with_reducible exact Below.refl _ _) | (with_reducible assumption) | (with_reducible refine Below.drew ?_) | (with_reducible refine below_drewN ?_ _) | ((with_reducible refine Below.setCell ?_ ?_ _); rotate_left; (focus (first | (simp; done) | (simp; omega) | omega))) | ((with_reducible refine Below.alloc ?_ ?_ _); rotate_left; (focus (first | (simp; done) | (simp; omega) | omega))) | ((with_reducible apply below_step1); (focus (with_reducible assumption)))))⟩
          · clear hlt
            go_wp2_with (first
              | (go_at_call 26; refine (vcompareRows A B n c m d xs ys _ hn hm hr1 hs1).mono ?_; rintro e w1 ⟨rfl, hb1⟩; have hr2 := (hr1.below hb1).more hb1.size; have hs2 := (hs1.below hb1).more hb1.size)
              | (go_at_call 27; refine (rcompareRows A B n c m d xs ys _ hn hm hr2 hs2).mono ?_; rintro e w2 ⟨rfl, hb2⟩)
              | (go_at_call 14; refine (awake_c _ (by exact hG.below (by (repeat (first | (with_reducible exact Below.refl _ _) | (with_reducible assumption) | (with_reducible refine Below.drew ?_) | (with_reducible refine below_drewN ?_ _) | ((with_reducible refine Below.setCell ?_ ?_ _); rotate_left; (focus (first | (simp; done) | (simp; omega) | omega))) | ((with_reducible refine Below.alloc ?_ ?_ _); rotate_left; (focus (first | (simp; done) | (simp; omega) | omega))) | ((with_reducible apply below_step1); (focus (with_reducible assumption)))))))).mono ?_; rintro e w3 ⟨rfl, hb3⟩))
            go_ret
            exact ⟨rfl, by (repeat (first | (with_reducible exact Below.refl _ _) | (with_reducible assumption) | (with_reducible refine Below.drew ?_) | (with_reducible refine below_drewN ?_ _) | ((with_reducible refine Below.setCell ?_ ?_ _); rotate_left; (focus (first | (simp; done) | (simp; omega) | omega))) | ((with_reducible refine Below.alloc ?_ ?_ _); rotate_left; (focus (first | (simp; done) | (simp; omega) | omega))) | ((with_reducible apply below_step1); (focus (with_reducible assumption)))))⟩
    · have HLH := Lib.hid hlh
      clear hlh
      go_enter Tryd.func6, Tryd.ntmps6
      go_wp2_with fail
      refine (long_c A n c xs _ hn hr).mono ?_
      rintro e w1 ⟨rfl, rfl⟩
      rw [HLG.out]
      go_wp2_with fail
      refine (long_c B m d ys _ hm hs).mono ?_
      rintro e w1 ⟨rfl, rfl⟩
      rw [HLH.out]
      go_wp2_with (go_at_call 14; refine (awake_c _ hG).mono ?_; rintro e w3 ⟨rfl, hb3⟩)
      go_ret
      exact ⟨rfl, hb3⟩
  · have HLG := Lib.hid hlg
    clear hlg
    go_enter Tryd.func6, Tryd.ntmps6
    go_wp2_with (first
      | (go_at_call 17; refine (long_c A n c xs _ hn hr).mono ?_; rintro e w1 ⟨rfl, rfl⟩; rw [HLG.out])
      | (go_at_call 14; refine (awake_c _ hG).mono ?_; rintro e w3 ⟨rfl, hb3⟩))
    go_ret
    exact ⟨rfl, hb3⟩
end Go.Proofs.YtjlhapbahecpoaaDoor
