/- Contracts of the reference's CompareRows and of Same. No condition. -/
import Derived.Test.YtjlhapbahecpoaaDoorVd
namespace Go.Proofs.YtjlhapbahecpoaaDoor
open Go.RowKit

set_option maxRecDepth 100000 in
set_option maxHeartbeats 1000000 in
theorem rcompareRows (A B : Option Addr) (n c m d : Nat) (xs ys : List V) (w : World) (hn : n ≤ maxLen) (hm : m ≤ maxLen) (hr : Row w w.heap.size A n xs) (hs : Row w w.heap.size B m ys) :
    Calls Tryd.prog 27 #[.slice A n c, .slice B m d] w fun e w' => e = .returned (.int .i64 (cmpRows xs ys)) ∧ Below w.heap.size w w' := by
  unfold maxLen at hn hm
  have HL := Lib.hid hr.len
  have HM := Lib.hid hs.len
  go_enter Tryd.func27, Tryd.ntmps27
  go_wp2
  go_loopw [5] (fun i wr => ∃ k : Nat, k ≤ n ∧ k ≤ m ∧ i = .int .i64 k ∧ Hid (cmpRows (xs.take k) (ys.take k) = 0) ∧ Below w.heap.size w wr) (fun i _ => n - (intOf i).toNat)
  case atStart => exact ⟨0, Nat.zero_le _, Nat.zero_le _, rfl, by show cmpRows _ _ = 0; simp [cmpRows], Below.refl _ _⟩
  case round =>
    obtain ⟨k, hk, hkk, rfl, hH, hbel⟩ := hrel
    have hzz := hbel.size
    by_cases hlt : k < n ∧ k < m
    · obtain ⟨b, off, x, rfl, hb, hx, hc0, hc1, hc2⟩ := Row.at3 (hr.below hbel) (show k < n by omega)
      obtain ⟨b', off', y, rfl, hb', hy, hd0, hd1, hd2⟩ := Row.at3 (hs.below hbel) (show k < m by omega)
      have HX := Lib.hid hx
      have HY := Lib.hid hy
      have hbw : b < wr.heap.size := by omega
      have hbw' : b' < wr.heap.size := by omega
      have hkn : (k : Int) < (n : Int) := by omega
      have hkm : (k : Int) < (m : Int) := by omega
      have hk0 : (0 : Int) ≤ (k : Int) := by omega
      obtain ⟨hlt1, hlt2⟩ := hlt
      clear hx hy hr hs
      by_cases hc : cmpV x y = 0
      · have HC := Lib.hid hc
        have hc' : (cmpV x y != 0) = false := by simpa using hc
        clear hc
        go_wp2_with fail
        go_region_held3 (fun w' => Below (wr).heap.size (wr) w' ∧ ∀ b o, b < (wr).heap.size → w'.cell? ⟨b, o, none⟩ = (wr).cell? ⟨b, o, none⟩) ((first | (with_reducible assumption) | (with_reducible exact ext_refl _) | ((with_reducible apply ext_step) <;> (with_reducible assumption)) | ((with_reducible refine ext_drew ?_) <;> (with_reducible assumption)) | ((with_reducible refine ext_alloc ?_ _) <;> (with_reducible assumption))))
          (first | (go_at_call 25; refine (rcompare x y _).mono ?_; rintro e w1 ⟨rfl, hb1⟩))
        go_wp2
        go_roundw
        case rel => exact ⟨k + 1, by omega, by omega, by go_num, by show cmpRows _ _ = 0; rw [cmpRows_take_succ _ _ _ _ _ HX.out HY.out hH.out, if_neg (by rw [HC.out]; simp)], by (repeat (first | (with_reducible exact Below.refl _ _) | (with_reducible assumption) | (with_reducible refine Below.drew ?_) | (with_reducible refine below_drewN ?_ _) | ((with_reducible refine Below.setCell ?_ ?_ _); rotate_left; (focus (first | (simp; done) | (simp; omega) | omega))) | ((with_reducible refine Below.alloc ?_ ?_ _); rotate_left; (focus (first | (simp; done) | (simp; omega) | omega))) | ((with_reducible apply below_step1); (focus (with_reducible assumption)))))⟩
        case measure => simp [intOf]; omega
      · have HC := Lib.hid hc
        have hc' : (cmpV x y != 0) = true := by simpa using hc
        clear hc
        go_wp2_with fail
        go_region_held3 (fun w' => Below (wr).heap.size (wr) w' ∧ ∀ b o, b < (wr).heap.size → w'.cell? ⟨b, o, none⟩ = (wr).cell? ⟨b, o, none⟩) ((first | (with_reducible assumption) | (with_reducible exact ext_refl _) | ((with_reducible apply ext_step) <;> (with_reducible assumption)) | ((with_reducible refine ext_drew ?_) <;> (with_reducible assumption)) | ((with_reducible refine ext_alloc ?_ _) <;> (with_reducible assumption))))
          (first | (go_at_call 25; refine (rcompare x y _).mono ?_; rintro e w1 ⟨rfl, hb1⟩))
        go_wp2
        go_ret
        exact ⟨ret_int (cmpRows_found k xs ys x y HX.out HY.out hH.out HC.out).symm, by (repeat (first | (with_reducible exact Below.refl _ _) | (with_reducible assumption) | (with_reducible refine Below.drew ?_) | (with_reducible refine below_drewN ?_ _) | ((with_reducible refine Below.setCell ?_ ?_ _); rotate_left; (focus (first | (simp; done) | (simp; omega) | omega))) | ((with_reducible refine Below.alloc ?_ ?_ _); rotate_left; (focus (first | (simp; done) | (simp; omega) | omega))) | ((with_reducible apply below_step1); (focus (with_reducible assumption)))))⟩
    · have HE := Lib.hid (cmpRows_end k xs ys hH.out (by rw [HL.out]; omega) (by rw [HM.out]; omega) (by rw [HL.out, HM.out]; omega))
      by_cases h1 : k < n
      · have h2 : ¬ k < m := fun h => hlt ⟨h1, h⟩
        clear hlt
        have h3 : (m : Int) < (n : Int) := by omega
        go_wp2
        go_ret
        exact ⟨ret_int (by rw [HE.out, HL.out, HM.out, Lib.compareInt, if_neg (by omega), if_pos (by omega)]), hbel⟩
      · clear hlt
        by_cases h2 : n < m
        · have h3 : (n : Int) < (m : Int) := by omega
          go_wp2
          go_ret
          exact ⟨ret_int (by rw [HE.out, HL.out, HM.out, Lib.compareInt, if_pos (by omega)]), hbel⟩
        · have h3 : ¬ (n : Int) < (m : Int) := by omega
          have h4 : ¬ (m : Int) < (n : Int) := by omega
          go_wp2
          go_ret
          exact ⟨ret_int (by rw [HE.out, HL.out, HM.out, Lib.compareInt, if_neg (by omega), if_neg (by omega)]), hbel⟩

/-- Two rows are the same, without cleaning. -/
def sameB : List V → List V → Bool
  | [], [] => true
  | a :: l, b :: m => a.beq b && sameB l m
  | _, _ => false
theorem sameB_iff : ∀ (xs ys : List V), sameB xs ys = true ↔ xs = ys := by
  intro xs
  induction xs with
  | nil => intro ys; cases ys <;> simp [sameB]
  | cons a l ih => intro ys; cases ys with
    | nil => simp [sameB]
    | cons b m => simp [sameB, ih, V.beq_iff]
theorem same_len {xs ys : List V} (h : xs.length ≠ ys.length) : sameB xs ys = false := by
  rw [Bool.eq_false_iff]; intro h1; exact h (by rw [(sameB_iff xs ys).1 h1])
theorem same_not (k : Nat) (xs ys : List V) (x y : V) (hx : xs[k]? = some x) (hy : ys[k]? = some y) (h : x.beq y = false) : sameB xs ys = false := by
  rw [Bool.eq_false_iff]; intro h1
  rw [(sameB_iff xs ys).1 h1, hy] at hx
  injection hx with hx
  subst hx
  exact (V.beq_false y y).1 h rfl

set_option maxRecDepth 100000 in
set_option maxHeartbeats 1000000 in
theorem same_c (A B : Option Addr) (n c m d : Nat) (xs ys : List V) (w : World) (hn : n ≤ maxLen) (hm : m ≤ maxLen) (hr : Row w w.heap.size A n xs) (hs : Row w w.heap.size B m ys) :
    Calls Tryd.prog 30 #[.slice A n c, .slice B m d] w fun e w' => e = .returned (.bool (sameB xs ys)) ∧ Below w.heap.size w w' := by
  unfold maxLen at hn hm
  have HL := Lib.hid hr.len
  have HM := Lib.hid hs.len
  by_cases hnm : n = m
  · subst hnm
    have hne : ((n : Int) != (n : Int)) = false := by simp
    go_enter Tryd.func30, Tryd.ntmps30
    go_wp2
    go_loopw [5] (fun i wr => ∃ k : Nat, k ≤ n ∧ i = .int .i64 k ∧ Hid (xs.take k = ys.take k) ∧ Below w.heap.size w wr) (fun i _ => n - (intOf i).toNat)
    case atStart => exact ⟨0, Nat.zero_le _, rfl, by show xs.take 0 = ys.take 0; simp, Below.refl _ _⟩
    case round =>
      obtain ⟨k, hk, rfl, hH, hbel⟩ := hrel
      have hzz := hbel.size
      by_cases hlt : k < n
      · obtain ⟨b, off, x, rfl, hb, hx, hc0, hc1, hc2⟩ := Row.at3 (hr.below hbel) hlt
        obtain ⟨b', off', y, rfl, hb', hy, hd0, hd1, hd2⟩ := Row.at3 (hs.below hbel) hlt
        have HX := Lib.hid hx
        have HY := Lib.hid hy
        have hkn : (k : Int) < (n : Int) := by omega
        have hk0 : (0 : Int) ≤ (k : Int) := by omega
        clear hx hy hr hs
        have he := run_neqV x.k x.n x.s y.k y.n y.s
        cases hq : x.beq y
        · have he' : ∀ w, _ := fun w => (he w).trans (by rw [show eqB x.k x.n x.s y.k y.n y.s = false from hq])
          have HQ := Lib.hid hq
          clear hq he
          go_wp2_with fail
          go_quiet (fail)
          go_wp2
          go_ret
          exact ⟨ret_bool (same_not k xs ys x y HX.out HY.out HQ.out).symm, by (repeat (first | (with_reducible exact Below.refl _ _) | (with_reducible assumption) | (with_reducible refine Below.drew ?_) | (with_reducible refine below_drewN ?_ _) | ((with_reducible refine Below.setCell ?_ ?_ _); rotate_left; (focus (first | (simp; done) | (simp; omega) | omega))) | ((with_reducible refine Below.alloc ?_ ?_ _); rotate_left; (focus (first | (simp; done) | (simp; omega) | omega))) | ((with_reducible apply below_step1); (focus (with_reducible assumption)))))⟩
        · have he' : ∀ w, _ := fun w => (he w).trans (by rw [show eqB x.k x.n x.s y.k y.n y.s = true from hq])
          have HQ := Lib.hid hq
          clear hq he
          go_wp2_with fail
          go_quiet (fail)
          go_wp2
          go_roundw
          case rel => exact ⟨k + 1, by omega, by go_num, by show xs.take (k + 1) = ys.take (k + 1); rw [List.take_add_one, List.take_add_one, HX.out, HY.out, hH.out, (V.beq_iff x y).1 HQ.out], by (repeat (first | (with_reducible exact Below.refl _ _) | (with_reducible assumption) | (with_reducible refine Below.drew ?_) | (with_reducible refine below_drewN ?_ _) | ((with_reducible refine Below.setCell ?_ ?_ _); rotate_left; (focus (first | (simp; done) | (simp; omega) | omega))) | ((with_reducible refine Below.alloc ?_ ?_ _); rotate_left; (focus (first | (simp; done) | (simp; omega) | omega))) | ((with_reducible apply below_step1); (focus (with_reducible assumption)))))⟩
          case measure => simp [intOf]; omega
      · go_wp2
        go_ret
        refine ⟨ret_bool ?_, hbel⟩
        have h1 := hH.out
        rw [List.take_of_length_le (by rw [HL.out]; omega), List.take_of_length_le (by rw [HM.out]; omega)] at h1
        exact ((sameB_iff xs ys).2 h1).symm
  · have hne : ((n : Int) != (m : Int)) = true := by rw [bne_iff_ne]; omega
    go_enter Tryd.func30, Tryd.ntmps30
    go_wp2
    go_ret
    exact ⟨ret_bool (same_len (by rw [HL.out, HM.out]; exact hnm)).symm, Below.refl _ _⟩
end Go.Proofs.YtjlhapbahecpoaaDoor
