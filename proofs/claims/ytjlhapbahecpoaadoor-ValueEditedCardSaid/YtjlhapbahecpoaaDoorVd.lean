/- Contracts of CompareRows, of the program and of the reference, of Same and of the reference's ValidRow. No condition. -/
import Derived.Test.YtjlhapbahecpoaaDoorVc
namespace Go.Proofs.YtjlhapbahecpoaaDoor
open Go.RowKit

set_option maxRecDepth 100000 in
set_option maxHeartbeats 400000 in
theorem rvalidRow (A : Option Addr) (n c : Nat) (vs : List V) (w : World) (hn : n ≤ maxLen) (hr : Row w w.heap.size A n vs) :
    Calls Tryd.prog 23 #[.slice A n c] w fun e w' => e = .returned (.bool (rowOk vs)) ∧ Below w.heap.size w w' := by
  unfold maxLen at hn
  have HL := Lib.hid hr.len
  by_cases h16 : 16 < n
  · go_enter Tryd.func23, Tryd.ntmps23
    go_wp2
    go_ret
    refine ⟨ret_bool ?_, Below.refl _ _⟩
    simp only [rowOk, HL.out]
    simp; omega
  · go_enter Tryd.func23, Tryd.ntmps23
    go_wp2
    go_loopw [3] (fun i wr => ∃ k : Nat, k ≤ n ∧ i = .int .i64 k ∧ Hid ((vs.take k).all V.ok = true) ∧ Below w.heap.size w wr) (fun i _ => n - (intOf i).toNat)
    case atStart => exact ⟨0, Nat.zero_le _, rfl, rfl, Below.refl _ _⟩
    case round =>
      obtain ⟨k, hk, rfl, hH, hbel⟩ := hrel
      have hzz := hbel.size
      by_cases hlt : k < n
      · obtain ⟨b, off, v, rfl, hb, hv, hc0, hc1, hc2⟩ := Row.at3 (hr.below hbel) hlt
        have HV := Lib.hid hv
        clear hv
        generalize hok : v.ok = bk
        have HK := Lib.hid hok
        clear hok
        cases bk
        · go_wp2_with (go_at_call 19; refine (rvalid v _).mono ?_; rintro e w1 ⟨rfl, hb1⟩; rw [HK.out])
          go_ret
          refine ⟨ret_bool ?_, by (repeat (first | (with_reducible exact Below.refl _ _) | (with_reducible assumption) | (with_reducible refine Below.drew ?_) | (with_reducible refine below_drewN ?_ _) | ((with_reducible refine Below.setCell ?_ ?_ _); rotate_left; (focus (first | (simp; done) | (simp; omega) | omega))) | ((with_reducible refine Below.alloc ?_ ?_ _); rotate_left; (focus (first | (simp; done) | (simp; omega) | omega))) | ((with_reducible apply below_step1); (focus (with_reducible assumption)))))⟩
          simp only [rowOk, all_not_at V.ok vs k v HV.out HK.out, Bool.and_false]
        · go_wp2_with (go_at_call 19; refine (rvalid v _).mono ?_; rintro e w1 ⟨rfl, hb1⟩; rw [HK.out])
          go_roundw
          case rel => exact ⟨k + 1, by omega, by go_num, by show _ = true; rw [take_all_succ _ _ _ _ HV.out, hH.out, HK.out]; rfl, by (repeat (first | (with_reducible exact Below.refl _ _) | (with_reducible assumption) | (with_reducible refine Below.drew ?_) | (with_reducible refine below_drewN ?_ _) | ((with_reducible refine Below.setCell ?_ ?_ _); rotate_left; (focus (first | (simp; done) | (simp; omega) | omega))) | ((with_reducible refine Below.alloc ?_ ?_ _); rotate_left; (focus (first | (simp; done) | (simp; omega) | omega))) | ((with_reducible apply below_step1); (focus (with_reducible assumption)))))⟩
          case measure => simp [intOf]; omega
      · go_wp2
        go_ret
        refine ⟨ret_bool ?_, hbel⟩
        have h1 := hH.out
        rw [List.take_of_length_le (by rw [HL.out]; omega)] at h1
        simp only [rowOk, h1, HL.out, Bool.and_true]
        simp; omega

/-- The order of two rows of which the first k values are equal in order. -/
theorem cmpRows_at : ∀ (k : Nat) (xs ys : List V), cmpRows (xs.take k) (ys.take k) = 0 → k ≤ xs.length → k ≤ ys.length → cmpRows xs ys = cmpRows (xs.drop k) (ys.drop k) := by
  intro k
  induction k with
  | zero => intro xs ys _ _ _; simp
  | succ k ih =>
    intro xs ys h h1 h2
    cases xs with
    | nil => simp at h1
    | cons a xs =>
      cases ys with
      | nil => simp at h2
      | cons b ys =>
        simp only [List.take_succ_cons, cmpRows] at h
        simp only [List.drop_succ_cons, cmpRows]
        by_cases hc : cmpV a b = 0
        · rw [if_neg (by simpa using hc)] at h ⊢
          exact ih xs ys h (by simpa using h1) (by simpa using h2)
        · rw [if_pos hc] at h
          exact absurd h hc
theorem cmpRows_take_succ (k : Nat) (xs ys : List V) (a b : V) (ha : xs[k]? = some a) (hb : ys[k]? = some b) (h : cmpRows (xs.take k) (ys.take k) = 0) : cmpRows (xs.take (k + 1)) (ys.take (k + 1)) = if cmpV a b ≠ 0 then cmpV a b else 0 := by
  have h1 : k < xs.length := (List.getElem?_eq_some_iff.1 ha).1
  have h2 : k < ys.length := (List.getElem?_eq_some_iff.1 hb).1
  rw [cmpRows_at k _ _ (by simpa [List.take_take] using h) (by simp; omega) (by simp; omega)]
  have e1 : (xs.take (k + 1)).drop k = [a] := by
    rw [List.drop_take]; simp [List.drop_eq_getElem_cons h1, (List.getElem?_eq_some_iff.1 ha).2]
  have e2 : (ys.take (k + 1)).drop k = [b] := by
    rw [List.drop_take]; simp [List.drop_eq_getElem_cons h2, (List.getElem?_eq_some_iff.1 hb).2]
  rw [e1, e2]
  simp [cmpRows]
theorem cmpRows_found (k : Nat) (xs ys : List V) (a b : V) (ha : xs[k]? = some a) (hb : ys[k]? = some b) (h : cmpRows (xs.take k) (ys.take k) = 0) (hc : cmpV a b ≠ 0) : cmpRows xs ys = cmpV a b := by
  have h1 : k < xs.length := (List.getElem?_eq_some_iff.1 ha).1
  have h2 : k < ys.length := (List.getElem?_eq_some_iff.1 hb).1
  rw [cmpRows_at k _ _ h (by omega) (by omega), List.drop_eq_getElem_cons h1, List.drop_eq_getElem_cons h2, (List.getElem?_eq_some_iff.1 ha).2, (List.getElem?_eq_some_iff.1 hb).2, cmpRows, if_pos hc]
theorem cmpRows_end (k : Nat) (xs ys : List V) (h : cmpRows (xs.take k) (ys.take k) = 0) (h1 : k ≤ xs.length) (h2 : k ≤ ys.length) (hk : k = xs.length ∨ k = ys.length) : cmpRows xs ys = Lib.compareInt xs.length ys.length := by
  rw [cmpRows_at k _ _ h h1 h2]
  unfold Lib.compareInt
  rcases hk with hk | hk
  · rw [List.drop_of_length_le (show xs.length ≤ k by omega)]
    rcases Nat.lt_or_ge k ys.length with hl | hl
    · rw [List.drop_eq_getElem_cons hl, cmpRows, if_pos (by omega)]
    · rw [List.drop_of_length_le hl, cmpRows, if_neg (by omega), if_neg (by omega)]
  · rw [List.drop_of_length_le (show ys.length ≤ k by omega)]
    rcases Nat.lt_or_ge k xs.length with hl | hl
    · rw [List.drop_eq_getElem_cons hl, cmpRows, if_neg (by omega), if_pos (by omega)]
    · rw [List.drop_of_length_le hl, cmpRows, if_neg (by omega), if_neg (by omega)]

set_option maxRecDepth 100000 in
set_option maxHeartbeats 1000000 in
theorem vcompareRows (A B : Option Addr) (n c m d : Nat) (xs ys : List V) (w : World) (hn : n ≤ maxLen) (hm : m ≤ maxLen) (hr : Row w w.heap.size A n xs) (hs : Row w w.heap.size B m ys) :
    Calls Tryd.prog 26 #[.slice A n c, .slice B m d] w fun e w' => e = .returned (.int .i64 (cmpRows xs ys)) ∧ Below w.heap.size w w' := by
  unfold maxLen at hn hm
  have HL := Lib.hid hr.len
  have HM := Lib.hid hs.len
  have hmin : (min (n : Int) m) = ((min n m : Nat) : Int) := by omega
  go_enter Tryd.func26, Tryd.ntmps26
  go_wp2
  go_loopw [12] (fun i wr => ∃ k : Nat, k ≤ min n m ∧ i = .int .i64 k ∧ Hid (cmpRows (xs.take k) (ys.take k) = 0) ∧ Below w.heap.size w wr) (fun i _ => min n m - (intOf i).toNat)
  case atStart => exact ⟨0, Nat.zero_le _, rfl, by show cmpRows _ _ = 0; simp [cmpRows], Below.refl _ _⟩
  case round =>
    obtain ⟨k, hk, rfl, hH, hbel⟩ := hrel
    have hzz := hbel.size
    by_cases hlt : k < min n m
    · obtain ⟨b, off, x, rfl, hb, hx, hc0, hc1, hc2⟩ := Row.at3 (hr.below hbel) (show k < n by omega)
      obtain ⟨b', off', y, rfl, hb', hy, hd0, hd1, hd2⟩ := Row.at3 (hs.below hbel) (show k < m by omega)
      have HX := Lib.hid hx
      have HY := Lib.hid hy
      have hbw : b < wr.heap.size := by omega
      have hbw' : b' < wr.heap.size := by omega
      have hkn : (k : Int) < (n : Int) := by omega
      have hkm : (k : Int) < (m : Int) := by omega
      have hk0 : (0 : Int) ≤ (k : Int) := by omega
      clear hx hy hr hs
      by_cases hc : cmpV x y = 0
      · have HC := Lib.hid hc
        have hc' : (cmpV x y != 0) = false := by simpa using hc
        clear hc
        go_wp2_with fail
        go_region_held3 (fun w' => Below (wr).heap.size (wr) w' ∧ ∀ b o, b < (wr).heap.size → w'.cell? ⟨b, o, none⟩ = (wr).cell? ⟨b, o, none⟩) ((first | (with_reducible assumption) | (with_reducible exact ext_refl _) | ((with_reducible apply ext_step) <;> (with_reducible assumption)) | ((with_reducible refine ext_drew ?_) <;> (with_reducible assumption)) | ((with_reducible refine ext_alloc ?_ _) <;> (with_reducible assumption))))
          (first | (go_at_call 24; refine (vcompare x y _).mono ?_; rintro e w1 ⟨rfl, hb1⟩))
        go_wp2
        go_roundw
        case rel => exact ⟨k + 1, by omega, by go_num, by show cmpRows _ _ = 0; rw [cmpRows_take_succ _ _ _ _ _ HX.out HY.out hH.out, if_neg (by rw [HC.out]; simp)], by (repeat (first | (with_reducible exact Below.refl _ _) | (with_reducible assumption) | (with_reducible refine Below.drew ?_) | (with_reducible refine below_drewN ?_ _) | ((with_reducible refine Below.setCell ?_ ?_ _); rotate_left; (focus (first | (simp; done) | (simp; omega) | omega))) | ((with_reducible refine Below.alloc ?_ ?_ _); rotate_left; (focus (first | (simp; done) | (simp; omega) | omega))) | ((with_reducible apply below_step1); (focus (with_reducible assumption)))))⟩
        case measure => simp [intOf]; omega
      · have HC := Lib.hid hc
        have hc' : (cmpV x y != 0) = true := by simpa using hc
        clear hc
        go_wp2_with fail
        go_region_held3 (fun w' => Below (wr).heap.size (wr) w' ∧ ∀ b o, b < (wr).heap.size → w'.cell? ⟨b, o, none⟩ = (wr).cell? ⟨b, o, none⟩) ((first | (with_reducible assumption) | (with_reducible exact ext_refl _) | ((with_reducible apply ext_step) <;> (with_reducible assumption)) | ((with_reducible refine ext_drew ?_) <;> (with_reducible assumption)) | ((with_reducible refine ext_alloc ?_ _) <;> (with_reducible assumption))))
          (first | (go_at_call 24; refine (vcompare x y _).mono ?_; rintro e w1 ⟨rfl, hb1⟩))
        go_wp2
        go_ret
        exact ⟨ret_int (cmpRows_found k xs ys x y HX.out HY.out hH.out HC.out).symm, by (repeat (first | (with_reducible exact Below.refl _ _) | (with_reducible assumption) | (with_reducible refine Below.drew ?_) | (with_reducible refine below_drewN ?_ _) | ((with_reducible refine Below.setCell ?_ ?_ _); rotate_left; (focus (first | (simp; done) | (simp; omega) | omega))) | ((with_reducible refine Below.alloc ?_ ?_ _); rotate_left; (focus (first | (simp; done) | (simp; omega) | omega))) | ((with_reducible apply below_step1); (focus (with_reducible assumption)))))⟩
    · go_wp2_with (go_at_call 45; refine (Tryd.cmp_Compare_int _ _ _).mono ?_; rintro e w3 ⟨rfl, rfl⟩)
      go_ret
      refine ⟨ret_int ?_, hbel⟩
      rw [cmpRows_end k xs ys hH.out (by rw [HL.out]; omega) (by rw [HM.out]; omega) (by rw [HL.out, HM.out]; omega), HL.out, HM.out]
end Go.Proofs.YtjlhapbahecpoaaDoor
