/- Contracts of the program's product, quotient and ofNumbers: numbers from -2^32 to 2^32. -/
import Derived.Test.YtojcabnjodfdmaaDoorEf
namespace Go.Proofs.YtojcabnjodfdmaaDoor
open Go.RowKit

theorem tdiv_abs (a b : Int) : -a.natAbs ≤ a.tdiv b ∧ a.tdiv b ≤ a.natAbs := by
  have h : (a.tdiv b).natAbs ≤ a.natAbs := by rw [Int.natAbs_tdiv]; exact Nat.div_le_self _ _
  omega
theorem tmod_abs (a b : Int) : -a.natAbs ≤ a.tmod b ∧ a.tmod b ≤ a.natAbs := by
  have h : (a.tmod b).natAbs ≤ a.natAbs := by rw [Int.natAbs_tmod]; exact Nat.mod_le _ _
  omega
theorem prod_small {a b m : Int} (hm : 0 ≤ m) (ha : a ≠ 0) (h : ¬ max b (-b) > m.tdiv (max a (-a))) : -m ≤ a * b ∧ a * b ≤ m := by
  have h1 : 0 < max a (-a) := by omega
  have h2 : max b (-b) * max a (-a) ≤ m := by
    have h3 : max b (-b) ≤ m / max a (-a) := by rw [Int.tdiv_eq_ediv_of_nonneg hm] at h; omega
    have h4 := Int.mul_le_mul_of_nonneg_right h3 (show 0 ≤ max a (-a) by omega)
    have h5 := Int.ediv_mul_le m (show max a (-a) ≠ 0 by omega)
    omega
  have e : (a * b).natAbs = (max b (-b) * max a (-a)).natAbs := by
    rw [Int.natAbs_mul, Int.natAbs_mul, Nat.mul_comm]
    congr 1 <;> omega
  have h6 : 0 ≤ max b (-b) * max a (-a) := Int.mul_nonneg (by omega) (by omega)
  omega

set_option maxRecDepth 100000 in
set_option maxHeartbeats 1000000 in
theorem product_c (a b : Int) (w : World) (ha : -4294967296 ≤ a ∧ a ≤ 4294967296) (hb : -4294967296 ≤ b ∧ b ≤ 4294967296) : Calls Tryd.prog 85 #[.int .i64 a, .int .i64 b] w fun e w' => e = .returned (.agg #[.int .i64 (prodV a b).k, .int .i64 (prodV a b).n, .string (prodV a b).s]) ∧ Below w.heap.size w w' := by
  have HE := Lib.hid (show prodV a b = if a ≠ 0 ∧ max b (-b) > (4294967296 : Int).tdiv (max a (-a)) then V.null else numV (a * b) from rfl)
  have HPS := Lib.hid (fun h => prod_small (a := a) (b := b) (m := 4294967296) (by omega) h)
  generalize prodV a b = r at HE
  have hna : IntKind.i64.wrap (-a) = -a := IntWalk.i64_in _ (by omega)
  have hnb : IntKind.i64.wrap (-b) = -b := IntWalk.i64_in _ (by omega)
  by_cases h0 : a = 0
  · have t0 : (a != 0) = false := by simpa using h0
    rw [if_neg (fun h => h.1 h0)] at HE
    have hz : a * b = 0 := by rw [h0, Int.zero_mul]
    have hab : IntKind.i64.wrap (a * b) = a * b := by rw [hz]; rfl
    clear h0 hz
    go_enter Tryd.func85, Tryd.ntmps85
    go_wp2_with (go_at_call 83; refine (number_c _ _).mono ?_; rintro e w1 ⟨rfl, hb1⟩; obtain ⟨hc1, hf1⟩ := bcell hb1; have hz1 := (hb1).size; (try simp at hz1); have hl10 : w.heap.size < w1.heap.size := (by omega))
    refine bodyPost_ret (by simp [results, Tryd.results85, go_sem, *]; rfl) rfl ?_
    rw [HE.out]
    exact ⟨rfl, by (repeat (first | (with_reducible exact Below.refl _ _) | (with_reducible assumption) | (with_reducible refine Below.drew ?_) | (with_reducible refine below_drewN ?_ _) | ((with_reducible refine Below.setCell ?_ ?_ _); rotate_left; (focus (first | (simp; done) | (simp; omega) | omega))) | ((with_reducible refine Below.alloc ?_ ?_ _); rotate_left; (focus (first | (simp; done) | (simp; omega) | omega))) | ((with_reducible apply below_step1); (focus (with_reducible assumption)))))⟩
  have t0 : (a != 0) = true := by simpa using h0
  have hqd : (4294967296 : Int).tdiv (max a (-a)) = 4294967296 / max a (-a) := Int.tdiv_eq_ediv_of_nonneg (by omega)
  have hqb := tdiv_abs 4294967296 (max a (-a))
  obtain ⟨q, hq⟩ : ∃ q, (4294967296 : Int).tdiv (max a (-a)) = q := ⟨_, rfl⟩
  rw [hq] at hqb HE HPS hqd
  have hqw : IntKind.i64.wrap q = q := IntWalk.i64_in _ (by omega)
  clear hq
  by_cases ha0 : 0 ≤ a
  · have ma : max a (-a) = a := by omega
    rw [ma] at hqd
    have ha1 : -a ≤ a := by omega
    have hdv : 4294967296 / a = q := hqd.symm
    have hz : (a == 0) = false := by simpa using h0
    clear hqd
    by_cases hb0 : 0 ≤ b
    · have mb : max b (-b) = b := by omega
      rw [mb] at HE HPS
      have hb1 : -b ≤ b := by omega
      by_cases hc : q < b
      · rw [if_pos ⟨h0, hc⟩] at HE
        clear ma mb
        go_enter Tryd.func85, Tryd.ntmps85
        go_wp2_with fail
        refine bodyPost_ret (by simp [results, Tryd.results85, go_sem, *]; rfl) rfl ?_
        rw [HE.out]
        exact ⟨rfl, by (repeat (first | (with_reducible exact Below.refl _ _) | (with_reducible assumption) | (with_reducible refine Below.drew ?_) | (with_reducible refine below_drewN ?_ _) | ((with_reducible refine Below.setCell ?_ ?_ _); rotate_left; (focus (first | (simp; done) | (simp; omega) | omega))) | ((with_reducible refine Below.alloc ?_ ?_ _); rotate_left; (focus (first | (simp; done) | (simp; omega) | omega))) | ((with_reducible apply below_step1); (focus (with_reducible assumption)))))⟩
      · rw [if_neg (fun h => hc h.2)] at HE
        have hps := HPS.out h0 hc
        have hab : IntKind.i64.wrap (a * b) = a * b := IntWalk.i64_in _ (by omega)
        clear hps ma mb
        go_enter Tryd.func85, Tryd.ntmps85
        go_wp2_with (go_at_call 83; refine (number_c _ _).mono ?_; rintro e w1 ⟨rfl, hb1⟩; obtain ⟨hc1, hf1⟩ := bcell hb1; have hz1 := (hb1).size; (try simp at hz1); have hl10 : w.heap.size < w1.heap.size := (by omega))
        refine bodyPost_ret (by simp [results, Tryd.results85, go_sem, *]; rfl) rfl ?_
        rw [HE.out]
        exact ⟨rfl, by (repeat (first | (with_reducible exact Below.refl _ _) | (with_reducible assumption) | (with_reducible refine Below.drew ?_) | (with_reducible refine below_drewN ?_ _) | ((with_reducible refine Below.setCell ?_ ?_ _); rotate_left; (focus (first | (simp; done) | (simp; omega) | omega))) | ((with_reducible refine Below.alloc ?_ ?_ _); rotate_left; (focus (first | (simp; done) | (simp; omega) | omega))) | ((with_reducible apply below_step1); (focus (with_reducible assumption)))))⟩
    · have mb : max b (-b) = -b := by omega
      rw [mb] at HE HPS
      have hb1 : b < -b := by omega
      by_cases hc : q < -b
      · rw [if_pos ⟨h0, hc⟩] at HE
        clear ma mb
        go_enter Tryd.func85, Tryd.ntmps85
        go_wp2_with fail
        refine bodyPost_ret (by simp [results, Tryd.results85, go_sem, *]; rfl) rfl ?_
        rw [HE.out]
        exact ⟨rfl, by (repeat (first | (with_reducible exact Below.refl _ _) | (with_reducible assumption) | (with_reducible refine Below.drew ?_) | (with_reducible refine below_drewN ?_ _) | ((with_reducible refine Below.setCell ?_ ?_ _); rotate_left; (focus (first | (simp; done) | (simp; omega) | omega))) | ((with_reducible refine Below.alloc ?_ ?_ _); rotate_left; (focus (first | (simp; done) | (simp; omega) | omega))) | ((with_reducible apply below_step1); (focus (with_reducible assumption)))))⟩
      · rw [if_neg (fun h => hc h.2)] at HE
        have hps := HPS.out h0 hc
        have hab : IntKind.i64.wrap (a * b) = a * b := IntWalk.i64_in _ (by omega)
        clear hps ma mb
        go_enter Tryd.func85, Tryd.ntmps85
        go_wp2_with (go_at_call 83; refine (number_c _ _).mono ?_; rintro e w1 ⟨rfl, hb1⟩; obtain ⟨hc1, hf1⟩ := bcell hb1; have hz1 := (hb1).size; (try simp at hz1); have hl10 : w.heap.size < w1.heap.size := (by omega))
        refine bodyPost_ret (by simp [results, Tryd.results85, go_sem, *]; rfl) rfl ?_
        rw [HE.out]
        exact ⟨rfl, by (repeat (first | (with_reducible exact Below.refl _ _) | (with_reducible assumption) | (with_reducible refine Below.drew ?_) | (with_reducible refine below_drewN ?_ _) | ((with_reducible refine Below.setCell ?_ ?_ _); rotate_left; (focus (first | (simp; done) | (simp; omega) | omega))) | ((with_reducible refine Below.alloc ?_ ?_ _); rotate_left; (focus (first | (simp; done) | (simp; omega) | omega))) | ((with_reducible apply below_step1); (focus (with_reducible assumption)))))⟩
  · have ma : max a (-a) = -a := by omega
    rw [ma] at hqd
    have ha1 : a < -a := by omega
    have hdv : -Int.tdiv 4294967296 a = q := by rw [Int.tdiv_eq_ediv_of_nonneg (by omega), hqd, Int.ediv_neg]
    have hqx : wrap64 q = q := IntWalk.wrap64_in _ ⟨by omega, by omega⟩
    have hz : (-a == 0) = false := by simp; omega
    clear hqd
    by_cases hb0 : 0 ≤ b
    · have mb : max b (-b) = b := by omega
      rw [mb] at HE HPS
      have hb1 : -b ≤ b := by omega
      by_cases hc : q < b
      · rw [if_pos ⟨h0, hc⟩] at HE
        clear ma mb
        go_enter Tryd.func85, Tryd.ntmps85
        go_wp2_with fail
        refine bodyPost_ret (by simp [results, Tryd.results85, go_sem, *]; rfl) rfl ?_
        rw [HE.out]
        exact ⟨rfl, by (repeat (first | (with_reducible exact Below.refl _ _) | (with_reducible assumption) | (with_reducible refine Below.drew ?_) | (with_reducible refine below_drewN ?_ _) | ((with_reducible refine Below.setCell ?_ ?_ _); rotate_left; (focus (first | (simp; done) | (simp; omega) | omega))) | ((with_reducible refine Below.alloc ?_ ?_ _); rotate_left; (focus (first | (simp; done) | (simp; omega) | omega))) | ((with_reducible apply below_step1); (focus (with_reducible assumption)))))⟩
      · rw [if_neg (fun h => hc h.2)] at HE
        have hps := HPS.out h0 hc
        have hab : IntKind.i64.wrap (a * b) = a * b := IntWalk.i64_in _ (by omega)
        clear hps ma mb
        go_enter Tryd.func85, Tryd.ntmps85
        go_wp2_with (go_at_call 83; refine (number_c _ _).mono ?_; rintro e w1 ⟨rfl, hb1⟩; obtain ⟨hc1, hf1⟩ := bcell hb1; have hz1 := (hb1).size; (try simp at hz1); have hl10 : w.heap.size < w1.heap.size := (by omega))
        refine bodyPost_ret (by simp [results, Tryd.results85, go_sem, *]; rfl) rfl ?_
        rw [HE.out]
        exact ⟨rfl, by (repeat (first | (with_reducible exact Below.refl _ _) | (with_reducible assumption) | (with_reducible refine Below.drew ?_) | (with_reducible refine below_drewN ?_ _) | ((with_reducible refine Below.setCell ?_ ?_ _); rotate_left; (focus (first | (simp; done) | (simp; omega) | omega))) | ((with_reducible refine Below.alloc ?_ ?_ _); rotate_left; (focus (first | (simp; done) | (simp; omega) | omega))) | ((with_reducible apply below_step1); (focus (with_reducible assumption)))))⟩
    · have mb : max b (-b) = -b := by omega
      rw [mb] at HE HPS
      have hb1 : b < -b := by omega
      by_cases hc : q < -b
      · rw [if_pos ⟨h0, hc⟩] at HE
        clear ma mb
        go_enter Tryd.func85, Tryd.ntmps85
        go_wp2_with fail
        refine bodyPost_ret (by simp [results, Tryd.results85, go_sem, *]; rfl) rfl ?_
        rw [HE.out]
        exact ⟨rfl, by (repeat (first | (with_reducible exact Below.refl _ _) | (with_reducible assumption) | (with_reducible refine Below.drew ?_) | (with_reducible refine below_drewN ?_ _) | ((with_reducible refine Below.setCell ?_ ?_ _); rotate_left; (focus (first | (simp; done) | (simp; omega) | omega))) | ((with_reducible refine Below.alloc ?_ ?_ _); rotate_left; (focus (first | (simp; done) | (simp; omega) | omega))) | ((with_reducible apply below_step1); (focus (with_reducible assumption)))))⟩
      · rw [if_neg (fun h => hc h.2)] at HE
        have hps := HPS.out h0 hc
        have hab : IntKind.i64.wrap (a * b) = a * b := IntWalk.i64_in _ (by omega)
        clear hps ma mb
        go_enter Tryd.func85, Tryd.ntmps85
        go_wp2_with (go_at_call 83; refine (number_c _ _).mono ?_; rintro e w1 ⟨rfl, hb1⟩; obtain ⟨hc1, hf1⟩ := bcell hb1; have hz1 := (hb1).size; (try simp at hz1); have hl10 : w.heap.size < w1.heap.size := (by omega))
        refine bodyPost_ret (by simp [results, Tryd.results85, go_sem, *]; rfl) rfl ?_
        rw [HE.out]
        exact ⟨rfl, by (repeat (first | (with_reducible exact Below.refl _ _) | (with_reducible assumption) | (with_reducible refine Below.drew ?_) | (with_reducible refine below_drewN ?_ _) | ((with_reducible refine Below.setCell ?_ ?_ _); rotate_left; (focus (first | (simp; done) | (simp; omega) | omega))) | ((with_reducible refine Below.alloc ?_ ?_ _); rotate_left; (focus (first | (simp; done) | (simp; omega) | omega))) | ((with_reducible apply below_step1); (focus (with_reducible assumption)))))⟩
set_option maxRecDepth 100000 in
set_option maxHeartbeats 1000000 in
theorem quotient_c (a b : Int) (w : World) (ha : -4294967296 ≤ a ∧ a ≤ 4294967296) (hb : -4294967296 ≤ b ∧ b ≤ 4294967296) : Calls Tryd.prog 86 #[.int .i64 a, .int .i64 b] w fun e w' => e = .returned (.agg #[.int .i64 (quotV a b).k, .int .i64 (quotV a b).n, .string (quotV a b).s]) ∧ Below w.heap.size w w' := by
  have HE := Lib.hid (show quotV a b = if b = 0 then V.null else if a.tmod b ≠ 0 ∧ (decide (a < 0) != decide (b < 0)) = true then numV (a.tdiv b - 1) else numV (a.tdiv b) from rfl)
  generalize quotV a b = r at HE
  by_cases h0 : b = 0
  · have t0 : (b == 0) = true := by simpa using h0
    rw [if_pos h0] at HE
    clear h0
    go_enter Tryd.func86, Tryd.ntmps86
    go_wp2_with fail
    refine bodyPost_ret (by simp [results, Tryd.results86, go_sem, *]; rfl) rfl ?_
    rw [HE.out]
    exact ⟨rfl, by (repeat (first | (with_reducible exact Below.refl _ _) | (with_reducible assumption) | (with_reducible refine Below.drew ?_) | (with_reducible refine below_drewN ?_ _) | ((with_reducible refine Below.setCell ?_ ?_ _); rotate_left; (focus (first | (simp; done) | (simp; omega) | omega))) | ((with_reducible refine Below.alloc ?_ ?_ _); rotate_left; (focus (first | (simp; done) | (simp; omega) | omega))) | ((with_reducible apply below_step1); (focus (with_reducible assumption)))))⟩
  have t0 : (b == 0) = false := by simpa using h0
  rw [if_neg h0] at HE
  obtain ⟨q, hq⟩ : ∃ q, a.tdiv b = q := ⟨_, rfl⟩
  obtain ⟨m, hm⟩ : ∃ m, a.tmod b = m := ⟨_, rfl⟩
  have hqb := tdiv_abs a b
  have hmb := tmod_abs a b
  rw [hq] at hqb HE
  rw [hm] at hmb HE
  have hqw : IntKind.i64.wrap q = q := IntWalk.i64_in _ (by omega)
  have hmw : IntKind.i64.wrap m = m := IntWalk.i64_in _ (by omega)
  have hq1 : IntKind.i64.wrap (q - 1) = q - 1 := IntWalk.i64_in _ (by omega)
  by_cases hm0 : m = 0
  · have tm : (m != 0) = false := by simpa using hm0
    rw [if_neg (fun h => h.1 hm0)] at HE
    clear hm0
    go_enter Tryd.func86, Tryd.ntmps86
    go_wp2_with (go_at_call 83; refine (number_c _ _).mono ?_; rintro e w1 ⟨rfl, hb1⟩; obtain ⟨hc1, hf1⟩ := bcell hb1; have hz1 := (hb1).size; (try simp at hz1); have hl10 : w.heap.size < w1.heap.size := (by omega))
    refine bodyPost_ret (by simp [results, Tryd.results86, go_sem, *]; rfl) rfl ?_
    rw [HE.out]
    exact ⟨rfl, by (repeat (first | (with_reducible exact Below.refl _ _) | (with_reducible assumption) | (with_reducible refine Below.drew ?_) | (with_reducible refine below_drewN ?_ _) | ((with_reducible refine Below.setCell ?_ ?_ _); rotate_left; (focus (first | (simp; done) | (simp; omega) | omega))) | ((with_reducible refine Below.alloc ?_ ?_ _); rotate_left; (focus (first | (simp; done) | (simp; omega) | omega))) | ((with_reducible apply below_step1); (focus (with_reducible assumption)))))⟩
  have tm : (m != 0) = true := by simpa using hm0
  by_cases sa : a < 0
  · have da : decide (a < 0) = true := by simpa using sa
    by_cases sb : b < 0
    · have db : decide (b < 0) = true := by simpa using sb
      rw [da, db] at HE
      rw [if_neg (fun h => by cases h.2)] at HE
      clear hm0
      go_enter Tryd.func86, Tryd.ntmps86
      go_wp2_with (go_at_call 83; refine (number_c _ _).mono ?_; rintro e w1 ⟨rfl, hb1⟩; obtain ⟨hc1, hf1⟩ := bcell hb1; have hz1 := (hb1).size; (try simp at hz1); have hl10 : w.heap.size < w1.heap.size := (by omega))
      refine bodyPost_ret (by simp [results, Tryd.results86, go_sem, *]; rfl) rfl ?_
      rw [HE.out]
      exact ⟨rfl, by (repeat (first | (with_reducible exact Below.refl _ _) | (with_reducible assumption) | (with_reducible refine Below.drew ?_) | (with_reducible refine below_drewN ?_ _) | ((with_reducible refine Below.setCell ?_ ?_ _); rotate_left; (focus (first | (simp; done) | (simp; omega) | omega))) | ((with_reducible refine Below.alloc ?_ ?_ _); rotate_left; (focus (first | (simp; done) | (simp; omega) | omega))) | ((with_reducible apply below_step1); (focus (with_reducible assumption)))))⟩
    · have db : decide (b < 0) = false := by simpa using sb
      rw [da, db] at HE
      rw [if_pos ⟨hm0, rfl⟩] at HE
      clear hm0
      go_enter Tryd.func86, Tryd.ntmps86
      go_wp2_with (go_at_call 83; refine (number_c _ _).mono ?_; rintro e w1 ⟨rfl, hb1⟩; obtain ⟨hc1, hf1⟩ := bcell hb1; have hz1 := (hb1).size; (try simp at hz1); have hl10 : w.heap.size < w1.heap.size := (by omega))
      refine bodyPost_ret (by simp [results, Tryd.results86, go_sem, *]; rfl) rfl ?_
      rw [HE.out]
      exact ⟨rfl, by (repeat (first | (with_reducible exact Below.refl _ _) | (with_reducible assumption) | (with_reducible refine Below.drew ?_) | (with_reducible refine below_drewN ?_ _) | ((with_reducible refine Below.setCell ?_ ?_ _); rotate_left; (focus (first | (simp; done) | (simp; omega) | omega))) | ((with_reducible refine Below.alloc ?_ ?_ _); rotate_left; (focus (first | (simp; done) | (simp; omega) | omega))) | ((with_reducible apply below_step1); (focus (with_reducible assumption)))))⟩
  · have da : decide (a < 0) = false := by simpa using sa
    by_cases sb : b < 0
    · have db : decide (b < 0) = true := by simpa using sb
      rw [da, db] at HE
      rw [if_pos ⟨hm0, rfl⟩] at HE
      clear hm0
      go_enter Tryd.func86, Tryd.ntmps86
      go_wp2_with (go_at_call 83; refine (number_c _ _).mono ?_; rintro e w1 ⟨rfl, hb1⟩; obtain ⟨hc1, hf1⟩ := bcell hb1; have hz1 := (hb1).size; (try simp at hz1); have hl10 : w.heap.size < w1.heap.size := (by omega))
      refine bodyPost_ret (by simp [results, Tryd.results86, go_sem, *]; rfl) rfl ?_
      rw [HE.out]
      exact ⟨rfl, by (repeat (first | (with_reducible exact Below.refl _ _) | (with_reducible assumption) | (with_reducible refine Below.drew ?_) | (with_reducible refine below_drewN ?_ _) | ((with_reducible refine Below.setCell ?_ ?_ _); rotate_left; (focus (first | (simp; done) | (simp; omega) | omega))) | ((with_reducible refine Below.alloc ?_ ?_ _); rotate_left; (focus (first | (simp; done) | (simp; omega) | omega))) | ((with_reducible apply below_step1); (focus (with_reducible assumption)))))⟩
    · have db : decide (b < 0) = false := by simpa using sb
      rw [da, db] at HE
      rw [if_neg (fun h => by cases h.2)] at HE
      clear hm0
      go_enter Tryd.func86, Tryd.ntmps86
      go_wp2_with (go_at_call 83; refine (number_c _ _).mono ?_; rintro e w1 ⟨rfl, hb1⟩; obtain ⟨hc1, hf1⟩ := bcell hb1; have hz1 := (hb1).size; (try simp at hz1); have hl10 : w.heap.size < w1.heap.size := (by omega))
      refine bodyPost_ret (by simp [results, Tryd.results86, go_sem, *]; rfl) rfl ?_
      rw [HE.out]
      exact ⟨rfl, by (repeat (first | (with_reducible exact Below.refl _ _) | (with_reducible assumption) | (with_reducible refine Below.drew ?_) | (with_reducible refine below_drewN ?_ _) | ((with_reducible refine Below.setCell ?_ ?_ _); rotate_left; (focus (first | (simp; done) | (simp; omega) | omega))) | ((with_reducible refine Below.alloc ?_ ?_ _); rotate_left; (focus (first | (simp; done) | (simp; omega) | omega))) | ((with_reducible apply below_step1); (focus (with_reducible assumption)))))⟩
set_option maxRecDepth 100000 in
set_option maxHeartbeats 2000000 in
theorem ofNumbers_c (op : Int) (a b : V) (w : World) (ha : -4294967296 ≤ a.n ∧ a.n ≤ 4294967296) (hb : -4294967296 ≤ b.n ∧ b.n ≤ 4294967296) : Calls Tryd.prog 68 #[.int .i64 op, .agg #[.int .i64 a.k, .int .i64 a.n, .string a.s], .agg #[.int .i64 b.k, .int .i64 b.n, .string b.s]] w fun e w' => e = .returned (.agg #[.int .i64 (numsV op a b).k, .int .i64 (numsV op a b).n, .string (numsV op a b).s]) ∧ Below w.heap.size w w' := by
  have HE := Lib.hid (show numsV op a b = if a.k ≠ 1 ∨ b.k ≠ 1 then V.null else if op = 3 then numV (-a.n) else if op = 13 then truthV (a.n == 0) else if op = 4 then numV (a.n + b.n) else if op = 5 then numV (a.n - b.n) else if op = 6 then prodV a.n b.n else quotV a.n b.n from rfl)
  generalize numsV op a b = r at HE
  have hP := product_c a.n b.n
  have hQ := quotient_c a.n b.n
  generalize prodV a.n b.n = pv at hP HE
  generalize quotV a.n b.n = qv at hQ HE
  have hna : IntKind.i64.wrap (-a.n) = -a.n := IntWalk.i64_in _ (by omega)
  have hsum : IntKind.i64.wrap (a.n + b.n) = a.n + b.n := IntWalk.i64_in _ (by omega)
  have hdif : IntKind.i64.wrap (a.n - b.n) = a.n - b.n := IntWalk.i64_in _ (by omega)
  by_cases hk : a.k = 1
  case neg =>
    have tk : (a.k != 1) = true := by simpa using hk
    rw [if_pos (.inl hk)] at HE
    clear hk
    go_enter Tryd.func68, Tryd.ntmps68
    go_wp2_with fail
    refine bodyPost_ret (by simp [results, Tryd.results68, go_sem, *]; rfl) rfl ?_
    rw [HE.out]
    exact ⟨rfl, by (repeat (first | (with_reducible exact Below.refl _ _) | (with_reducible assumption) | (with_reducible refine Below.drew ?_) | (with_reducible refine below_drewN ?_ _) | ((with_reducible refine Below.setCell ?_ ?_ _); rotate_left; (focus (first | (simp; done) | (simp; omega) | omega))) | ((with_reducible refine Below.alloc ?_ ?_ _); rotate_left; (focus (first | (simp; done) | (simp; omega) | omega))) | ((with_reducible apply below_step1); (focus (with_reducible assumption)))))⟩
  have tk : (a.k != 1) = false := by simpa using hk
  by_cases hk2 : b.k = 1
  case neg =>
    have tk2 : (b.k != 1) = true := by simpa using hk2
    rw [if_pos (.inr hk2)] at HE
    clear hk hk2
    go_enter Tryd.func68, Tryd.ntmps68
    go_wp2_with fail
    refine bodyPost_ret (by simp [results, Tryd.results68, go_sem, *]; rfl) rfl ?_
    rw [HE.out]
    exact ⟨rfl, by (repeat (first | (with_reducible exact Below.refl _ _) | (with_reducible assumption) | (with_reducible refine Below.drew ?_) | (with_reducible refine below_drewN ?_ _) | ((with_reducible refine Below.setCell ?_ ?_ _); rotate_left; (focus (first | (simp; done) | (simp; omega) | omega))) | ((with_reducible refine Below.alloc ?_ ?_ _); rotate_left; (focus (first | (simp; done) | (simp; omega) | omega))) | ((with_reducible apply below_step1); (focus (with_reducible assumption)))))⟩
  have tk2 : (b.k != 1) = false := by simpa using hk2
  rw [if_neg (show ¬ (a.k ≠ 1 ∨ b.k ≠ 1) by rintro (h | h); exact h hk; exact h hk2)] at HE
  clear hk hk2
  by_cases h3 : op = 3
  · have t3 : (op == 3) = true := by simpa using h3
    rw [if_pos h3] at HE
    clear h3
    go_enter Tryd.func68, Tryd.ntmps68
    go_wp2_with (go_at_call 83; refine (number_c _ _).mono ?_; rintro e w1 ⟨rfl, hb1⟩; obtain ⟨hc1, hf1⟩ := bcell hb1; have hz1 := (hb1).size; (try simp at hz1); have hl10 : w.heap.size < w1.heap.size := (by omega); have hl11 : w.heap.size + 1 < w1.heap.size := (by omega); have hl12 : w.heap.size + 1 + 1 < w1.heap.size := (by omega))
    refine bodyPost_ret (by simp [results, Tryd.results68, go_sem, *]; rfl) rfl ?_
    rw [HE.out]
    exact ⟨rfl, by (repeat (first | (with_reducible exact Below.refl _ _) | (with_reducible assumption) | (with_reducible refine Below.drew ?_) | (with_reducible refine below_drewN ?_ _) | ((with_reducible refine Below.setCell ?_ ?_ _); rotate_left; (focus (first | (simp; done) | (simp; omega) | omega))) | ((with_reducible refine Below.alloc ?_ ?_ _); rotate_left; (focus (first | (simp; done) | (simp; omega) | omega))) | ((with_reducible apply below_step1); (focus (with_reducible assumption)))))⟩
  have t3 : (op == 3) = false := by simpa using h3
  rw [if_neg h3] at HE
  clear h3
  by_cases h13 : op = 13
  · have t13 : (op == 13) = true := by simpa using h13
    rw [if_pos h13] at HE
    clear h13
    go_enter Tryd.func68, Tryd.ntmps68
    go_wp2_with (go_at_call 82; refine (truth_c _ _).mono ?_; rintro e w1 ⟨rfl, hb1⟩; obtain ⟨hc1, hf1⟩ := bcell hb1; have hz1 := (hb1).size; (try simp at hz1); have hl10 : w.heap.size < w1.heap.size := (by omega); have hl11 : w.heap.size + 1 < w1.heap.size := (by omega); have hl12 : w.heap.size + 1 + 1 < w1.heap.size := (by omega))
    refine bodyPost_ret (by simp [results, Tryd.results68, go_sem, *]; rfl) rfl ?_
    rw [HE.out]
    exact ⟨rfl, by (repeat (first | (with_reducible exact Below.refl _ _) | (with_reducible assumption) | (with_reducible refine Below.drew ?_) | (with_reducible refine below_drewN ?_ _) | ((with_reducible refine Below.setCell ?_ ?_ _); rotate_left; (focus (first | (simp; done) | (simp; omega) | omega))) | ((with_reducible refine Below.alloc ?_ ?_ _); rotate_left; (focus (first | (simp; done) | (simp; omega) | omega))) | ((with_reducible apply below_step1); (focus (with_reducible assumption)))))⟩
  have t13 : (op == 13) = false := by simpa using h13
  rw [if_neg h13] at HE
  clear h13
  by_cases h4 : op = 4
  · have t4 : (op == 4) = true := by simpa using h4
    rw [if_pos h4] at HE
    clear h4
    go_enter Tryd.func68, Tryd.ntmps68
    go_wp2_with (go_at_call 83; refine (number_c _ _).mono ?_; rintro e w1 ⟨rfl, hb1⟩; obtain ⟨hc1, hf1⟩ := bcell hb1; have hz1 := (hb1).size; (try simp at hz1); have hl10 : w.heap.size < w1.heap.size := (by omega); have hl11 : w.heap.size + 1 < w1.heap.size := (by omega); have hl12 : w.heap.size + 1 + 1 < w1.heap.size := (by omega))
    refine bodyPost_ret (by simp [results, Tryd.results68, go_sem, *]; rfl) rfl ?_
    rw [HE.out]
    exact ⟨rfl, by (repeat (first | (with_reducible exact Below.refl _ _) | (with_reducible assumption) | (with_reducible refine Below.drew ?_) | (with_reducible refine below_drewN ?_ _) | ((with_reducible refine Below.setCell ?_ ?_ _); rotate_left; (focus (first | (simp; done) | (simp; omega) | omega))) | ((with_reducible refine Below.alloc ?_ ?_ _); rotate_left; (focus (first | (simp; done) | (simp; omega) | omega))) | ((with_reducible apply below_step1); (focus (with_reducible assumption)))))⟩
  have t4 : (op == 4) = false := by simpa using h4
  rw [if_neg h4] at HE
  clear h4
  by_cases h5 : op = 5
  · have t5 : (op == 5) = true := by simpa using h5
    rw [if_pos h5] at HE
    clear h5
    go_enter Tryd.func68, Tryd.ntmps68
    go_wp2_with (go_at_call 83; refine (number_c _ _).mono ?_; rintro e w1 ⟨rfl, hb1⟩; obtain ⟨hc1, hf1⟩ := bcell hb1; have hz1 := (hb1).size; (try simp at hz1); have hl10 : w.heap.size < w1.heap.size := (by omega); have hl11 : w.heap.size + 1 < w1.heap.size := (by omega); have hl12 : w.heap.size + 1 + 1 < w1.heap.size := (by omega))
    refine bodyPost_ret (by simp [results, Tryd.results68, go_sem, *]; rfl) rfl ?_
    rw [HE.out]
    exact ⟨rfl, by (repeat (first | (with_reducible exact Below.refl _ _) | (with_reducible assumption) | (with_reducible refine Below.drew ?_) | (with_reducible refine below_drewN ?_ _) | ((with_reducible refine Below.setCell ?_ ?_ _); rotate_left; (focus (first | (simp; done) | (simp; omega) | omega))) | ((with_reducible refine Below.alloc ?_ ?_ _); rotate_left; (focus (first | (simp; done) | (simp; omega) | omega))) | ((with_reducible apply below_step1); (focus (with_reducible assumption)))))⟩
  have t5 : (op == 5) = false := by simpa using h5
  rw [if_neg h5] at HE
  clear h5
  by_cases h6 : op = 6
  · have t6 : (op == 6) = true := by simpa using h6
    rw [if_pos h6] at HE
    clear h6
    go_enter Tryd.func68, Tryd.ntmps68
    go_wp2_with (go_at_call 85; refine (hP _ ha hb).mono ?_; rintro e w1 ⟨rfl, hb1⟩; obtain ⟨hc1, hf1⟩ := bcell hb1; have hz1 := (hb1).size; (try simp at hz1); have hl10 : w.heap.size < w1.heap.size := (by omega); have hl11 : w.heap.size + 1 < w1.heap.size := (by omega); have hl12 : w.heap.size + 1 + 1 < w1.heap.size := (by omega))
    refine bodyPost_ret (by simp [results, Tryd.results68, go_sem, *]; rfl) rfl ?_
    rw [HE.out]
    exact ⟨rfl, by (repeat (first | (with_reducible exact Below.refl _ _) | (with_reducible assumption) | (with_reducible refine Below.drew ?_) | (with_reducible refine below_drewN ?_ _) | ((with_reducible refine Below.setCell ?_ ?_ _); rotate_left; (focus (first | (simp; done) | (simp; omega) | omega))) | ((with_reducible refine Below.alloc ?_ ?_ _); rotate_left; (focus (first | (simp; done) | (simp; omega) | omega))) | ((with_reducible apply below_step1); (focus (with_reducible assumption)))))⟩
  have t6 : (op == 6) = false := by simpa using h6
  rw [if_neg h6] at HE
  clear h6
  go_enter Tryd.func68, Tryd.ntmps68
  go_wp2_with (go_at_call 86; refine (hQ _ ha hb).mono ?_; rintro e w1 ⟨rfl, hb1⟩; obtain ⟨hc1, hf1⟩ := bcell hb1; have hz1 := (hb1).size; (try simp at hz1); have hl10 : w.heap.size < w1.heap.size := (by omega); have hl11 : w.heap.size + 1 < w1.heap.size := (by omega); have hl12 : w.heap.size + 1 + 1 < w1.heap.size := (by omega))
  refine bodyPost_ret (by simp [results, Tryd.results68, go_sem, *]; rfl) rfl ?_
  rw [HE.out]
  exact ⟨rfl, by (repeat (first | (with_reducible exact Below.refl _ _) | (with_reducible assumption) | (with_reducible refine Below.drew ?_) | (with_reducible refine below_drewN ?_ _) | ((with_reducible refine Below.setCell ?_ ?_ _); rotate_left; (focus (first | (simp; done) | (simp; omega) | omega))) | ((with_reducible refine Below.alloc ?_ ?_ _); rotate_left; (focus (first | (simp; done) | (simp; omega) | omega))) | ((with_reducible apply below_step1); (focus (with_reducible assumption)))))⟩
end Go.Proofs.YtojcabnjodfdmaaDoor
