/- Contracts of the reference's small operators: numbers from -2^32 to 2^32, texts of at most a thousand bytes. -/
import Derived.Test.YtojcabnjodfdmaaDoorEi
import Derived.Test.YtojcabnjodfdmaaDoorEh
import Derived.Test.YtojcabnjodfdmaaDoorTb
namespace Go.Proofs.YtojcabnjodfdmaaDoor
open Go.RowKit

theorem ret_V {a b : V} (h : a = b) : Ending.returned (.agg #[.int .i64 a.k, .int .i64 a.n, .string a.s]) = .returned (.agg #[.int .i64 b.k, .int .i64 b.n, .string b.s]) := by rw [h]
theorem ret_N {b : V} (h : V.null = b) : Ending.returned (.agg #[.int .i64 0, .int .i64 0, .string ⟨#[]⟩]) = .returned (.agg #[.int .i64 b.k, .int .i64 b.n, .string b.s]) := by rw [← h]; rfl
theorem rintN (n : Int) (w : World) : Calls Tryd.prog 22 #[.int .i64 n] w fun e w' => e = .returned (.agg #[.int .i64 (numV n).k, .int .i64 (numV n).n, .string (numV n).s]) ∧ Below w.heap.size w w' := rint n w
theorem rtextR (s : ByteArray) (w : World) : Calls Tryd.prog 23 #[.string s] w fun e w' => e = .returned (.agg #[.int .i64 (textR s).k, .int .i64 (textR s).n, .string (textR s).s]) ∧ Below w.heap.size w w' := rtext s w

set_option maxHeartbeats 400000 in
theorem rbit (b : Bool) (w : World) : Calls Tryd.prog 88 #[.bool b] w fun e w' => e = .returned (.agg #[.int .i64 (truthV b).k, .int .i64 (truthV b).n, .string (truthV b).s]) ∧ Below w.heap.size w w' := by
  cases b
  all_goals go_enter Tryd.func88, Tryd.ntmps88
  all_goals go_wp2_with ((go_at_call 22; refine (rintN _ _).mono ?_; rintro e w1 ⟨rfl, hb1⟩; obtain ⟨hc1, hf1⟩ := bcell hb1; have hz1 := (hb1).size; (try simp at hz1); have hl10 : w.heap.size < w1.heap.size := (by omega)))
  all_goals refine bodyPost_ret (by simp [results, Tryd.results88, go_sem, *]; rfl) rfl ?_
  all_goals exact ⟨rfl, by (repeat (first | (with_reducible exact Below.refl _ _) | (with_reducible assumption) | (with_reducible refine Below.drew ?_) | (with_reducible refine below_drewN ?_ _) | ((with_reducible refine Below.setCell ?_ ?_ _); rotate_left; (focus (first | (simp; done) | (simp; omega) | omega))) | ((with_reducible refine Below.alloc ?_ ?_ _); rotate_left; (focus (first | (simp; done) | (simp; omega) | omega))) | ((with_reducible apply below_step1); (focus (with_reducible assumption)))))⟩
set_option maxHeartbeats 400000 in
theorem rtruth (v : V) (w : World) : Calls Tryd.prog 53 #[.agg #[.int .i64 v.k, .int .i64 v.n, .string v.s]] w fun e w' => e = .returned (.int .i64 (truthR v)) ∧ Below w.heap.size w w' := by
  go_enter Tryd.func53, Tryd.ntmps53
  go_wp2
  all_goals go_ret
  all_goals refine ⟨ret_int ?_, by (repeat (first | (with_reducible exact Below.refl _ _) | (with_reducible assumption) | (with_reducible refine Below.drew ?_) | (with_reducible refine below_drewN ?_ _) | ((with_reducible refine Below.setCell ?_ ?_ _); rotate_left; (focus (first | (simp; done) | (simp; omega) | omega))) | ((with_reducible refine Below.alloc ?_ ?_ _); rotate_left; (focus (first | (simp; done) | (simp; omega) | omega))) | ((with_reducible apply below_step1); (focus (with_reducible assumption)))))⟩
  all_goals simp_all [truthR]

set_option maxRecDepth 100000 in
set_option maxHeartbeats 1000000 in
theorem rproduct (a b : Int) (w : World) (ha : -4294967296 ≤ a ∧ a ≤ 4294967296) (hb : -4294967296 ≤ b ∧ b ≤ 4294967296) : Calls Tryd.prog 110 #[.int .i64 a, .int .i64 b] w fun e w' => e = .returned (.agg #[.int .i64 (prodR a b).k, .int .i64 (prodR a b).n, .string (prodR a b).s]) ∧ Below w.heap.size w w' := by
  have HE := Lib.hid (show prodR a b = if a ≠ 0 ∧ b ≠ 0 ∧ max a (-a) > (4294967296 : Int).tdiv (max b (-b)) then V.null else numV (a * b) from rfl)
  have HPS := Lib.hid (fun h => prod_small (a := b) (b := a) (m := 4294967296) (by omega) h)
  generalize prodR a b = r at HE
  have hna : IntKind.i64.wrap (-a) = -a := IntWalk.i64_in _ (by omega)
  have hnb : IntKind.i64.wrap (-b) = -b := IntWalk.i64_in _ (by omega)
  by_cases h0 : a = 0
  · have t0 : (a != 0) = false := by simpa using h0
    rw [if_neg (fun h => h.1 h0)] at HE
    have hz : a * b = 0 := by rw [h0, Int.zero_mul]
    have hab : IntKind.i64.wrap (a * b) = a * b := by rw [hz]; rfl
    clear h0 hz
    go_enter Tryd.func110, Tryd.ntmps110
    go_wp2_with ((go_at_call 22; refine (rintN _ _).mono ?_; rintro e w1 ⟨rfl, hb1⟩; obtain ⟨hc1, hf1⟩ := bcell hb1; have hz1 := (hb1).size; (try simp at hz1); have hl10 : w.heap.size < w1.heap.size := (by omega)))
    refine bodyPost_ret (by simp [results, Tryd.results110, go_sem, *]; rfl) rfl ?_; rw [HE.out]; exact ⟨rfl, by (repeat (first | (with_reducible exact Below.refl _ _) | (with_reducible assumption) | (with_reducible refine Below.drew ?_) | (with_reducible refine below_drewN ?_ _) | ((with_reducible refine Below.setCell ?_ ?_ _); rotate_left; (focus (first | (simp; done) | (simp; omega) | omega))) | ((with_reducible refine Below.alloc ?_ ?_ _); rotate_left; (focus (first | (simp; done) | (simp; omega) | omega))) | ((with_reducible apply below_step1); (focus (with_reducible assumption)))))⟩
  have t0 : (a != 0) = true := by simpa using h0
  by_cases h0b : b = 0
  · have t0b : (b != 0) = false := by simpa using h0b
    rw [if_neg (fun h => h.2.1 h0b)] at HE
    have hz : a * b = 0 := by rw [h0b, Int.mul_zero]
    have hab : IntKind.i64.wrap (a * b) = a * b := by rw [hz]; rfl
    clear h0 h0b hz
    go_enter Tryd.func110, Tryd.ntmps110
    go_wp2_with ((go_at_call 22; refine (rintN _ _).mono ?_; rintro e w1 ⟨rfl, hb1⟩; obtain ⟨hc1, hf1⟩ := bcell hb1; have hz1 := (hb1).size; (try simp at hz1); have hl10 : w.heap.size < w1.heap.size := (by omega)))
    refine bodyPost_ret (by simp [results, Tryd.results110, go_sem, *]; rfl) rfl ?_; rw [HE.out]; exact ⟨rfl, by (repeat (first | (with_reducible exact Below.refl _ _) | (with_reducible assumption) | (with_reducible refine Below.drew ?_) | (with_reducible refine below_drewN ?_ _) | ((with_reducible refine Below.setCell ?_ ?_ _); rotate_left; (focus (first | (simp; done) | (simp; omega) | omega))) | ((with_reducible refine Below.alloc ?_ ?_ _); rotate_left; (focus (first | (simp; done) | (simp; omega) | omega))) | ((with_reducible apply below_step1); (focus (with_reducible assumption)))))⟩
  have t0b : (b != 0) = true := by simpa using h0b
  have hqd : (4294967296 : Int).tdiv (max b (-b)) = 4294967296 / max b (-b) := Int.tdiv_eq_ediv_of_nonneg (by omega)
  have hqb := tdiv_abs 4294967296 (max b (-b))
  obtain ⟨q, hq⟩ : ∃ q, (4294967296 : Int).tdiv (max b (-b)) = q := ⟨_, rfl⟩
  rw [hq] at hqb HE HPS hqd
  have hqw : IntKind.i64.wrap q = q := IntWalk.i64_in _ (by omega)
  clear hq
  by_cases hb0 : 0 ≤ b
  · have mb : max b (-b) = b := by omega
    rw [mb] at hqd
    have hb1 : -b ≤ b := by omega
    have hdv : 4294967296 / b = q := hqd.symm
    have hz : (b == 0) = false := by simpa using h0b
    clear hqd
    by_cases ha0 : 0 ≤ a
    · have ma : max a (-a) = a := by omega
      rw [ma] at HE HPS
      have ha1 : -a ≤ a := by omega
      by_cases hc : q < a
      · rw [if_pos ⟨h0, h0b, hc⟩] at HE

        go_enter Tryd.func110, Tryd.ntmps110
        go_wp2_with fail
        refine bodyPost_ret (by simp [results, Tryd.results110, go_sem, *]; rfl) rfl ?_; rw [HE.out]; exact ⟨rfl, by (repeat (first | (with_reducible exact Below.refl _ _) | (with_reducible assumption) | (with_reducible refine Below.drew ?_) | (with_reducible refine below_drewN ?_ _) | ((with_reducible refine Below.setCell ?_ ?_ _); rotate_left; (focus (first | (simp; done) | (simp; omega) | omega))) | ((with_reducible refine Below.alloc ?_ ?_ _); rotate_left; (focus (first | (simp; done) | (simp; omega) | omega))) | ((with_reducible apply below_step1); (focus (with_reducible assumption)))))⟩
      · rw [if_neg (fun h => hc h.2.2)] at HE
        have hps := HPS.out h0b hc
        rw [Int.mul_comm] at hps
        have hab : IntKind.i64.wrap (a * b) = a * b := IntWalk.i64_in _ (by omega)
        clear hps
        go_enter Tryd.func110, Tryd.ntmps110
        go_wp2_with ((go_at_call 22; refine (rintN _ _).mono ?_; rintro e w1 ⟨rfl, hb1⟩; obtain ⟨hc1, hf1⟩ := bcell hb1; have hz1 := (hb1).size; (try simp at hz1); have hl10 : w.heap.size < w1.heap.size := (by omega)))
        refine bodyPost_ret (by simp [results, Tryd.results110, go_sem, *]; rfl) rfl ?_; rw [HE.out]; exact ⟨rfl, by (repeat (first | (with_reducible exact Below.refl _ _) | (with_reducible assumption) | (with_reducible refine Below.drew ?_) | (with_reducible refine below_drewN ?_ _) | ((with_reducible refine Below.setCell ?_ ?_ _); rotate_left; (focus (first | (simp; done) | (simp; omega) | omega))) | ((with_reducible refine Below.alloc ?_ ?_ _); rotate_left; (focus (first | (simp; done) | (simp; omega) | omega))) | ((with_reducible apply below_step1); (focus (with_reducible assumption)))))⟩
    · have ma : max a (-a) = -a := by omega
      rw [ma] at HE HPS
      have ha1 : a < -a := by omega
      by_cases hc : q < -a
      · rw [if_pos ⟨h0, h0b, hc⟩] at HE

        go_enter Tryd.func110, Tryd.ntmps110
        go_wp2_with fail
        refine bodyPost_ret (by simp [results, Tryd.results110, go_sem, *]; rfl) rfl ?_; rw [HE.out]; exact ⟨rfl, by (repeat (first | (with_reducible exact Below.refl _ _) | (with_reducible assumption) | (with_reducible refine Below.drew ?_) | (with_reducible refine below_drewN ?_ _) | ((with_reducible refine Below.setCell ?_ ?_ _); rotate_left; (focus (first | (simp; done) | (simp; omega) | omega))) | ((with_reducible refine Below.alloc ?_ ?_ _); rotate_left; (focus (first | (simp; done) | (simp; omega) | omega))) | ((with_reducible apply below_step1); (focus (with_reducible assumption)))))⟩
      · rw [if_neg (fun h => hc h.2.2)] at HE
        have hps := HPS.out h0b hc
        rw [Int.mul_comm] at hps
        have hab : IntKind.i64.wrap (a * b) = a * b := IntWalk.i64_in _ (by omega)
        clear hps
        go_enter Tryd.func110, Tryd.ntmps110
        go_wp2_with ((go_at_call 22; refine (rintN _ _).mono ?_; rintro e w1 ⟨rfl, hb1⟩; obtain ⟨hc1, hf1⟩ := bcell hb1; have hz1 := (hb1).size; (try simp at hz1); have hl10 : w.heap.size < w1.heap.size := (by omega)))
        refine bodyPost_ret (by simp [results, Tryd.results110, go_sem, *]; rfl) rfl ?_; rw [HE.out]; exact ⟨rfl, by (repeat (first | (with_reducible exact Below.refl _ _) | (with_reducible assumption) | (with_reducible refine Below.drew ?_) | (with_reducible refine below_drewN ?_ _) | ((with_reducible refine Below.setCell ?_ ?_ _); rotate_left; (focus (first | (simp; done) | (simp; omega) | omega))) | ((with_reducible refine Below.alloc ?_ ?_ _); rotate_left; (focus (first | (simp; done) | (simp; omega) | omega))) | ((with_reducible apply below_step1); (focus (with_reducible assumption)))))⟩
  · have mb : max b (-b) = -b := by omega
    rw [mb] at hqd
    have hb1 : b < -b := by omega
    have hdv : -Int.tdiv 4294967296 b = q := by rw [Int.tdiv_eq_ediv_of_nonneg (by omega), hqd, Int.ediv_neg]
    have hqx : wrap64 q = q := IntWalk.wrap64_in _ ⟨by omega, by omega⟩
    have hz : (-b == 0) = false := by simp; omega
    clear hqd
    by_cases ha0 : 0 ≤ a
    · have ma : max a (-a) = a := by omega
      rw [ma] at HE HPS
      have ha1 : -a ≤ a := by omega
      by_cases hc : q < a
      · rw [if_pos ⟨h0, h0b, hc⟩] at HE

        go_enter Tryd.func110, Tryd.ntmps110
        go_wp2_with fail
        refine bodyPost_ret (by simp [results, Tryd.results110, go_sem, *]; rfl) rfl ?_; rw [HE.out]; exact ⟨rfl, by (repeat (first | (with_reducible exact Below.refl _ _) | (with_reducible assumption) | (with_reducible refine Below.drew ?_) | (with_reducible refine below_drewN ?_ _) | ((with_reducible refine Below.setCell ?_ ?_ _); rotate_left; (focus (first | (simp; done) | (simp; omega) | omega))) | ((with_reducible refine Below.alloc ?_ ?_ _); rotate_left; (focus (first | (simp; done) | (simp; omega) | omega))) | ((with_reducible apply below_step1); (focus (with_reducible assumption)))))⟩
      · rw [if_neg (fun h => hc h.2.2)] at HE
        have hps := HPS.out h0b hc
        rw [Int.mul_comm] at hps
        have hab : IntKind.i64.wrap (a * b) = a * b := IntWalk.i64_in _ (by omega)
        clear hps
        go_enter Tryd.func110, Tryd.ntmps110
        go_wp2_with ((go_at_call 22; refine (rintN _ _).mono ?_; rintro e w1 ⟨rfl, hb1⟩; obtain ⟨hc1, hf1⟩ := bcell hb1; have hz1 := (hb1).size; (try simp at hz1); have hl10 : w.heap.size < w1.heap.size := (by omega)))
        refine bodyPost_ret (by simp [results, Tryd.results110, go_sem, *]; rfl) rfl ?_; rw [HE.out]; exact ⟨rfl, by (repeat (first | (with_reducible exact Below.refl _ _) | (with_reducible assumption) | (with_reducible refine Below.drew ?_) | (with_reducible refine below_drewN ?_ _) | ((with_reducible refine Below.setCell ?_ ?_ _); rotate_left; (focus (first | (simp; done) | (simp; omega) | omega))) | ((with_reducible refine Below.alloc ?_ ?_ _); rotate_left; (focus (first | (simp; done) | (simp; omega) | omega))) | ((with_reducible apply below_step1); (focus (with_reducible assumption)))))⟩
    · have ma : max a (-a) = -a := by omega
      rw [ma] at HE HPS
      have ha1 : a < -a := by omega
      by_cases hc : q < -a
      · rw [if_pos ⟨h0, h0b, hc⟩] at HE

        go_enter Tryd.func110, Tryd.ntmps110
        go_wp2_with fail
        refine bodyPost_ret (by simp [results, Tryd.results110, go_sem, *]; rfl) rfl ?_; rw [HE.out]; exact ⟨rfl, by (repeat (first | (with_reducible exact Below.refl _ _) | (with_reducible assumption) | (with_reducible refine Below.drew ?_) | (with_reducible refine below_drewN ?_ _) | ((with_reducible refine Below.setCell ?_ ?_ _); rotate_left; (focus (first | (simp; done) | (simp; omega) | omega))) | ((with_reducible refine Below.alloc ?_ ?_ _); rotate_left; (focus (first | (simp; done) | (simp; omega) | omega))) | ((with_reducible apply below_step1); (focus (with_reducible assumption)))))⟩
      · rw [if_neg (fun h => hc h.2.2)] at HE
        have hps := HPS.out h0b hc
        rw [Int.mul_comm] at hps
        have hab : IntKind.i64.wrap (a * b) = a * b := IntWalk.i64_in _ (by omega)
        clear hps
        go_enter Tryd.func110, Tryd.ntmps110
        go_wp2_with ((go_at_call 22; refine (rintN _ _).mono ?_; rintro e w1 ⟨rfl, hb1⟩; obtain ⟨hc1, hf1⟩ := bcell hb1; have hz1 := (hb1).size; (try simp at hz1); have hl10 : w.heap.size < w1.heap.size := (by omega)))
        refine bodyPost_ret (by simp [results, Tryd.results110, go_sem, *]; rfl) rfl ?_; rw [HE.out]; exact ⟨rfl, by (repeat (first | (with_reducible exact Below.refl _ _) | (with_reducible assumption) | (with_reducible refine Below.drew ?_) | (with_reducible refine below_drewN ?_ _) | ((with_reducible refine Below.setCell ?_ ?_ _); rotate_left; (focus (first | (simp; done) | (simp; omega) | omega))) | ((with_reducible refine Below.alloc ?_ ?_ _); rotate_left; (focus (first | (simp; done) | (simp; omega) | omega))) | ((with_reducible apply below_step1); (focus (with_reducible assumption)))))⟩
set_option maxRecDepth 100000 in
set_option maxHeartbeats 1000000 in
theorem rquotient (a b : Int) (w : World) (ha : -4294967296 ≤ a ∧ a ≤ 4294967296) (hb : -4294967296 ≤ b ∧ b ≤ 4294967296) : Calls Tryd.prog 111 #[.int .i64 a, .int .i64 b] w fun e w' => e = .returned (.agg #[.int .i64 (quotR a b).k, .int .i64 (quotR a b).n, .string (quotR a b).s]) ∧ Below w.heap.size w w' := by
  have HE := Lib.hid (show quotR a b = if b = 0 then V.null else if a.tdiv b * b ≠ a ∧ (decide (a < 0) != decide (b < 0)) = true then numV (a.tdiv b - 1) else numV (a.tdiv b) from rfl)
  generalize quotR a b = r at HE
  by_cases h0 : b = 0
  · have t0 : (b == 0) = true := by simpa using h0
    rw [if_pos h0] at HE
    clear h0
    go_enter Tryd.func111, Tryd.ntmps111
    go_wp2_with fail
    refine bodyPost_ret (by simp [results, Tryd.results111, go_sem, *]; rfl) rfl ?_; rw [HE.out]; exact ⟨rfl, by (repeat (first | (with_reducible exact Below.refl _ _) | (with_reducible assumption) | (with_reducible refine Below.drew ?_) | (with_reducible refine below_drewN ?_ _) | ((with_reducible refine Below.setCell ?_ ?_ _); rotate_left; (focus (first | (simp; done) | (simp; omega) | omega))) | ((with_reducible refine Below.alloc ?_ ?_ _); rotate_left; (focus (first | (simp; done) | (simp; omega) | omega))) | ((with_reducible apply below_step1); (focus (with_reducible assumption)))))⟩
  have t0 : (b == 0) = false := by simpa using h0
  rw [if_neg h0] at HE
  have hmul := Int.tmod_add_mul_tdiv a b
  rw [Int.mul_comm] at hmul
  have hqb := tdiv_abs a b
  have hmb := tmod_abs a b
  obtain ⟨q, hq⟩ : ∃ q, a.tdiv b = q := ⟨_, rfl⟩
  rw [hq] at hqb HE hmul
  generalize a.tmod b = m at hmul hmb
  have hqw : IntKind.i64.wrap q = q := IntWalk.i64_in _ (by omega)
  have hq1 : IntKind.i64.wrap (q - 1) = q - 1 := IntWalk.i64_in _ (by omega)
  obtain ⟨p, hp⟩ : ∃ p, q * b = p := ⟨_, rfl⟩
  rw [hp] at HE hmul
  have hpw : IntKind.i64.wrap p = p := IntWalk.i64_in _ (by omega)
  clear hmul hmb
  by_cases hm0 : p = a
  · have tm : (p != a) = false := by simpa using hm0
    rw [if_neg (fun h => h.1 hm0)] at HE
    clear hm0
    go_enter Tryd.func111, Tryd.ntmps111
    go_wp2_with ((go_at_call 22; refine (rintN _ _).mono ?_; rintro e w1 ⟨rfl, hb1⟩; obtain ⟨hc1, hf1⟩ := bcell hb1; have hz1 := (hb1).size; (try simp at hz1); have hl10 : w.heap.size < w1.heap.size := (by omega)))
    refine bodyPost_ret (by simp [results, Tryd.results111, go_sem, *]; rfl) rfl ?_; rw [HE.out]; exact ⟨rfl, by (repeat (first | (with_reducible exact Below.refl _ _) | (with_reducible assumption) | (with_reducible refine Below.drew ?_) | (with_reducible refine below_drewN ?_ _) | ((with_reducible refine Below.setCell ?_ ?_ _); rotate_left; (focus (first | (simp; done) | (simp; omega) | omega))) | ((with_reducible refine Below.alloc ?_ ?_ _); rotate_left; (focus (first | (simp; done) | (simp; omega) | omega))) | ((with_reducible apply below_step1); (focus (with_reducible assumption)))))⟩
  have tm : (p != a) = true := by simpa using hm0
  by_cases sa : a < 0
  · have da : decide (a < 0) = true := by simpa using sa
    by_cases sb : b < 0
    · have db : decide (b < 0) = true := by simpa using sb
      rw [da, db] at HE
      rw [if_neg (fun h => by cases h.2)] at HE
      clear hm0
      go_enter Tryd.func111, Tryd.ntmps111
      go_wp2_with ((go_at_call 22; refine (rintN _ _).mono ?_; rintro e w1 ⟨rfl, hb1⟩; obtain ⟨hc1, hf1⟩ := bcell hb1; have hz1 := (hb1).size; (try simp at hz1); have hl10 : w.heap.size < w1.heap.size := (by omega)))
      refine bodyPost_ret (by simp [results, Tryd.results111, go_sem, *]; rfl) rfl ?_; rw [HE.out]; exact ⟨rfl, by (repeat (first | (with_reducible exact Below.refl _ _) | (with_reducible assumption) | (with_reducible refine Below.drew ?_) | (with_reducible refine below_drewN ?_ _) | ((with_reducible refine Below.setCell ?_ ?_ _); rotate_left; (focus (first | (simp; done) | (simp; omega) | omega))) | ((with_reducible refine Below.alloc ?_ ?_ _); rotate_left; (focus (first | (simp; done) | (simp; omega) | omega))) | ((with_reducible apply below_step1); (focus (with_reducible assumption)))))⟩
    · have db : decide (b < 0) = false := by simpa using sb
      rw [da, db] at HE
      rw [if_pos ⟨hm0, rfl⟩] at HE
      clear hm0
      go_enter Tryd.func111, Tryd.ntmps111
      go_wp2_with ((go_at_call 22; refine (rintN _ _).mono ?_; rintro e w1 ⟨rfl, hb1⟩; obtain ⟨hc1, hf1⟩ := bcell hb1; have hz1 := (hb1).size; (try simp at hz1); have hl10 : w.heap.size < w1.heap.size := (by omega)))
      refine bodyPost_ret (by simp [results, Tryd.results111, go_sem, *]; rfl) rfl ?_; rw [HE.out]; exact ⟨rfl, by (repeat (first | (with_reducible exact Below.refl _ _) | (with_reducible assumption) | (with_reducible refine Below.drew ?_) | (with_reducible refine below_drewN ?_ _) | ((with_reducible refine Below.setCell ?_ ?_ _); rotate_left; (focus (first | (simp; done) | (simp; omega) | omega))) | ((with_reducible refine Below.alloc ?_ ?_ _); rotate_left; (focus (first | (simp; done) | (simp; omega) | omega))) | ((with_reducible apply below_step1); (focus (with_reducible assumption)))))⟩
  · have da : decide (a < 0) = false := by simpa using sa
    by_cases sb : b < 0
    · have db : decide (b < 0) = true := by simpa using sb
      rw [da, db] at HE
      rw [if_pos ⟨hm0, rfl⟩] at HE
      clear hm0
      go_enter Tryd.func111, Tryd.ntmps111
      go_wp2_with ((go_at_call 22; refine (rintN _ _).mono ?_; rintro e w1 ⟨rfl, hb1⟩; obtain ⟨hc1, hf1⟩ := bcell hb1; have hz1 := (hb1).size; (try simp at hz1); have hl10 : w.heap.size < w1.heap.size := (by omega)))
      refine bodyPost_ret (by simp [results, Tryd.results111, go_sem, *]; rfl) rfl ?_; rw [HE.out]; exact ⟨rfl, by (repeat (first | (with_reducible exact Below.refl _ _) | (with_reducible assumption) | (with_reducible refine Below.drew ?_) | (with_reducible refine below_drewN ?_ _) | ((with_reducible refine Below.setCell ?_ ?_ _); rotate_left; (focus (first | (simp; done) | (simp; omega) | omega))) | ((with_reducible refine Below.alloc ?_ ?_ _); rotate_left; (focus (first | (simp; done) | (simp; omega) | omega))) | ((with_reducible apply below_step1); (focus (with_reducible assumption)))))⟩
    · have db : decide (b < 0) = false := by simpa using sb
      rw [da, db] at HE
      rw [if_neg (fun h => by cases h.2)] at HE
      clear hm0
      go_enter Tryd.func111, Tryd.ntmps111
      go_wp2_with ((go_at_call 22; refine (rintN _ _).mono ?_; rintro e w1 ⟨rfl, hb1⟩; obtain ⟨hc1, hf1⟩ := bcell hb1; have hz1 := (hb1).size; (try simp at hz1); have hl10 : w.heap.size < w1.heap.size := (by omega)))
      refine bodyPost_ret (by simp [results, Tryd.results111, go_sem, *]; rfl) rfl ?_; rw [HE.out]; exact ⟨rfl, by (repeat (first | (with_reducible exact Below.refl _ _) | (with_reducible assumption) | (with_reducible refine Below.drew ?_) | (with_reducible refine below_drewN ?_ _) | ((with_reducible refine Below.setCell ?_ ?_ _); rotate_left; (focus (first | (simp; done) | (simp; omega) | omega))) | ((with_reducible refine Below.alloc ?_ ?_ _); rotate_left; (focus (first | (simp; done) | (simp; omega) | omega))) | ((with_reducible apply below_step1); (focus (with_reducible assumption)))))⟩
set_option maxRecDepth 100000 in
set_option maxHeartbeats 1000000 in
theorem rnumbers (op a b : Int) (w : World) (ha : -4294967296 ≤ a ∧ a ≤ 4294967296) (hb : -4294967296 ≤ b ∧ b ≤ 4294967296) : Calls Tryd.prog 101 #[.int .i64 op, .int .i64 a, .int .i64 b] w fun e w' => e = .returned (.agg #[.int .i64 (numsR op a b).k, .int .i64 (numsR op a b).n, .string (numsR op a b).s]) ∧ Below w.heap.size w w' := by
  have HE := Lib.hid (show numsR op a b = if op = 4 then numV (a + b) else if op = 5 then numV (a - b) else if op = 6 then prodR a b else quotR a b from rfl)
  generalize numsR op a b = r at HE
  have hsum : IntKind.i64.wrap (a + b) = a + b := IntWalk.i64_in _ (by omega)
  have hdif : IntKind.i64.wrap (a - b) = a - b := IntWalk.i64_in _ (by omega)
  have hP := fun w => rproduct a b w ha hb
  have hQ := fun w => rquotient a b w ha hb
  generalize prodR a b = pv at hP HE
  generalize quotR a b = qv at hQ HE
  by_cases h4 : op = 4
  · have t4 : (op == 4) = true := by simpa using h4
    rw [if_pos h4] at HE
    clear h4
    go_enter Tryd.func101, Tryd.ntmps101
    go_wp2_with ((go_at_call 22; refine (rintN _ _).mono ?_; rintro e w1 ⟨rfl, hb1⟩; obtain ⟨hc1, hf1⟩ := bcell hb1; have hz1 := (hb1).size; (try simp at hz1); have hl10 : w.heap.size < w1.heap.size := (by omega)))
    refine bodyPost_ret (by simp [results, Tryd.results101, go_sem, *]; rfl) rfl ?_; rw [HE.out]; exact ⟨rfl, by (repeat (first | (with_reducible exact Below.refl _ _) | (with_reducible assumption) | (with_reducible refine Below.drew ?_) | (with_reducible refine below_drewN ?_ _) | ((with_reducible refine Below.setCell ?_ ?_ _); rotate_left; (focus (first | (simp; done) | (simp; omega) | omega))) | ((with_reducible refine Below.alloc ?_ ?_ _); rotate_left; (focus (first | (simp; done) | (simp; omega) | omega))) | ((with_reducible apply below_step1); (focus (with_reducible assumption)))))⟩
  have t4 : (op == 4) = false := by simpa using h4
  rw [if_neg h4] at HE
  clear h4
  by_cases h5 : op = 5
  · have t5 : (op == 5) = true := by simpa using h5
    rw [if_pos h5] at HE
    clear h5
    go_enter Tryd.func101, Tryd.ntmps101
    go_wp2_with ((go_at_call 22; refine (rintN _ _).mono ?_; rintro e w1 ⟨rfl, hb1⟩; obtain ⟨hc1, hf1⟩ := bcell hb1; have hz1 := (hb1).size; (try simp at hz1); have hl10 : w.heap.size < w1.heap.size := (by omega)))
    refine bodyPost_ret (by simp [results, Tryd.results101, go_sem, *]; rfl) rfl ?_; rw [HE.out]; exact ⟨rfl, by (repeat (first | (with_reducible exact Below.refl _ _) | (with_reducible assumption) | (with_reducible refine Below.drew ?_) | (with_reducible refine below_drewN ?_ _) | ((with_reducible refine Below.setCell ?_ ?_ _); rotate_left; (focus (first | (simp; done) | (simp; omega) | omega))) | ((with_reducible refine Below.alloc ?_ ?_ _); rotate_left; (focus (first | (simp; done) | (simp; omega) | omega))) | ((with_reducible apply below_step1); (focus (with_reducible assumption)))))⟩
  have t5 : (op == 5) = false := by simpa using h5
  rw [if_neg h5] at HE
  clear h5
  by_cases h6 : op = 6
  · have t6 : (op == 6) = true := by simpa using h6
    rw [if_pos h6] at HE
    clear h6
    go_enter Tryd.func101, Tryd.ntmps101
    go_wp2_with ((go_at_call 110; refine (hP _).mono ?_; rintro e w1 ⟨rfl, hb1⟩; obtain ⟨hc1, hf1⟩ := bcell hb1; have hz1 := (hb1).size; (try simp at hz1); have hl10 : w.heap.size < w1.heap.size := (by omega)))
    refine bodyPost_ret (by simp [results, Tryd.results101, go_sem, *]; rfl) rfl ?_; rw [HE.out]; exact ⟨rfl, by (repeat (first | (with_reducible exact Below.refl _ _) | (with_reducible assumption) | (with_reducible refine Below.drew ?_) | (with_reducible refine below_drewN ?_ _) | ((with_reducible refine Below.setCell ?_ ?_ _); rotate_left; (focus (first | (simp; done) | (simp; omega) | omega))) | ((with_reducible refine Below.alloc ?_ ?_ _); rotate_left; (focus (first | (simp; done) | (simp; omega) | omega))) | ((with_reducible apply below_step1); (focus (with_reducible assumption)))))⟩
  have t6 : (op == 6) = false := by simpa using h6
  rw [if_neg h6] at HE
  clear h6
  go_enter Tryd.func101, Tryd.ntmps101
  go_wp2_with ((go_at_call 111; refine (hQ _).mono ?_; rintro e w1 ⟨rfl, hb1⟩; obtain ⟨hc1, hf1⟩ := bcell hb1; have hz1 := (hb1).size; (try simp at hz1); have hl10 : w.heap.size < w1.heap.size := (by omega)))
  refine bodyPost_ret (by simp [results, Tryd.results101, go_sem, *]; rfl) rfl ?_; rw [HE.out]; exact ⟨rfl, by (repeat (first | (with_reducible exact Below.refl _ _) | (with_reducible assumption) | (with_reducible refine Below.drew ?_) | (with_reducible refine below_drewN ?_ _) | ((with_reducible refine Below.setCell ?_ ?_ _); rotate_left; (focus (first | (simp; done) | (simp; omega) | omega))) | ((with_reducible refine Below.alloc ?_ ?_ _); rotate_left; (focus (first | (simp; done) | (simp; omega) | omega))) | ((with_reducible apply below_step1); (focus (with_reducible assumption)))))⟩
set_option maxRecDepth 100000 in
set_option maxHeartbeats 1000000 in
theorem rthree (op a b : Int) (w : World) : Calls Tryd.prog 87 #[.int .i64 op, .int .i64 a, .int .i64 b] w fun e w' => e = .returned (.agg #[.int .i64 (threeR op a b).k, .int .i64 (threeR op a b).n, .string (threeR op a b).s]) ∧ Below w.heap.size w w' := by
  have main : ∀ (d : Int) (dz : Bool), (dz = true → op = 15 ∧ d = 1) → (dz = false → op ≠ 15 ∧ d = 0) → threeR op a b = (if a = d ∨ b = d then truthV (d == 1) else if a < 0 ∨ b < 0 then V.null else truthV (d == 0)) := by
    intro d dz h1 h2
    unfold threeR
    cases dz
    · obtain ⟨g1, rfl⟩ := h2 rfl
      simp [g1]
    · obtain ⟨g1, rfl⟩ := h1 rfl
      simp [g1]
  by_cases h15 : op = 15
  · have t15 : (op == 15) = true := by simpa using h15
    have HE := Lib.hid (main 1 true (fun _ => ⟨h15, rfl⟩) (fun h => by cases h))
    clear main
    generalize threeR op a b = r at HE
    clear h15
    go_enter Tryd.func87, Tryd.ntmps87
    go_wp2_with ((go_at_call 88; refine (rbit _ _).mono ?_; rintro e w1 ⟨rfl, hb1⟩; obtain ⟨hc1, hf1⟩ := bcell hb1; have hz1 := (hb1).size; (try simp at hz1); have hl10 : w.heap.size < w1.heap.size := (by omega)))
    all_goals refine bodyPost_ret (by simp [results, Tryd.results87, go_sem, *]; rfl) rfl ?_
    all_goals rw [HE.out]
    all_goals refine ⟨?_, by (repeat (first | (with_reducible exact Below.refl _ _) | (with_reducible assumption) | (with_reducible refine Below.drew ?_) | (with_reducible refine below_drewN ?_ _) | ((with_reducible refine Below.setCell ?_ ?_ _); rotate_left; (focus (first | (simp; done) | (simp; omega) | omega))) | ((with_reducible refine Below.alloc ?_ ?_ _); rotate_left; (focus (first | (simp; done) | (simp; omega) | omega))) | ((with_reducible apply below_step1); (focus (with_reducible assumption)))))⟩
    all_goals (first | refine ret_V ?_ | refine ret_N ?_)
    all_goals simp_all
    all_goals (intro h; exfalso; omega)
  · have t15 : (op == 15) = false := by simpa using h15
    have HE := Lib.hid (main 0 false (fun h => by cases h) (fun _ => ⟨h15, rfl⟩))
    clear main
    generalize threeR op a b = r at HE
    clear h15
    go_enter Tryd.func87, Tryd.ntmps87
    go_wp2_with ((go_at_call 88; refine (rbit _ _).mono ?_; rintro e w1 ⟨rfl, hb1⟩; obtain ⟨hc1, hf1⟩ := bcell hb1; have hz1 := (hb1).size; (try simp at hz1); have hl10 : w.heap.size < w1.heap.size := (by omega)))
    all_goals refine bodyPost_ret (by simp [results, Tryd.results87, go_sem, *]; rfl) rfl ?_
    all_goals rw [HE.out]
    all_goals refine ⟨?_, by (repeat (first | (with_reducible exact Below.refl _ _) | (with_reducible assumption) | (with_reducible refine Below.drew ?_) | (with_reducible refine below_drewN ?_ _) | ((with_reducible refine Below.setCell ?_ ?_ _); rotate_left; (focus (first | (simp; done) | (simp; omega) | omega))) | ((with_reducible refine Below.alloc ?_ ?_ _); rotate_left; (focus (first | (simp; done) | (simp; omega) | omega))) | ((with_reducible apply below_step1); (focus (with_reducible assumption)))))⟩
    all_goals (first | refine ret_V ?_ | refine ret_N ?_)
    all_goals simp_all
    all_goals (intro h; exfalso; omega)
end Go.Proofs.YtojcabnjodfdmaaDoor
