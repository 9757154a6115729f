/- Contracts of the reference's small operators: numbers from -2^32 to 2^32, texts of at most a thousand bytes. Contract of the reference's strict: valid values. Contract of the reference's Apply: valid values. Contracts of the reference's Operands, eval, Eval and Holds: expressions of at most a thousand terms. Contracts of the reference's eval, Eval and Holds: expressions of at most a thousand terms. Contract of the laws' light. No condition. Contracts of the tape's Text and Int with the value's kind, of leaf and Expr: a well-formed expression comes back, and only the tape's own block has changed. Contract of the tape's Expr: a well-formed expression comes back, and only the tape's own block has changed. -/
import Derived.Test.YtojcabnjodfdmaaGreatDoorBb
import Derived.Test.YtojcabnjodfdmaaGreatDoorBa
import Derived.Test.YtojcabnjodfdmaaGreatDoorBc
namespace Go.Proofs.YtojcabnjodfdmaaGreatDoor
open Go.RowKit

theorem ret_V {a b : V} (h : a = b) : Ending.returned (.agg #[.int .i64 a.k, .int .i64 a.n, .string a.s]) = .returned (.agg #[.int .i64 b.k, .int .i64 b.n, .string b.s]) := by rw [h]
theorem ret_N {b : V} (h : V.null = b) : Ending.returned (.agg #[.int .i64 0, .int .i64 0, .string ⟨#[]⟩]) = .returned (.agg #[.int .i64 b.k, .int .i64 b.n, .string b.s]) := by rw [← h]; rfl
theorem rintN (n : Int) (w : World) : Calls Tryz.prog 34 #[.int .i64 n] w fun e w' => e = .returned (.agg #[.int .i64 (numV n).k, .int .i64 (numV n).n, .string (numV n).s]) ∧ Below w.heap.size w w' := rint n w
theorem rtextR (s : ByteArray) (w : World) : Calls Tryz.prog 58 #[.string s] w fun e w' => e = .returned (.agg #[.int .i64 (textR s).k, .int .i64 (textR s).n, .string (textR s).s]) ∧ Below w.heap.size w w' := rtext s w

set_option maxHeartbeats 400000 in
theorem rbit (b : Bool) (w : World) : Calls Tryz.prog 62 #[.bool b] w fun e w' => e = .returned (.agg #[.int .i64 (truthV b).k, .int .i64 (truthV b).n, .string (truthV b).s]) ∧ Below w.heap.size w w' := by
  cases b
  all_goals go_enter Tryz.func62, Tryz.ntmps62
  all_goals go_wp2_with ((go_at_call 34; refine (rintN _ _).mono ?_; rintro e w1 ⟨rfl, hb1⟩; obtain ⟨hc1, hf1⟩ := bcell hb1; have hz1 := (hb1).size; (try simp at hz1); have hl10 : w.heap.size < w1.heap.size := (by omega)))
  all_goals refine bodyPost_ret (by simp [results, Tryz.results62, go_sem, *]; rfl) rfl ?_
  all_goals exact ⟨rfl, by (repeat (first | (with_reducible exact Below.refl _ _) | (with_reducible assumption) | (with_reducible refine Below.drew ?_) | (with_reducible refine below_drewN ?_ _) | ((with_reducible refine Below.setCell ?_ ?_ _); rotate_left; (focus (first | (simp; done) | (simp; omega) | omega))) | ((with_reducible refine Below.alloc ?_ ?_ _); rotate_left; (focus (first | (simp; done) | (simp; omega) | omega))) | ((with_reducible apply below_step1); (focus (with_reducible assumption)))))⟩
set_option maxHeartbeats 400000 in
theorem rtruth (v : V) (w : World) : Calls Tryz.prog 61 #[.agg #[.int .i64 v.k, .int .i64 v.n, .string v.s]] w fun e w' => e = .returned (.int .i64 (truthR v)) ∧ Below w.heap.size w w' := by
  go_enter Tryz.func61, Tryz.ntmps61
  go_wp2
  all_goals go_ret
  all_goals refine ⟨ret_int ?_, by (repeat (first | (with_reducible exact Below.refl _ _) | (with_reducible assumption) | (with_reducible refine Below.drew ?_) | (with_reducible refine below_drewN ?_ _) | ((with_reducible refine Below.setCell ?_ ?_ _); rotate_left; (focus (first | (simp; done) | (simp; omega) | omega))) | ((with_reducible refine Below.alloc ?_ ?_ _); rotate_left; (focus (first | (simp; done) | (simp; omega) | omega))) | ((with_reducible apply below_step1); (focus (with_reducible assumption)))))⟩
  all_goals simp_all [truthR]

set_option maxRecDepth 100000 in
set_option maxHeartbeats 1000000 in
theorem rproduct (a b : Int) (w : World) (ha : -4294967296 ≤ a ∧ a ≤ 4294967296) (hb : -4294967296 ≤ b ∧ b ≤ 4294967296) : Calls Tryz.prog 106 #[.int .i64 a, .int .i64 b] w fun e w' => e = .returned (.agg #[.int .i64 (prodR a b).k, .int .i64 (prodR a b).n, .string (prodR a b).s]) ∧ Below w.heap.size w w' := by
  have HE := Lib.hid (show prodR a b = if a ≠ 0 ∧ b ≠ 0 ∧ max a (-a) > (4294967296 : Int).tdiv (max b (-b)) then V.null else numV (a * b) from rfl)
  have HPS := Lib.hid (fun h => prod_small (a := b) (b := a) (m := 4294967296) (by omega) h)
  generalize prodR a b = r at HE
  have hna : IntKind.i64.wrap (-a) = -a := IntWalk.i64_in _ (by omega)
  have hnb : IntKind.i64.wrap (-b) = -b := IntWalk.i64_in _ (by omega)
  by_cases h0 : a = 0
  · have t0 : (a != 0) = false := by simpa using h0
    rw [if_neg (fun h => h.1 h0)] at HE
    have hz : a * b = 0 := by rw [h0, Int.zero_mul]
    have hab : IntKind.i64.wrap (a * b) = a * b := by rw [hz]; rfl
    clear h0 hz
    go_enter Tryz.func106, Tryz.ntmps106
    go_wp2_with ((go_at_call 34; refine (rintN _ _).mono ?_; rintro e w1 ⟨rfl, hb1⟩; obtain ⟨hc1, hf1⟩ := bcell hb1; have hz1 := (hb1).size; (try simp at hz1); have hl10 : w.heap.size < w1.heap.size := (by omega)))
    refine bodyPost_ret (by simp [results, Tryz.results106, go_sem, *]; rfl) rfl ?_; rw [HE.out]; exact ⟨rfl, by (repeat (first | (with_reducible exact Below.refl _ _) | (with_reducible assumption) | (with_reducible refine Below.drew ?_) | (with_reducible refine below_drewN ?_ _) | ((with_reducible refine Below.setCell ?_ ?_ _); rotate_left; (focus (first | (simp; done) | (simp; omega) | omega))) | ((with_reducible refine Below.alloc ?_ ?_ _); rotate_left; (focus (first | (simp; done) | (simp; omega) | omega))) | ((with_reducible apply below_step1); (focus (with_reducible assumption)))))⟩
  have t0 : (a != 0) = true := by simpa using h0
  by_cases h0b : b = 0
  · have t0b : (b != 0) = false := by simpa using h0b
    rw [if_neg (fun h => h.2.1 h0b)] at HE
    have hz : a * b = 0 := by rw [h0b, Int.mul_zero]
    have hab : IntKind.i64.wrap (a * b) = a * b := by rw [hz]; rfl
    clear h0 h0b hz
    go_enter Tryz.func106, Tryz.ntmps106
    go_wp2_with ((go_at_call 34; refine (rintN _ _).mono ?_; rintro e w1 ⟨rfl, hb1⟩; obtain ⟨hc1, hf1⟩ := bcell hb1; have hz1 := (hb1).size; (try simp at hz1); have hl10 : w.heap.size < w1.heap.size := (by omega)))
    refine bodyPost_ret (by simp [results, Tryz.results106, go_sem, *]; rfl) rfl ?_; rw [HE.out]; exact ⟨rfl, by (repeat (first | (with_reducible exact Below.refl _ _) | (with_reducible assumption) | (with_reducible refine Below.drew ?_) | (with_reducible refine below_drewN ?_ _) | ((with_reducible refine Below.setCell ?_ ?_ _); rotate_left; (focus (first | (simp; done) | (simp; omega) | omega))) | ((with_reducible refine Below.alloc ?_ ?_ _); rotate_left; (focus (first | (simp; done) | (simp; omega) | omega))) | ((with_reducible apply below_step1); (focus (with_reducible assumption)))))⟩
  have t0b : (b != 0) = true := by simpa using h0b
  have hqd : (4294967296 : Int).tdiv (max b (-b)) = 4294967296 / max b (-b) := Int.tdiv_eq_ediv_of_nonneg (by omega)
  have hqb := tdiv_abs 4294967296 (max b (-b))
  obtain ⟨q, hq⟩ : ∃ q, (4294967296 : Int).tdiv (max b (-b)) = q := ⟨_, rfl⟩
  rw [hq] at hqb HE HPS hqd
  have hqw : IntKind.i64.wrap q = q := IntWalk.i64_in _ (by omega)
  clear hq
  by_cases hb0 : 0 ≤ b
  · have mb : max b (-b) = b := by omega
    rw [mb] at hqd
    have hb1 : -b ≤ b := by omega
    have hdv : 4294967296 / b = q := hqd.symm
    have hz : (b == 0) = false := by simpa using h0b
    clear hqd
    by_cases ha0 : 0 ≤ a
    · have ma : max a (-a) = a := by omega
      rw [ma] at HE HPS
      have ha1 : -a ≤ a := by omega
      by_cases hc : q < a
      · rw [if_pos ⟨h0, h0b, hc⟩] at HE

        go_enter Tryz.func106, Tryz.ntmps106
        go_wp2_with fail
        refine bodyPost_ret (by simp [results, Tryz.results106, go_sem, *]; rfl) rfl ?_; rw [HE.out]; exact ⟨rfl, by (repeat (first | (with_reducible exact Below.refl _ _) | (with_reducible assumption) | (with_reducible refine Below.drew ?_) | (with_reducible refine below_drewN ?_ _) | ((with_reducible refine Below.setCell ?_ ?_ _); rotate_left; (focus (first | (simp; done) | (simp; omega) | omega))) | ((with_reducible refine Below.alloc ?_ ?_ _); rotate_left; (focus (first | (simp; done) | (simp; omega) | omega))) | ((with_reducible apply below_step1); (focus (with_reducible assumption)))))⟩
      · rw [if_neg (fun h => hc h.2.2)] at HE
        have hps := HPS.out h0b hc
        rw [Int.mul_comm] at hps
        have hab : IntKind.i64.wrap (a * b) = a * b := IntWalk.i64_in _ (by omega)
        clear hps
        go_enter Tryz.func106, Tryz.ntmps106
        go_wp2_with ((go_at_call 34; refine (rintN _ _).mono ?_; rintro e w1 ⟨rfl, hb1⟩; obtain ⟨hc1, hf1⟩ := bcell hb1; have hz1 := (hb1).size; (try simp at hz1); have hl10 : w.heap.size < w1.heap.size := (by omega)))
        refine bodyPost_ret (by simp [results, Tryz.results106, go_sem, *]; rfl) rfl ?_; rw [HE.out]; exact ⟨rfl, by (repeat (first | (with_reducible exact Below.refl _ _) | (with_reducible assumption) | (with_reducible refine Below.drew ?_) | (with_reducible refine below_drewN ?_ _) | ((with_reducible refine Below.setCell ?_ ?_ _); rotate_left; (focus (first | (simp; done) | (simp; omega) | omega))) | ((with_reducible refine Below.alloc ?_ ?_ _); rotate_left; (focus (first | (simp; done) | (simp; omega) | omega))) | ((with_reducible apply below_step1); (focus (with_reducible assumption)))))⟩
    · have ma : max a (-a) = -a := by omega
      rw [ma] at HE HPS
      have ha1 : a < -a := by omega
      by_cases hc : q < -a
      · rw [if_pos ⟨h0, h0b, hc⟩] at HE

        go_enter Tryz.func106, Tryz.ntmps106
        go_wp2_with fail
        refine bodyPost_ret (by simp [results, Tryz.results106, go_sem, *]; rfl) rfl ?_; rw [HE.out]; exact ⟨rfl, by (repeat (first | (with_reducible exact Below.refl _ _) | (with_reducible assumption) | (with_reducible refine Below.drew ?_) | (with_reducible refine below_drewN ?_ _) | ((with_reducible refine Below.setCell ?_ ?_ _); rotate_left; (focus (first | (simp; done) | (simp; omega) | omega))) | ((with_reducible refine Below.alloc ?_ ?_ _); rotate_left; (focus (first | (simp; done) | (simp; omega) | omega))) | ((with_reducible apply below_step1); (focus (with_reducible assumption)))))⟩
      · rw [if_neg (fun h => hc h.2.2)] at HE
        have hps := HPS.out h0b hc
        rw [Int.mul_comm] at hps
        have hab : IntKind.i64.wrap (a * b) = a * b := IntWalk.i64_in _ (by omega)
        clear hps
        go_enter Tryz.func106, Tryz.ntmps106
        go_wp2_with ((go_at_call 34; refine (rintN _ _).mono ?_; rintro e w1 ⟨rfl, hb1⟩; obtain ⟨hc1, hf1⟩ := bcell hb1; have hz1 := (hb1).size; (try simp at hz1); have hl10 : w.heap.size < w1.heap.size := (by omega)))
        refine bodyPost_ret (by simp [results, Tryz.results106, go_sem, *]; rfl) rfl ?_; rw [HE.out]; exact ⟨rfl, by (repeat (first | (with_reducible exact Below.refl _ _) | (with_reducible assumption) | (with_reducible refine Below.drew ?_) | (with_reducible refine below_drewN ?_ _) | ((with_reducible refine Below.setCell ?_ ?_ _); rotate_left; (focus (first | (simp; done) | (simp; omega) | omega))) | ((with_reducible refine Below.alloc ?_ ?_ _); rotate_left; (focus (first | (simp; done) | (simp; omega) | omega))) | ((with_reducible apply below_step1); (focus (with_reducible assumption)))))⟩
  · have mb : max b (-b) = -b := by omega
    rw [mb] at hqd
    have hb1 : b < -b := by omega
    have hdv : -Int.tdiv 4294967296 b = q := by rw [Int.tdiv_eq_ediv_of_nonneg (by omega), hqd, Int.ediv_neg]
    have hqx : wrap64 q = q := IntWalk.wrap64_in _ ⟨by omega, by omega⟩
    have hz : (-b == 0) = false := by simp; omega
    clear hqd
    by_cases ha0 : 0 ≤ a
    · have ma : max a (-a) = a := by omega
      rw [ma] at HE HPS
      have ha1 : -a ≤ a := by omega
      by_cases hc : q < a
      · rw [if_pos ⟨h0, h0b, hc⟩] at HE

        go_enter Tryz.func106, Tryz.ntmps106
        go_wp2_with fail
        refine bodyPost_ret (by simp [results, Tryz.results106, go_sem, *]; rfl) rfl ?_; rw [HE.out]; exact ⟨rfl, by (repeat (first | (with_reducible exact Below.refl _ _) | (with_reducible assumption) | (with_reducible refine Below.drew ?_) | (with_reducible refine below_drewN ?_ _) | ((with_reducible refine Below.setCell ?_ ?_ _); rotate_left; (focus (first | (simp; done) | (simp; omega) | omega))) | ((with_reducible refine Below.alloc ?_ ?_ _); rotate_left; (focus (first | (simp; done) | (simp; omega) | omega))) | ((with_reducible apply below_step1); (focus (with_reducible assumption)))))⟩
      · rw [if_neg (fun h => hc h.2.2)] at HE
        have hps := HPS.out h0b hc
        rw [Int.mul_comm] at hps
        have hab : IntKind.i64.wrap (a * b) = a * b := IntWalk.i64_in _ (by omega)
        clear hps
        go_enter Tryz.func106, Tryz.ntmps106
        go_wp2_with ((go_at_call 34; refine (rintN _ _).mono ?_; rintro e w1 ⟨rfl, hb1⟩; obtain ⟨hc1, hf1⟩ := bcell hb1; have hz1 := (hb1).size; (try simp at hz1); have hl10 : w.heap.size < w1.heap.size := (by omega)))
        refine bodyPost_ret (by simp [results, Tryz.results106, go_sem, *]; rfl) rfl ?_; rw [HE.out]; exact ⟨rfl, by (repeat (first | (with_reducible exact Below.refl _ _) | (with_reducible assumption) | (with_reducible refine Below.drew ?_) | (with_reducible refine below_drewN ?_ _) | ((with_reducible refine Below.setCell ?_ ?_ _); rotate_left; (focus (first | (simp; done) | (simp; omega) | omega))) | ((with_reducible refine Below.alloc ?_ ?_ _); rotate_left; (focus (first | (simp; done) | (simp; omega) | omega))) | ((with_reducible apply below_step1); (focus (with_reducible assumption)))))⟩
    · have ma : max a (-a) = -a := by omega
      rw [ma] at HE HPS
      have ha1 : a < -a := by omega
      by_cases hc : q < -a
      · rw [if_pos ⟨h0, h0b, hc⟩] at HE

        go_enter Tryz.func106, Tryz.ntmps106
        go_wp2_with fail
        refine bodyPost_ret (by simp [results, Tryz.results106, go_sem, *]; rfl) rfl ?_; rw [HE.out]; exact ⟨rfl, by (repeat (first | (with_reducible exact Below.refl _ _) | (with_reducible assumption) | (with_reducible refine Below.drew ?_) | (with_reducible refine below_drewN ?_ _) | ((with_reducible refine Below.setCell ?_ ?_ _); rotate_left; (focus (first | (simp; done) | (simp; omega) | omega))) | ((with_reducible refine Below.alloc ?_ ?_ _); rotate_left; (focus (first | (simp; done) | (simp; omega) | omega))) | ((with_reducible apply below_step1); (focus (with_reducible assumption)))))⟩
      · rw [if_neg (fun h => hc h.2.2)] at HE
        have hps := HPS.out h0b hc
        rw [Int.mul_comm] at hps
        have hab : IntKind.i64.wrap (a * b) = a * b := IntWalk.i64_in _ (by omega)
        clear hps
        go_enter Tryz.func106, Tryz.ntmps106
        go_wp2_with ((go_at_call 34; refine (rintN _ _).mono ?_; rintro e w1 ⟨rfl, hb1⟩; obtain ⟨hc1, hf1⟩ := bcell hb1; have hz1 := (hb1).size; (try simp at hz1); have hl10 : w.heap.size < w1.heap.size := (by omega)))
        refine bodyPost_ret (by simp [results, Tryz.results106, go_sem, *]; rfl) rfl ?_; rw [HE.out]; exact ⟨rfl, by (repeat (first | (with_reducible exact Below.refl _ _) | (with_reducible assumption) | (with_reducible refine Below.drew ?_) | (with_reducible refine below_drewN ?_ _) | ((with_reducible refine Below.setCell ?_ ?_ _); rotate_left; (focus (first | (simp; done) | (simp; omega) | omega))) | ((with_reducible refine Below.alloc ?_ ?_ _); rotate_left; (focus (first | (simp; done) | (simp; omega) | omega))) | ((with_reducible apply below_step1); (focus (with_reducible assumption)))))⟩
set_option maxRecDepth 100000 in
set_option maxHeartbeats 1000000 in
theorem rquotient (a b : Int) (w : World) (ha : -4294967296 ≤ a ∧ a ≤ 4294967296) (_hb : -4294967296 ≤ b ∧ b ≤ 4294967296) : Calls Tryz.prog 107 #[.int .i64 a, .int .i64 b] w fun e w' => e = .returned (.agg #[.int .i64 (quotR a b).k, .int .i64 (quotR a b).n, .string (quotR a b).s]) ∧ Below w.heap.size w w' := by
  have HE := Lib.hid (show quotR a b = if b = 0 then V.null else if a.tdiv b * b ≠ a ∧ (decide (a < 0) != decide (b < 0)) = true then numV (a.tdiv b - 1) else numV (a.tdiv b) from rfl)
  generalize quotR a b = r at HE
  by_cases h0 : b = 0
  · have t0 : (b == 0) = true := by simpa using h0
    rw [if_pos h0] at HE
    clear h0
    go_enter Tryz.func107, Tryz.ntmps107
    go_wp2_with fail
    refine bodyPost_ret (by simp [results, Tryz.results107, go_sem, *]; rfl) rfl ?_; rw [HE.out]; exact ⟨rfl, by (repeat (first | (with_reducible exact Below.refl _ _) | (with_reducible assumption) | (with_reducible refine Below.drew ?_) | (with_reducible refine below_drewN ?_ _) | ((with_reducible refine Below.setCell ?_ ?_ _); rotate_left; (focus (first | (simp; done) | (simp; omega) | omega))) | ((with_reducible refine Below.alloc ?_ ?_ _); rotate_left; (focus (first | (simp; done) | (simp; omega) | omega))) | ((with_reducible apply below_step1); (focus (with_reducible assumption)))))⟩
  have t0 : (b == 0) = false := by simpa using h0
  rw [if_neg h0] at HE
  have hmul := Int.tmod_add_mul_tdiv a b
  rw [Int.mul_comm] at hmul
  have hqb := tdiv_abs a b
  have hmb := tmod_abs a b
  obtain ⟨q, hq⟩ : ∃ q, a.tdiv b = q := ⟨_, rfl⟩
  rw [hq] at hqb HE hmul
  generalize a.tmod b = m at hmul hmb
  have hqw : IntKind.i64.wrap q = q := IntWalk.i64_in _ (by omega)
  have hq1 : IntKind.i64.wrap (q - 1) = q - 1 := IntWalk.i64_in _ (by omega)
  obtain ⟨p, hp⟩ : ∃ p, q * b = p := ⟨_, rfl⟩
  rw [hp] at HE hmul
  have hpw : IntKind.i64.wrap p = p := IntWalk.i64_in _ (by omega)
  clear hmul hmb
  by_cases hm0 : p = a
  · have tm : (p != a) = false := by simpa using hm0
    rw [if_neg (fun h => h.1 hm0)] at HE
    clear hm0
    go_enter Tryz.func107, Tryz.ntmps107
    go_wp2_with ((go_at_call 34; refine (rintN _ _).mono ?_; rintro e w1 ⟨rfl, hb1⟩; obtain ⟨hc1, hf1⟩ := bcell hb1; have hz1 := (hb1).size; (try simp at hz1); have hl10 : w.heap.size < w1.heap.size := (by omega)))
    refine bodyPost_ret (by simp [results, Tryz.results107, go_sem, *]; rfl) rfl ?_; rw [HE.out]; exact ⟨rfl, by (repeat (first | (with_reducible exact Below.refl _ _) | (with_reducible assumption) | (with_reducible refine Below.drew ?_) | (with_reducible refine below_drewN ?_ _) | ((with_reducible refine Below.setCell ?_ ?_ _); rotate_left; (focus (first | (simp; done) | (simp; omega) | omega))) | ((with_reducible refine Below.alloc ?_ ?_ _); rotate_left; (focus (first | (simp; done) | (simp; omega) | omega))) | ((with_reducible apply below_step1); (focus (with_reducible assumption)))))⟩
  have tm : (p != a) = true := by simpa using hm0
  by_cases sa : a < 0
  · have da : decide (a < 0) = true := by simpa using sa
    by_cases sb : b < 0
    · have db : decide (b < 0) = true := by simpa using sb
      rw [da, db] at HE
      rw [if_neg (fun h => by cases h.2)] at HE
      clear hm0
      go_enter Tryz.func107, Tryz.ntmps107
      go_wp2_with ((go_at_call 34; refine (rintN _ _).mono ?_; rintro e w1 ⟨rfl, hb1⟩; obtain ⟨hc1, hf1⟩ := bcell hb1; have hz1 := (hb1).size; (try simp at hz1); have hl10 : w.heap.size < w1.heap.size := (by omega)))
      refine bodyPost_ret (by simp [results, Tryz.results107, go_sem, *]; rfl) rfl ?_; rw [HE.out]; exact ⟨rfl, by (repeat (first | (with_reducible exact Below.refl _ _) | (with_reducible assumption) | (with_reducible refine Below.drew ?_) | (with_reducible refine below_drewN ?_ _) | ((with_reducible refine Below.setCell ?_ ?_ _); rotate_left; (focus (first | (simp; done) | (simp; omega) | omega))) | ((with_reducible refine Below.alloc ?_ ?_ _); rotate_left; (focus (first | (simp; done) | (simp; omega) | omega))) | ((with_reducible apply below_step1); (focus (with_reducible assumption)))))⟩
    · have db : decide (b < 0) = false := by simpa using sb
      rw [da, db] at HE
      rw [if_pos ⟨hm0, rfl⟩] at HE
      clear hm0
      go_enter Tryz.func107, Tryz.ntmps107
      go_wp2_with ((go_at_call 34; refine (rintN _ _).mono ?_; rintro e w1 ⟨rfl, hb1⟩; obtain ⟨hc1, hf1⟩ := bcell hb1; have hz1 := (hb1).size; (try simp at hz1); have hl10 : w.heap.size < w1.heap.size := (by omega)))
      refine bodyPost_ret (by simp [results, Tryz.results107, go_sem, *]; rfl) rfl ?_; rw [HE.out]; exact ⟨rfl, by (repeat (first | (with_reducible exact Below.refl _ _) | (with_reducible assumption) | (with_reducible refine Below.drew ?_) | (with_reducible refine below_drewN ?_ _) | ((with_reducible refine Below.setCell ?_ ?_ _); rotate_left; (focus (first | (simp; done) | (simp; omega) | omega))) | ((with_reducible refine Below.alloc ?_ ?_ _); rotate_left; (focus (first | (simp; done) | (simp; omega) | omega))) | ((with_reducible apply below_step1); (focus (with_reducible assumption)))))⟩
  · have da : decide (a < 0) = false := by simpa using sa
    by_cases sb : b < 0
    · have db : decide (b < 0) = true := by simpa using sb
      rw [da, db] at HE
      rw [if_pos ⟨hm0, rfl⟩] at HE
      clear hm0
      go_enter Tryz.func107, Tryz.ntmps107
      go_wp2_with ((go_at_call 34; refine (rintN _ _).mono ?_; rintro e w1 ⟨rfl, hb1⟩; obtain ⟨hc1, hf1⟩ := bcell hb1; have hz1 := (hb1).size; (try simp at hz1); have hl10 : w.heap.size < w1.heap.size := (by omega)))
      refine bodyPost_ret (by simp [results, Tryz.results107, go_sem, *]; rfl) rfl ?_; rw [HE.out]; exact ⟨rfl, by (repeat (first | (with_reducible exact Below.refl _ _) | (with_reducible assumption) | (with_reducible refine Below.drew ?_) | (with_reducible refine below_drewN ?_ _) | ((with_reducible refine Below.setCell ?_ ?_ _); rotate_left; (focus (first | (simp; done) | (simp; omega) | omega))) | ((with_reducible refine Below.alloc ?_ ?_ _); rotate_left; (focus (first | (simp; done) | (simp; omega) | omega))) | ((with_reducible apply below_step1); (focus (with_reducible assumption)))))⟩
    · have db : decide (b < 0) = false := by simpa using sb
      rw [da, db] at HE
      rw [if_neg (fun h => by cases h.2)] at HE
      clear hm0
      go_enter Tryz.func107, Tryz.ntmps107
      go_wp2_with ((go_at_call 34; refine (rintN _ _).mono ?_; rintro e w1 ⟨rfl, hb1⟩; obtain ⟨hc1, hf1⟩ := bcell hb1; have hz1 := (hb1).size; (try simp at hz1); have hl10 : w.heap.size < w1.heap.size := (by omega)))
      refine bodyPost_ret (by simp [results, Tryz.results107, go_sem, *]; rfl) rfl ?_; rw [HE.out]; exact ⟨rfl, by (repeat (first | (with_reducible exact Below.refl _ _) | (with_reducible assumption) | (with_reducible refine Below.drew ?_) | (with_reducible refine below_drewN ?_ _) | ((with_reducible refine Below.setCell ?_ ?_ _); rotate_left; (focus (first | (simp; done) | (simp; omega) | omega))) | ((with_reducible refine Below.alloc ?_ ?_ _); rotate_left; (focus (first | (simp; done) | (simp; omega) | omega))) | ((with_reducible apply below_step1); (focus (with_reducible assumption)))))⟩
set_option maxRecDepth 100000 in
set_option maxHeartbeats 1000000 in
theorem rnumbers (op a b : Int) (w : World) (ha : -4294967296 ≤ a ∧ a ≤ 4294967296) (hb : -4294967296 ≤ b ∧ b ≤ 4294967296) : Calls Tryz.prog 89 #[.int .i64 op, .int .i64 a, .int .i64 b] w fun e w' => e = .returned (.agg #[.int .i64 (numsR op a b).k, .int .i64 (numsR op a b).n, .string (numsR op a b).s]) ∧ Below w.heap.size w w' := by
  have HE := Lib.hid (show numsR op a b = if op = 4 then numV (a + b) else if op = 5 then numV (a - b) else if op = 6 then prodR a b else quotR a b from rfl)
  generalize numsR op a b = r at HE
  have hsum : IntKind.i64.wrap (a + b) = a + b := IntWalk.i64_in _ (by omega)
  have hdif : IntKind.i64.wrap (a - b) = a - b := IntWalk.i64_in _ (by omega)
  have hP := fun w => rproduct a b w ha hb
  have hQ := fun w => rquotient a b w ha hb
  generalize prodR a b = pv at hP HE
  generalize quotR a b = qv at hQ HE
  by_cases h4 : op = 4
  · have t4 : (op == 4) = true := by simpa using h4
    rw [if_pos h4] at HE
    clear h4
    go_enter Tryz.func89, Tryz.ntmps89
    go_wp2_with ((go_at_call 34; refine (rintN _ _).mono ?_; rintro e w1 ⟨rfl, hb1⟩; obtain ⟨hc1, hf1⟩ := bcell hb1; have hz1 := (hb1).size; (try simp at hz1); have hl10 : w.heap.size < w1.heap.size := (by omega)))
    refine bodyPost_ret (by simp [results, Tryz.results89, go_sem, *]; rfl) rfl ?_; rw [HE.out]; exact ⟨rfl, by (repeat (first | (with_reducible exact Below.refl _ _) | (with_reducible assumption) | (with_reducible refine Below.drew ?_) | (with_reducible refine below_drewN ?_ _) | ((with_reducible refine Below.setCell ?_ ?_ _); rotate_left; (focus (first | (simp; done) | (simp; omega) | omega))) | ((with_reducible refine Below.alloc ?_ ?_ _); rotate_left; (focus (first | (simp; done) | (simp; omega) | omega))) | ((with_reducible apply below_step1); (focus (with_reducible assumption)))))⟩
  have t4 : (op == 4) = false := by simpa using h4
  rw [if_neg h4] at HE
  clear h4
  by_cases h5 : op = 5
  · have t5 : (op == 5) = true := by simpa using h5
    rw [if_pos h5] at HE
    clear h5
    go_enter Tryz.func89, Tryz.ntmps89
    go_wp2_with ((go_at_call 34; refine (rintN _ _).mono ?_; rintro e w1 ⟨rfl, hb1⟩; obtain ⟨hc1, hf1⟩ := bcell hb1; have hz1 := (hb1).size; (try simp at hz1); have hl10 : w.heap.size < w1.heap.size := (by omega)))
    refine bodyPost_ret (by simp [results, Tryz.results89, go_sem, *]; rfl) rfl ?_; rw [HE.out]; exact ⟨rfl, by (repeat (first | (with_reducible exact Below.refl _ _) | (with_reducible assumption) | (with_reducible refine Below.drew ?_) | (with_reducible refine below_drewN ?_ _) | ((with_reducible refine Below.setCell ?_ ?_ _); rotate_left; (focus (first | (simp; done) | (simp; omega) | omega))) | ((with_reducible refine Below.alloc ?_ ?_ _); rotate_left; (focus (first | (simp; done) | (simp; omega) | omega))) | ((with_reducible apply below_step1); (focus (with_reducible assumption)))))⟩
  have t5 : (op == 5) = false := by simpa using h5
  rw [if_neg h5] at HE
  clear h5
  by_cases h6 : op = 6
  · have t6 : (op == 6) = true := by simpa using h6
    rw [if_pos h6] at HE
    clear h6
    go_enter Tryz.func89, Tryz.ntmps89
    go_wp2_with ((go_at_call 106; refine (hP _).mono ?_; rintro e w1 ⟨rfl, hb1⟩; obtain ⟨hc1, hf1⟩ := bcell hb1; have hz1 := (hb1).size; (try simp at hz1); have hl10 : w.heap.size < w1.heap.size := (by omega)))
    refine bodyPost_ret (by simp [results, Tryz.results89, go_sem, *]; rfl) rfl ?_; rw [HE.out]; exact ⟨rfl, by (repeat (first | (with_reducible exact Below.refl _ _) | (with_reducible assumption) | (with_reducible refine Below.drew ?_) | (with_reducible refine below_drewN ?_ _) | ((with_reducible refine Below.setCell ?_ ?_ _); rotate_left; (focus (first | (simp; done) | (simp; omega) | omega))) | ((with_reducible refine Below.alloc ?_ ?_ _); rotate_left; (focus (first | (simp; done) | (simp; omega) | omega))) | ((with_reducible apply below_step1); (focus (with_reducible assumption)))))⟩
  have t6 : (op == 6) = false := by simpa using h6
  rw [if_neg h6] at HE
  clear h6
  go_enter Tryz.func89, Tryz.ntmps89
  go_wp2_with ((go_at_call 107; refine (hQ _).mono ?_; rintro e w1 ⟨rfl, hb1⟩; obtain ⟨hc1, hf1⟩ := bcell hb1; have hz1 := (hb1).size; (try simp at hz1); have hl10 : w.heap.size < w1.heap.size := (by omega)))
  refine bodyPost_ret (by simp [results, Tryz.results89, go_sem, *]; rfl) rfl ?_; rw [HE.out]; exact ⟨rfl, by (repeat (first | (with_reducible exact Below.refl _ _) | (with_reducible assumption) | (with_reducible refine Below.drew ?_) | (with_reducible refine below_drewN ?_ _) | ((with_reducible refine Below.setCell ?_ ?_ _); rotate_left; (focus (first | (simp; done) | (simp; omega) | omega))) | ((with_reducible refine Below.alloc ?_ ?_ _); rotate_left; (focus (first | (simp; done) | (simp; omega) | omega))) | ((with_reducible apply below_step1); (focus (with_reducible assumption)))))⟩
set_option maxRecDepth 100000 in
set_option maxHeartbeats 1000000 in
theorem rthree (op a b : Int) (w : World) : Calls Tryz.prog 60 #[.int .i64 op, .int .i64 a, .int .i64 b] w fun e w' => e = .returned (.agg #[.int .i64 (threeR op a b).k, .int .i64 (threeR op a b).n, .string (threeR op a b).s]) ∧ Below w.heap.size w w' := by
  have main : ∀ (d : Int) (dz : Bool), (dz = true → op = 15 ∧ d = 1) → (dz = false → op ≠ 15 ∧ d = 0) → threeR op a b = (if a = d ∨ b = d then truthV (d == 1) else if a < 0 ∨ b < 0 then V.null else truthV (d == 0)) := by
    intro d dz h1 h2
    unfold threeR
    cases dz
    · obtain ⟨g1, rfl⟩ := h2 rfl
      simp [g1]
    · obtain ⟨g1, rfl⟩ := h1 rfl
      simp [g1]
  by_cases h15 : op = 15
  · have t15 : (op == 15) = true := by simpa using h15
    have HE := Lib.hid (main 1 true (fun _ => ⟨h15, rfl⟩) (fun h => by cases h))
    clear main
    generalize threeR op a b = r at HE
    clear h15
    go_enter Tryz.func60, Tryz.ntmps60
    go_wp2_with ((go_at_call 62; refine (rbit _ _).mono ?_; rintro e w1 ⟨rfl, hb1⟩; obtain ⟨hc1, hf1⟩ := bcell hb1; have hz1 := (hb1).size; (try simp at hz1); have hl10 : w.heap.size < w1.heap.size := (by omega)))
    all_goals refine bodyPost_ret (by simp [results, Tryz.results60, go_sem, *]; rfl) rfl ?_
    all_goals rw [HE.out]
    all_goals refine ⟨?_, by (repeat (first | (with_reducible exact Below.refl _ _) | (with_reducible assumption) | (with_reducible refine Below.drew ?_) | (with_reducible refine below_drewN ?_ _) | ((with_reducible refine Below.setCell ?_ ?_ _); rotate_left; (focus (first | (simp; done) | (simp; omega) | omega))) | ((with_reducible refine Below.alloc ?_ ?_ _); rotate_left; (focus (first | (simp; done) | (simp; omega) | omega))) | ((with_reducible apply below_step1); (focus (with_reducible assumption)))))⟩
    all_goals (first | refine ret_V ?_ | refine ret_N ?_)
    all_goals simp_all
    all_goals (intro h; exfalso; omega)
  · have t15 : (op == 15) = false := by simpa using h15
    have HE := Lib.hid (main 0 false (fun h => by cases h) (fun _ => ⟨h15, rfl⟩))
    clear main
    generalize threeR op a b = r at HE
    clear h15
    go_enter Tryz.func60, Tryz.ntmps60
    go_wp2_with ((go_at_call 62; refine (rbit _ _).mono ?_; rintro e w1 ⟨rfl, hb1⟩; obtain ⟨hc1, hf1⟩ := bcell hb1; have hz1 := (hb1).size; (try simp at hz1); have hl10 : w.heap.size < w1.heap.size := (by omega)))
    all_goals refine bodyPost_ret (by simp [results, Tryz.results60, go_sem, *]; rfl) rfl ?_
    all_goals rw [HE.out]
    all_goals refine ⟨?_, by (repeat (first | (with_reducible exact Below.refl _ _) | (with_reducible assumption) | (with_reducible refine Below.drew ?_) | (with_reducible refine below_drewN ?_ _) | ((with_reducible refine Below.setCell ?_ ?_ _); rotate_left; (focus (first | (simp; done) | (simp; omega) | omega))) | ((with_reducible refine Below.alloc ?_ ?_ _); rotate_left; (focus (first | (simp; done) | (simp; omega) | omega))) | ((with_reducible apply below_step1); (focus (with_reducible assumption)))))⟩
    all_goals (first | refine ret_V ?_ | refine ret_N ?_)
    all_goals simp_all
    all_goals (intro h; exfalso; omega)
end Go.Proofs.YtojcabnjodfdmaaGreatDoor

namespace Go.Proofs.YtojcabnjodfdmaaGreatDoor
open Go.RowKit

/-- The cells of a slice of values, laid out. -/
structure Cells1 (w : World) (b off : Nat) (a : V) : Prop where
  lt : b < w.heap.size
  c0 : w.cell? ⟨b, off, none⟩ = some (.int .i64 a.k)
  c1 : w.cell? ⟨b, off + 1, none⟩ = some (.int .i64 a.n)
  c2 : w.cell? ⟨b, off + 2, none⟩ = some (.string a.s)
theorem Row.cells1 {w : World} {n : Nat} {A : Option Addr} {vs : List V} (h : Row w w.heap.size A n vs) (hn : 0 < n) : ∃ b off, A = some ⟨b, off, none⟩ ∧ ∀ k v, vs[k]? = some v → Cells1 w b (off + k * 3) v := by
  obtain ⟨b, off, v, h1, h2, _⟩ := Row.at3 h hn
  refine ⟨b, off, h1, fun k v hk => ?_⟩
  have hkn : k < n := by have := (List.getElem?_eq_some_iff.1 hk).1; have := h.len; omega
  obtain ⟨b', off', v', e1, _, e2, e3, e4, e5⟩ := Row.at3 h hkn
  rw [h1] at e1
  injection e1 with e1
  injection e1 with e6 e7
  subst e6 e7
  obtain rfl := Option.some.inj (e2.symm.trans hk)
  exact ⟨h2, e3, e4, e5⟩

set_option maxRecDepth 100000 in
set_option maxHeartbeats 1000000 in
theorem rstrict1 (op : Int) (a : V) (b off c : Nat) (w : World) (hop : op = 3 ∨ op = 9 ∨ op = 13) (ha : a.ok = true) (hc : Cells1 w b off a) : Calls Tryz.prog 63 #[.int .i64 op, .slice (some ⟨b, off, none⟩) 1 c] w fun e w' => e = .returned (.agg #[.int .i64 (strictR op a V.null).k, .int .i64 (strictR op a V.null).n, .string (strictR op a V.null).s]) ∧ Below w.heap.size w w' := by
  obtain ⟨hb, c0, c1, c2⟩ := hc
  have sa := ok_size ha
  have na := ok_bounds ha
  have hna : IntKind.i64.wrap (-a.n) = -a.n := IntWalk.i64_in _ (by omega)
  clear ha
  rcases hop with rfl | rfl | rfl
  · have HE := Lib.hid (show strictR 3 a V.null = if a.k = 1 then numV (-a.n) else V.null from rfl)
    generalize strictR 3 a V.null = r at HE
    by_cases h : a.k = 1
    · have t : (a.k == 1) = true := by simpa using h
      rw [if_pos h] at HE
      clear h
      go_enter Tryz.func63, Tryz.ntmps63
      go_wp2_with ((go_at_call 34; refine (rintN _ _).mono ?_; rintro e w1 ⟨rfl, hb1⟩; obtain ⟨hc1, hf1⟩ := bcell hb1; have hz1 := (hb1).size; (try simp at hz1); have hl10 : w.heap.size < w1.heap.size := (by omega)))
      refine bodyPost_ret (by simp [results, Tryz.results63, go_sem, *]; rfl) rfl ?_; rw [HE.out]; exact ⟨rfl, by (repeat (first | (with_reducible exact Below.refl _ _) | (with_reducible assumption) | (with_reducible refine Below.drew ?_) | (with_reducible refine below_drewN ?_ _) | ((with_reducible refine Below.setCell ?_ ?_ _); rotate_left; (focus (first | (simp; done) | (simp; omega) | omega))) | ((with_reducible refine Below.alloc ?_ ?_ _); rotate_left; (focus (first | (simp; done) | (simp; omega) | omega))) | ((with_reducible apply below_step1); (focus (with_reducible assumption)))))⟩
    · have t : (a.k == 1) = false := by simpa using h
      rw [if_neg h] at HE
      clear h
      go_enter Tryz.func63, Tryz.ntmps63
      go_wp2_with fail
      refine bodyPost_ret (by simp [results, Tryz.results63, go_sem, *]; rfl) rfl ?_; rw [HE.out]; exact ⟨rfl, by (repeat (first | (with_reducible exact Below.refl _ _) | (with_reducible assumption) | (with_reducible refine Below.drew ?_) | (with_reducible refine below_drewN ?_ _) | ((with_reducible refine Below.setCell ?_ ?_ _); rotate_left; (focus (first | (simp; done) | (simp; omega) | omega))) | ((with_reducible refine Below.alloc ?_ ?_ _); rotate_left; (focus (first | (simp; done) | (simp; omega) | omega))) | ((with_reducible apply below_step1); (focus (with_reducible assumption)))))⟩
  · have HE := Lib.hid (show strictR 9 a V.null = if a.k = 2 then numV a.s.size else V.null from rfl)
    generalize strictR 9 a V.null = r at HE
    have hsw : IntKind.i64.wrap (a.s.size : Int) = (a.s.size : Int) := IntWalk.i64_in _ (by omega)
    by_cases h : a.k = 2
    · have t : (a.k == 2) = true := by simpa using h
      rw [if_pos h] at HE
      clear h
      go_enter Tryz.func63, Tryz.ntmps63
      go_wp2_with ((go_at_call 34; refine (rintN _ _).mono ?_; rintro e w1 ⟨rfl, hb1⟩; obtain ⟨hc1, hf1⟩ := bcell hb1; have hz1 := (hb1).size; (try simp at hz1); have hl10 : w.heap.size < w1.heap.size := (by omega)))
      refine bodyPost_ret (by simp [results, Tryz.results63, go_sem, *]; rfl) rfl ?_; rw [HE.out]; exact ⟨rfl, by (repeat (first | (with_reducible exact Below.refl _ _) | (with_reducible assumption) | (with_reducible refine Below.drew ?_) | (with_reducible refine below_drewN ?_ _) | ((with_reducible refine Below.setCell ?_ ?_ _); rotate_left; (focus (first | (simp; done) | (simp; omega) | omega))) | ((with_reducible refine Below.alloc ?_ ?_ _); rotate_left; (focus (first | (simp; done) | (simp; omega) | omega))) | ((with_reducible apply below_step1); (focus (with_reducible assumption)))))⟩
    · have t : (a.k == 2) = false := by simpa using h
      rw [if_neg h] at HE
      clear h
      go_enter Tryz.func63, Tryz.ntmps63
      go_wp2_with fail
      refine bodyPost_ret (by simp [results, Tryz.results63, go_sem, *]; rfl) rfl ?_; rw [HE.out]; exact ⟨rfl, by (repeat (first | (with_reducible exact Below.refl _ _) | (with_reducible assumption) | (with_reducible refine Below.drew ?_) | (with_reducible refine below_drewN ?_ _) | ((with_reducible refine Below.setCell ?_ ?_ _); rotate_left; (focus (first | (simp; done) | (simp; omega) | omega))) | ((with_reducible refine Below.alloc ?_ ?_ _); rotate_left; (focus (first | (simp; done) | (simp; omega) | omega))) | ((with_reducible apply below_step1); (focus (with_reducible assumption)))))⟩
  · have HE := Lib.hid (show strictR 13 a V.null = if a.k = 1 then truthV (a.n == 0) else V.null from rfl)
    generalize strictR 13 a V.null = r at HE
    by_cases h : a.k = 1
    · have t : (a.k == 1) = true := by simpa using h
      rw [if_pos h] at HE
      clear h
      go_enter Tryz.func63, Tryz.ntmps63
      go_wp2_with ((go_at_call 62; refine (rbit _ _).mono ?_; rintro e w1 ⟨rfl, hb1⟩; obtain ⟨hc1, hf1⟩ := bcell hb1; have hz1 := (hb1).size; (try simp at hz1); have hl10 : w.heap.size < w1.heap.size := (by omega)))
      refine bodyPost_ret (by simp [results, Tryz.results63, go_sem, *]; rfl) rfl ?_; rw [HE.out]; exact ⟨rfl, by (repeat (first | (with_reducible exact Below.refl _ _) | (with_reducible assumption) | (with_reducible refine Below.drew ?_) | (with_reducible refine below_drewN ?_ _) | ((with_reducible refine Below.setCell ?_ ?_ _); rotate_left; (focus (first | (simp; done) | (simp; omega) | omega))) | ((with_reducible refine Below.alloc ?_ ?_ _); rotate_left; (focus (first | (simp; done) | (simp; omega) | omega))) | ((with_reducible apply below_step1); (focus (with_reducible assumption)))))⟩
    · have t : (a.k == 1) = false := by simpa using h
      rw [if_neg h] at HE
      clear h
      go_enter Tryz.func63, Tryz.ntmps63
      go_wp2_with fail
      refine bodyPost_ret (by simp [results, Tryz.results63, go_sem, *]; rfl) rfl ?_; rw [HE.out]; exact ⟨rfl, by (repeat (first | (with_reducible exact Below.refl _ _) | (with_reducible assumption) | (with_reducible refine Below.drew ?_) | (with_reducible refine below_drewN ?_ _) | ((with_reducible refine Below.setCell ?_ ?_ _); rotate_left; (focus (first | (simp; done) | (simp; omega) | omega))) | ((with_reducible refine Below.alloc ?_ ?_ _); rotate_left; (focus (first | (simp; done) | (simp; omega) | omega))) | ((with_reducible apply below_step1); (focus (with_reducible assumption)))))⟩

set_option maxRecDepth 100000 in
set_option maxHeartbeats 2000000 in
theorem rstrict_nums (op : Int) (a b : V) (B off c : Nat) (w : World) (hop : op = 4 ∨ op = 5 ∨ op = 6 ∨ op = 7) (ha : a.ok = true) (hb : b.ok = true) (hc : Cells1 w B off a) (hd : Cells1 w B (off + 3) b) : Calls Tryz.prog 63 #[.int .i64 op, .slice (some ⟨B, off, none⟩) 2 c] w fun e w' => e = .returned (.agg #[.int .i64 (strictR op a b).k, .int .i64 (strictR op a b).n, .string (strictR op a b).s]) ∧ Below w.heap.size w w' := by
  obtain ⟨hlt, c0, c1, c2⟩ := hc
  obtain ⟨_, d0, d1, d2⟩ := hd
  have na := ok_bounds ha
  have nb := ok_bounds hb
  have HE := Lib.hid (show strictR op a b = if a.k = 1 ∧ b.k = 1 then numsR op a.n b.n else V.null by rcases hop with rfl | rfl | rfl | rfl <;> rfl)
  generalize strictR op a b = r at HE
  clear ha hb
  by_cases h : a.k = 1
  · have t : (a.k == 1) = true := by simpa using h
    by_cases h2 : b.k = 1
    · have t2 : (b.k == 1) = true := by simpa using h2
      rw [if_pos ⟨h, h2⟩] at HE
      clear h h2
      rcases hop with rfl | rfl | rfl | rfl
      all_goals go_enter Tryz.func63, Tryz.ntmps63
      all_goals go_wp2_with fail
      all_goals go_region_with ((go_at_call 89; refine (rnumbers _ _ _ _ na nb).mono ?_; rintro e w1 ⟨rfl, hb1⟩; obtain ⟨hc1, hf1⟩ := bcell hb1; have hz1 := (hb1).size; (try simp at hz1); have hl10 : w.heap.size < w1.heap.size := (by omega)))
      all_goals go_wp2_with fail
      all_goals refine bodyPost_ret (by simp [results, Tryz.results63, go_sem, *]; rfl) rfl ?_
      all_goals rw [HE.out]
      all_goals exact ⟨rfl, by (repeat (first | (with_reducible exact Below.refl _ _) | (with_reducible assumption) | (with_reducible refine Below.drew ?_) | (with_reducible refine below_drewN ?_ _) | ((with_reducible refine Below.setCell ?_ ?_ _); rotate_left; (focus (first | (simp; done) | (simp; omega) | omega))) | ((with_reducible refine Below.alloc ?_ ?_ _); rotate_left; (focus (first | (simp; done) | (simp; omega) | omega))) | ((with_reducible apply below_step1); (focus (with_reducible assumption)))))⟩
    · have t2 : (b.k == 1) = false := by simpa using h2
      rw [if_neg (fun h => h2 h.2)] at HE
      clear h h2
      rcases hop with rfl | rfl | rfl | rfl
      all_goals go_enter Tryz.func63, Tryz.ntmps63
      all_goals go_wp2_with fail
      all_goals refine bodyPost_ret (by simp [results, Tryz.results63, go_sem, *]; rfl) rfl ?_
      all_goals rw [HE.out]
      all_goals exact ⟨rfl, by (repeat (first | (with_reducible exact Below.refl _ _) | (with_reducible assumption) | (with_reducible refine Below.drew ?_) | (with_reducible refine below_drewN ?_ _) | ((with_reducible refine Below.setCell ?_ ?_ _); rotate_left; (focus (first | (simp; done) | (simp; omega) | omega))) | ((with_reducible refine Below.alloc ?_ ?_ _); rotate_left; (focus (first | (simp; done) | (simp; omega) | omega))) | ((with_reducible apply below_step1); (focus (with_reducible assumption)))))⟩
  · have t : (a.k == 1) = false := by simpa using h
    rw [if_neg (fun g => h g.1)] at HE
    clear h
    rcases hop with rfl | rfl | rfl | rfl
    all_goals go_enter Tryz.func63, Tryz.ntmps63
    all_goals go_wp2_with fail
    all_goals refine bodyPost_ret (by simp [results, Tryz.results63, go_sem, *]; rfl) rfl ?_
    all_goals rw [HE.out]
    all_goals exact ⟨rfl, by (repeat (first | (with_reducible exact Below.refl _ _) | (with_reducible assumption) | (with_reducible refine Below.drew ?_) | (with_reducible refine below_drewN ?_ _) | ((with_reducible refine Below.setCell ?_ ?_ _); rotate_left; (focus (first | (simp; done) | (simp; omega) | omega))) | ((with_reducible refine Below.alloc ?_ ?_ _); rotate_left; (focus (first | (simp; done) | (simp; omega) | omega))) | ((with_reducible apply below_step1); (focus (with_reducible assumption)))))⟩
set_option maxRecDepth 100000 in
set_option maxHeartbeats 2000000 in
theorem rstrict_text (op : Int) (a b : V) (B off c : Nat) (w : World) (hop : op = 8 ∨ op = 10) (ha : a.ok = true) (hb : b.ok = true) (hc : Cells1 w B off a) (hd : Cells1 w B (off + 3) b) : Calls Tryz.prog 63 #[.int .i64 op, .slice (some ⟨B, off, none⟩) 2 c] w fun e w' => e = .returned (.agg #[.int .i64 (strictR op a b).k, .int .i64 (strictR op a b).n, .string (strictR op a b).s]) ∧ Below w.heap.size w w' := by
  obtain ⟨hlt, c0, c1, c2⟩ := hc
  obtain ⟨_, d0, d1, d2⟩ := hd
  have sa := ok_size ha
  have sb := ok_size hb
  clear ha hb
  rcases hop with rfl | rfl
  · have HE := Lib.hid (show strictR 8 a b = if a.k = 2 ∧ b.k = 2 then textR (a.s ++ b.s) else V.null from rfl)
    generalize strictR 8 a b = r at HE
    have hadd : ∀ w, (Op.stringOp .add a.s b.s).run Tryz.prog w = .ok (.string (a.s ++ b.s)) w := fun w => run_string_add_sum w _ _ (by omega)
    by_cases h : a.k = 2
    · have t : (a.k == 2) = true := by simpa using h
      by_cases h2 : b.k = 2
      · have t2 : (b.k == 2) = true := by simpa using h2
        rw [if_pos ⟨h, h2⟩] at HE
        clear h h2
        go_enter Tryz.func63, Tryz.ntmps63
        go_wp2_with fail
        go_region_with ((go_at_call 58; refine (rtextR _ _).mono ?_; rintro e w1 ⟨rfl, hb1⟩; obtain ⟨hc1, hf1⟩ := bcell hb1; have hz1 := (hb1).size; (try simp at hz1); have hl10 : w.heap.size < w1.heap.size := (by omega)))
        all_goals go_wp2_with fail
        all_goals refine bodyPost_ret (by simp [results, Tryz.results63, go_sem, *]; rfl) rfl ?_
        all_goals rw [HE.out]
        all_goals exact ⟨rfl, by (repeat (first | (with_reducible exact Below.refl _ _) | (with_reducible assumption) | (with_reducible refine Below.drew ?_) | (with_reducible refine below_drewN ?_ _) | ((with_reducible refine Below.setCell ?_ ?_ _); rotate_left; (focus (first | (simp; done) | (simp; omega) | omega))) | ((with_reducible refine Below.alloc ?_ ?_ _); rotate_left; (focus (first | (simp; done) | (simp; omega) | omega))) | ((with_reducible apply below_step1); (focus (with_reducible assumption)))))⟩
      · have t2 : (b.k == 2) = false := by simpa using h2
        rw [if_neg (fun h => h2 h.2)] at HE
        clear h h2
        go_enter Tryz.func63, Tryz.ntmps63
        go_wp2_with fail
        refine bodyPost_ret (by simp [results, Tryz.results63, go_sem, *]; rfl) rfl ?_; rw [HE.out]; exact ⟨rfl, by (repeat (first | (with_reducible exact Below.refl _ _) | (with_reducible assumption) | (with_reducible refine Below.drew ?_) | (with_reducible refine below_drewN ?_ _) | ((with_reducible refine Below.setCell ?_ ?_ _); rotate_left; (focus (first | (simp; done) | (simp; omega) | omega))) | ((with_reducible refine Below.alloc ?_ ?_ _); rotate_left; (focus (first | (simp; done) | (simp; omega) | omega))) | ((with_reducible apply below_step1); (focus (with_reducible assumption)))))⟩
    · have t : (a.k == 2) = false := by simpa using h
      rw [if_neg (fun g => h g.1)] at HE
      clear h
      go_enter Tryz.func63, Tryz.ntmps63
      go_wp2_with fail
      refine bodyPost_ret (by simp [results, Tryz.results63, go_sem, *]; rfl) rfl ?_; rw [HE.out]; exact ⟨rfl, by (repeat (first | (with_reducible exact Below.refl _ _) | (with_reducible assumption) | (with_reducible refine Below.drew ?_) | (with_reducible refine below_drewN ?_ _) | ((with_reducible refine Below.setCell ?_ ?_ _); rotate_left; (focus (first | (simp; done) | (simp; omega) | omega))) | ((with_reducible refine Below.alloc ?_ ?_ _); rotate_left; (focus (first | (simp; done) | (simp; omega) | omega))) | ((with_reducible apply below_step1); (focus (with_reducible assumption)))))⟩
  · have HE := Lib.hid (show strictR 10 a b = if a.k = 2 ∧ b.k = 1 ∧ 0 ≤ b.n then textR (a.s.extract 0 (min b.n a.s.size).toNat) else V.null from rfl)
    generalize strictR 10 a b = r at HE
    have hsw : IntKind.i64.wrap (a.s.size : Int) = (a.s.size : Int) := IntWalk.i64_in _ (by omega)
    by_cases h : a.k = 2
    · have t : (a.k == 2) = true := by simpa using h
      by_cases h2 : b.k = 1
      · have t2 : (b.k == 1) = true := by simpa using h2
        by_cases h3 : 0 ≤ b.n
        · rw [if_pos ⟨h, h2, h3⟩] at HE
          have hm0 : 0 ≤ min b.n (a.s.size : Int) := by omega
          have hm1 : min b.n (a.s.size : Int) ≤ (a.s.size : Int) := by omega
          clear h h2
          go_enter Tryz.func63, Tryz.ntmps63
          go_wp2_with fail
          go_region_with ((go_at_call 58; refine (rtextR _ _).mono ?_; rintro e w1 ⟨rfl, hb1⟩; obtain ⟨hc1, hf1⟩ := bcell hb1; have hz1 := (hb1).size; (try simp at hz1); have hl10 : w.heap.size < w1.heap.size := (by omega)))
          all_goals go_wp2_with fail
          all_goals refine bodyPost_ret (by simp [results, Tryz.results63, go_sem, *]; rfl) rfl ?_
          all_goals rw [HE.out]
          all_goals exact ⟨rfl, by (repeat (first | (with_reducible exact Below.refl _ _) | (with_reducible assumption) | (with_reducible refine Below.drew ?_) | (with_reducible refine below_drewN ?_ _) | ((with_reducible refine Below.setCell ?_ ?_ _); rotate_left; (focus (first | (simp; done) | (simp; omega) | omega))) | ((with_reducible refine Below.alloc ?_ ?_ _); rotate_left; (focus (first | (simp; done) | (simp; omega) | omega))) | ((with_reducible apply below_step1); (focus (with_reducible assumption)))))⟩
        · rw [if_neg (fun h => h3 h.2.2)] at HE
          clear h h2
          go_enter Tryz.func63, Tryz.ntmps63
          go_wp2_with fail
          refine bodyPost_ret (by simp [results, Tryz.results63, go_sem, *]; rfl) rfl ?_; rw [HE.out]; exact ⟨rfl, by (repeat (first | (with_reducible exact Below.refl _ _) | (with_reducible assumption) | (with_reducible refine Below.drew ?_) | (with_reducible refine below_drewN ?_ _) | ((with_reducible refine Below.setCell ?_ ?_ _); rotate_left; (focus (first | (simp; done) | (simp; omega) | omega))) | ((with_reducible refine Below.alloc ?_ ?_ _); rotate_left; (focus (first | (simp; done) | (simp; omega) | omega))) | ((with_reducible apply below_step1); (focus (with_reducible assumption)))))⟩
      · have t2 : (b.k == 1) = false := by simpa using h2
        rw [if_neg (fun h => h2 h.2.1)] at HE
        clear h h2
        go_enter Tryz.func63, Tryz.ntmps63
        go_wp2_with fail
        refine bodyPost_ret (by simp [results, Tryz.results63, go_sem, *]; rfl) rfl ?_; rw [HE.out]; exact ⟨rfl, by (repeat (first | (with_reducible exact Below.refl _ _) | (with_reducible assumption) | (with_reducible refine Below.drew ?_) | (with_reducible refine below_drewN ?_ _) | ((with_reducible refine Below.setCell ?_ ?_ _); rotate_left; (focus (first | (simp; done) | (simp; omega) | omega))) | ((with_reducible refine Below.alloc ?_ ?_ _); rotate_left; (focus (first | (simp; done) | (simp; omega) | omega))) | ((with_reducible apply below_step1); (focus (with_reducible assumption)))))⟩
    · have t : (a.k == 2) = false := by simpa using h
      rw [if_neg (fun g => h g.1)] at HE
      clear h
      go_enter Tryz.func63, Tryz.ntmps63
      go_wp2_with fail
      refine bodyPost_ret (by simp [results, Tryz.results63, go_sem, *]; rfl) rfl ?_; rw [HE.out]; exact ⟨rfl, by (repeat (first | (with_reducible exact Below.refl _ _) | (with_reducible assumption) | (with_reducible refine Below.drew ?_) | (with_reducible refine below_drewN ?_ _) | ((with_reducible refine Below.setCell ?_ ?_ _); rotate_left; (focus (first | (simp; done) | (simp; omega) | omega))) | ((with_reducible refine Below.alloc ?_ ?_ _); rotate_left; (focus (first | (simp; done) | (simp; omega) | omega))) | ((with_reducible apply below_step1); (focus (with_reducible assumption)))))⟩
set_option maxRecDepth 100000 in
set_option maxHeartbeats 2000000 in
theorem rstrict_comp (op : Int) (a b : V) (B off c : Nat) (w : World) (hop : op = 11 ∨ op = 12) (hc : Cells1 w B off a) (hd : Cells1 w B (off + 3) b) : Calls Tryz.prog 63 #[.int .i64 op, .slice (some ⟨B, off, none⟩) 2 c] w fun e w' => e = .returned (.agg #[.int .i64 (strictR op a b).k, .int .i64 (strictR op a b).n, .string (strictR op a b).s]) ∧ Below w.heap.size w w' := by
  obtain ⟨hlt, c0, c1, c2⟩ := hc
  obtain ⟨_, d0, d1, d2⟩ := hd
  rcases hop with rfl | rfl
  · have HE := Lib.hid (show strictR 11 a b = if a.k = b.k then truthV (a.beq b) else V.null from rfl)
    generalize strictR 11 a b = r at HE
    have he := run_eqV a.k a.n a.s b.k b.n b.s
    rw [show eqB a.k a.n a.s b.k b.n b.s = a.beq b from rfl] at he
    generalize a.beq b = q at he HE
    by_cases h : a.k = b.k
    · have t : (a.k == b.k) = true := by simpa using h
      rw [if_pos h] at HE
      clear h
      go_enter Tryz.func63, Tryz.ntmps63
      go_wp2_with fail
      go_quiet (fail)
      go_wp2_with fail
      go_region_with ((go_at_call 62; refine (rbit _ _).mono ?_; rintro e w1 ⟨rfl, hb1⟩; obtain ⟨hc1, hf1⟩ := bcell hb1; have hz1 := (hb1).size; (try simp at hz1); have hl10 : w.heap.size < w1.heap.size := (by omega)))
      all_goals go_wp2_with fail
      all_goals refine bodyPost_ret (by simp [results, Tryz.results63, go_sem, *]; rfl) rfl ?_
      all_goals rw [HE.out]
      all_goals exact ⟨rfl, by (repeat (first | (with_reducible exact Below.refl _ _) | (with_reducible assumption) | (with_reducible refine Below.drew ?_) | (with_reducible refine below_drewN ?_ _) | ((with_reducible refine Below.setCell ?_ ?_ _); rotate_left; (focus (first | (simp; done) | (simp; omega) | omega))) | ((with_reducible refine Below.alloc ?_ ?_ _); rotate_left; (focus (first | (simp; done) | (simp; omega) | omega))) | ((with_reducible apply below_step1); (focus (with_reducible assumption)))))⟩
    · have t : (a.k == b.k) = false := by simpa using h
      rw [if_neg h] at HE
      clear h
      go_enter Tryz.func63, Tryz.ntmps63
      go_wp2_with fail
      go_quiet (fail)
      go_wp2_with fail
      refine bodyPost_ret (by simp [results, Tryz.results63, go_sem, *]; rfl) rfl ?_; rw [HE.out]; exact ⟨rfl, by (repeat (first | (with_reducible exact Below.refl _ _) | (with_reducible assumption) | (with_reducible refine Below.drew ?_) | (with_reducible refine below_drewN ?_ _) | ((with_reducible refine Below.setCell ?_ ?_ _); rotate_left; (focus (first | (simp; done) | (simp; omega) | omega))) | ((with_reducible refine Below.alloc ?_ ?_ _); rotate_left; (focus (first | (simp; done) | (simp; omega) | omega))) | ((with_reducible apply below_step1); (focus (with_reducible assumption)))))⟩
  · have HE := Lib.hid (show strictR 12 a b = if a.k = b.k then truthV (decide (cmpV a b < 0)) else V.null from rfl)
    generalize strictR 12 a b = r at HE
    have hcm := rcompare a b
    generalize cmpV a b = q at hcm HE
    by_cases h : a.k = b.k
    · have t : (a.k == b.k) = true := by simpa using h
      rw [if_pos h] at HE
      clear h
      go_enter Tryz.func63, Tryz.ntmps63
      go_wp2_with fail
      go_quiet (fail)
      go_wp2_with fail
      go_region_with (first | (go_at_call 90; refine (hcm _).mono ?_; rintro e w1 ⟨rfl, hb1⟩; obtain ⟨hc1, hf1⟩ := bcell hb1; have hz1 := (hb1).size; (try simp at hz1); have hl10 : w.heap.size < w1.heap.size := (by omega)) | (go_at_call 62; refine (rbit _ _).mono ?_; rintro e w2 ⟨rfl, hb2⟩; obtain ⟨hc2, hf2⟩ := bcell hb2; have hz2 := (hb2).size; (try simp at hz2); have hl20 : w.heap.size < w2.heap.size := (by omega)))
      all_goals go_wp2_with fail
      all_goals refine bodyPost_ret (by simp [results, Tryz.results63, go_sem, *]; rfl) rfl ?_
      all_goals rw [HE.out]
      all_goals exact ⟨rfl, by (repeat (first | (with_reducible exact Below.refl _ _) | (with_reducible assumption) | (with_reducible refine Below.drew ?_) | (with_reducible refine below_drewN ?_ _) | ((with_reducible refine Below.setCell ?_ ?_ _); rotate_left; (focus (first | (simp; done) | (simp; omega) | omega))) | ((with_reducible refine Below.alloc ?_ ?_ _); rotate_left; (focus (first | (simp; done) | (simp; omega) | omega))) | ((with_reducible apply below_step1); (focus (with_reducible assumption)))))⟩
    · have t : (a.k == b.k) = false := by simpa using h
      rw [if_neg h] at HE
      clear h
      go_enter Tryz.func63, Tryz.ntmps63
      go_wp2_with fail
      go_quiet (fail)
      go_wp2_with fail
      refine bodyPost_ret (by simp [results, Tryz.results63, go_sem, *]; rfl) rfl ?_; rw [HE.out]; exact ⟨rfl, by (repeat (first | (with_reducible exact Below.refl _ _) | (with_reducible assumption) | (with_reducible refine Below.drew ?_) | (with_reducible refine below_drewN ?_ _) | ((with_reducible refine Below.setCell ?_ ?_ _); rotate_left; (focus (first | (simp; done) | (simp; omega) | omega))) | ((with_reducible refine Below.alloc ?_ ?_ _); rotate_left; (focus (first | (simp; done) | (simp; omega) | omega))) | ((with_reducible apply below_step1); (focus (with_reducible assumption)))))⟩
end Go.Proofs.YtojcabnjodfdmaaGreatDoor

namespace Go.Proofs.YtojcabnjodfdmaaGreatDoor
open Go.RowKit

theorem ar_one {op : Int} (h : ar op = 1) : op = 3 ∨ op = 9 ∨ op = 13 ∨ op = 16 := by
  unfold ar arity at h
  split at h
  · simp at h
  · split at h
    · assumption
    · split at h
      · simp at h
      · split at h <;> simp at h
theorem ar_two {op : Int} (h : ar op = 2) : op = 4 ∨ op = 5 ∨ op = 6 ∨ op = 7 ∨ op = 8 ∨ op = 10 ∨ op = 11 ∨ op = 12 ∨ op = 14 ∨ op = 15 ∨ op = 17 := by
  unfold ar arity at h
  split at h
  · simp at h
  · split at h
    · simp at h
    · split at h
      · simp at h
      · split at h
        · omega
        · simp at h
theorem ar_three {op : Int} (h : ar op = 3) : op = 18 := by
  unfold ar arity at h
  split at h
  · simp at h
  · split at h
    · simp at h
    · split at h
      · assumption
      · split at h <;> simp at h
theorem rstrict (op : Int) (A : Option Addr) (n c : Nat) (vs : List V) (w : World) (hop : 3 ≤ op ∧ op ≤ 13) (hl : vs.length = ar op) (hk : ∀ v ∈ vs, v.ok = true) (hr : Row w w.heap.size A n vs) : Calls Tryz.prog 63 #[.int .i64 op, .slice A n c] w fun e w' => e = .returned (.agg #[.int .i64 (strictR op (vs.getD 0 V.null) (vs.getD 1 V.null)).k, .int .i64 (strictR op (vs.getD 0 V.null) (vs.getD 1 V.null)).n, .string (strictR op (vs.getD 0 V.null) (vs.getD 1 V.null)).s]) ∧ Below w.heap.size w w' := by
  have hn := hr.len
  match vs, hl, hk, hr, hn with
  | [], hl, _, _, _ =>
    exfalso
    simp only [List.length_nil] at hl
    unfold ar arity at hl
    split at hl
    · omega
    · split at hl
      · simp at hl
      · split at hl
        · simp at hl
        · split at hl
          · simp at hl
          · omega
  | [a], hl, hk, hr, hn =>
    simp only [List.length_cons, List.length_nil] at hl hn
    subst hn
    obtain ⟨b, off, rfl, hc⟩ := hr.cells1 (by omega)
    have h0 := hc 0 a rfl
    rw [Nat.zero_mul] at h0
    exact rstrict1 op a b off c w (by have := ar_one hl.symm; omega) (hk a (by simp)) h0
  | [a, x], hl, hk, hr, hn =>
    simp only [List.length_cons, List.length_nil] at hl hn
    subst hn
    obtain ⟨b, off, rfl, hc⟩ := hr.cells1 (by omega)
    have h0 := hc 0 a rfl
    rw [Nat.zero_mul] at h0
    have h1 := hc 1 x rfl
    rw [Nat.one_mul] at h1
    have ha := hk a (by simp)
    have hx := hk x (by simp)
    rcases ar_two hl.symm with h | h | h | h | h | h | h | h | h | h | h
    · exact rstrict_nums op a x b off c w (by omega) ha hx h0 h1
    · exact rstrict_nums op a x b off c w (by omega) ha hx h0 h1
    · exact rstrict_nums op a x b off c w (by omega) ha hx h0 h1
    · exact rstrict_nums op a x b off c w (by omega) ha hx h0 h1
    · exact rstrict_text op a x b off c w (by omega) ha hx h0 h1
    · exact rstrict_text op a x b off c w (by omega) ha hx h0 h1
    · exact rstrict_comp op a x b off c w (by omega) h0 h1
    · exact rstrict_comp op a x b off c w (by omega) h0 h1
    · omega
    · omega
    · omega
  | [a, x, y], hl, _, _, _ => have := ar_three hl.symm; omega
  | a :: x :: y :: z :: r, hl, _, _, _ => have := ar_le op; simp at hl; omega

set_option maxRecDepth 100000 in
set_option maxHeartbeats 2000000 in
theorem rapply_logic (op : Int) (a b : V) (B off c : Nat) (w : World) (hop : op = 14 ∨ op = 15) (hc : Cells1 w B off a) (hd : Cells1 w B (off + 3) b) : Calls Tryz.prog 45 #[.int .i64 op, .slice (some ⟨B, off, none⟩) 2 c] w fun e w' => e = .returned (.agg #[.int .i64 (threeR op (truthR a) (truthR b)).k, .int .i64 (threeR op (truthR a) (truthR b)).n, .string (threeR op (truthR a) (truthR b)).s]) ∧ Below w.heap.size w w' := by
  obtain ⟨hlt, c0, c1, c2⟩ := hc
  obtain ⟨_, d0, d1, d2⟩ := hd
  have hlt1 : B < w.heap.size + 1 := by omega
  have hlt2 : B < w.heap.size + 1 + 1 := by omega
  have hp1 : w.heap.size < w.heap.size + 1 + 1 := by omega
  have T1 := rtruth a
  have T2 := rtruth b
  generalize truthR a = ta at T1
  generalize truthR b = tb at T2
  rcases hop with rfl | rfl
  all_goals go_enter Tryz.func45, Tryz.ntmps45
  all_goals go_wp2_with fail
  all_goals go_region_with (first
    | (go_at_call_of 61 (Value.agg #[.int .i64 a.k, .int .i64 a.n, .string a.s]); refine (T1 _).mono ?_; rintro e w1 ⟨rfl, hb1⟩; obtain ⟨hc1, hf1⟩ := bcell hb1; have hz1 := (hb1).size; (try simp at hz1); have hl10 : w.heap.size < w1.heap.size := (by omega); have hl11 : w.heap.size + 1 < w1.heap.size := (by omega); have hB1 : B < w1.heap.size := (by omega))
    | (go_at_call_of 61 (Value.agg #[.int .i64 b.k, .int .i64 b.n, .string b.s]); refine (T2 _).mono ?_; rintro e w2 ⟨rfl, hb2⟩; obtain ⟨hc2, hf2⟩ := bcell hb2; have hz2 := (hb2).size; (try simp at hz2); have hl20 : w.heap.size < w2.heap.size := (by omega); have hl21 : w.heap.size + 1 < w2.heap.size := (by omega); have hB2 : B < w2.heap.size := (by omega))
    | (go_at_call 60; refine (rthree _ _ _ _).mono ?_; rintro e w3 ⟨rfl, hb3⟩; obtain ⟨hc3, hf3⟩ := bcell hb3; have hz3 := (hb3).size; (try simp at hz3); have hl30 : w.heap.size < w3.heap.size := (by omega); have hl31 : w.heap.size + 1 < w3.heap.size := (by omega)))
  all_goals go_wp2_with fail
  all_goals refine bodyPost_ret (by simp [results, Tryz.results45, go_sem, *]; rfl) rfl ?_
  all_goals exact ⟨rfl, by (repeat (first | (with_reducible exact Below.refl _ _) | (with_reducible assumption) | (with_reducible refine Below.drew ?_) | (with_reducible refine below_drewN ?_ _) | ((with_reducible refine Below.setCell ?_ ?_ _); rotate_left; (focus (first | (simp; done) | (simp; omega) | omega))) | ((with_reducible refine Below.alloc ?_ ?_ _); rotate_left; (focus (first | (simp; done) | (simp; omega) | omega))) | ((with_reducible apply below_step1); (focus (with_reducible assumption)))))⟩
set_option maxRecDepth 100000 in
set_option maxHeartbeats 2000000 in
theorem rapply_rest (op : Int) (a b d : V) (n B off c : Nat) (w : World) (hop : (op = 16 ∧ n = 1) ∨ (op = 17 ∧ n = 2) ∨ (op = 18 ∧ n = 3)) (hc : Cells1 w B off a) (hd : op ≠ 16 → Cells1 w B (off + 3) b) (hd2 : op = 18 → Cells1 w B (off + 6) d) : Calls Tryz.prog 45 #[.int .i64 op, .slice (some ⟨B, off, none⟩) n c] w fun e w' => e = .returned (.agg #[.int .i64 (if op = 16 then truthV (a.beq V.null) else if op = 17 then (if a.beq V.null = false then a else b) else if truthR a = 1 then b else d).k, .int .i64 (if op = 16 then truthV (a.beq V.null) else if op = 17 then (if a.beq V.null = false then a else b) else if truthR a = 1 then b else d).n, .string (if op = 16 then truthV (a.beq V.null) else if op = 17 then (if a.beq V.null = false then a else b) else if truthR a = 1 then b else d).s]) ∧ Below w.heap.size w w' := by
  obtain ⟨hlt, c0, c1, c2⟩ := hc
  have hlt1 : B < w.heap.size + 1 := by omega
  have hlt2 : B < w.heap.size + 1 + 1 := by omega
  have hp1 : w.heap.size < w.heap.size + 1 + 1 := by omega
  rcases hop with ⟨rfl, rfl⟩ | ⟨rfl, rfl⟩ | ⟨rfl, rfl⟩
  · clear hd hd2
    have he := run_eqV a.k a.n a.s 0 0 ⟨#[]⟩
    rw [show eqB a.k a.n a.s 0 0 ⟨#[]⟩ = a.beq V.null from rfl] at he
    rw [if_pos rfl]
    generalize a.beq V.null = q at he
    go_enter Tryz.func45, Tryz.ntmps45
    go_wp2_with fail
    go_region_with ((go_at_call 62; refine (rbit _ _).mono ?_; rintro e w1 ⟨rfl, hb1⟩; obtain ⟨hc1, hf1⟩ := bcell hb1; have hz1 := (hb1).size; (try simp at hz1); have hl10 : w.heap.size < w1.heap.size := (by omega); have hl11 : w.heap.size + 1 < w1.heap.size := (by omega)))
    all_goals go_wp2_with fail
    all_goals refine bodyPost_ret (by simp [results, Tryz.results45, go_sem, *]; rfl) rfl ?_
    all_goals exact ⟨rfl, by (repeat (first | (with_reducible exact Below.refl _ _) | (with_reducible assumption) | (with_reducible refine Below.drew ?_) | (with_reducible refine below_drewN ?_ _) | ((with_reducible refine Below.setCell ?_ ?_ _); rotate_left; (focus (first | (simp; done) | (simp; omega) | omega))) | ((with_reducible refine Below.alloc ?_ ?_ _); rotate_left; (focus (first | (simp; done) | (simp; omega) | omega))) | ((with_reducible apply below_step1); (focus (with_reducible assumption)))))⟩
  · clear hd2
    obtain ⟨_, d0, d1, d2⟩ := hd (by omega)
    clear hd
    have he := run_neqV a.k a.n a.s 0 0 ⟨#[]⟩
    rw [show eqB a.k a.n a.s 0 0 ⟨#[]⟩ = a.beq V.null from rfl] at he
    rw [if_neg (by decide), if_pos rfl]
    generalize a.beq V.null = q at he
    cases q
    · rw [if_pos rfl]
      go_enter Tryz.func45, Tryz.ntmps45
      go_wp2_with fail
      go_quiet (fail)
      go_wp2_with fail
      refine bodyPost_ret (by simp [results, Tryz.results45, go_sem, *]; rfl) rfl ?_
      exact ⟨rfl, by (repeat (first | (with_reducible exact Below.refl _ _) | (with_reducible assumption) | (with_reducible refine Below.drew ?_) | (with_reducible refine below_drewN ?_ _) | ((with_reducible refine Below.setCell ?_ ?_ _); rotate_left; (focus (first | (simp; done) | (simp; omega) | omega))) | ((with_reducible refine Below.alloc ?_ ?_ _); rotate_left; (focus (first | (simp; done) | (simp; omega) | omega))) | ((with_reducible apply below_step1); (focus (with_reducible assumption)))))⟩
    · rw [if_neg (by decide)]
      go_enter Tryz.func45, Tryz.ntmps45
      go_wp2_with fail
      go_quiet (fail)
      go_wp2_with fail
      refine bodyPost_ret (by simp [results, Tryz.results45, go_sem, *]; rfl) rfl ?_
      exact ⟨rfl, by (repeat (first | (with_reducible exact Below.refl _ _) | (with_reducible assumption) | (with_reducible refine Below.drew ?_) | (with_reducible refine below_drewN ?_ _) | ((with_reducible refine Below.setCell ?_ ?_ _); rotate_left; (focus (first | (simp; done) | (simp; omega) | omega))) | ((with_reducible refine Below.alloc ?_ ?_ _); rotate_left; (focus (first | (simp; done) | (simp; omega) | omega))) | ((with_reducible apply below_step1); (focus (with_reducible assumption)))))⟩
  · obtain ⟨_, d0, d1, d2⟩ := hd (by omega)
    obtain ⟨_, g0, g1, g2⟩ := hd2 rfl
    clear hd hd2
    rw [if_neg (by decide), if_neg (by decide)]
    have T1 := rtruth a
    by_cases h : truthR a = 1
    · rw [if_pos h]
      rw [h] at T1
      clear h
      go_enter Tryz.func45, Tryz.ntmps45
      go_wp2_with ((go_at_call 61; refine (T1 _).mono ?_; rintro e w1 ⟨rfl, hb1⟩; obtain ⟨hc1, hf1⟩ := bcell hb1; have hz1 := (hb1).size; (try simp at hz1); have hl10 : w.heap.size < w1.heap.size := (by omega); have hl11 : w.heap.size + 1 < w1.heap.size := (by omega)))
      refine bodyPost_ret (by simp [results, Tryz.results45, go_sem, *]; rfl) rfl ?_
      exact ⟨rfl, by (repeat (first | (with_reducible exact Below.refl _ _) | (with_reducible assumption) | (with_reducible refine Below.drew ?_) | (with_reducible refine below_drewN ?_ _) | ((with_reducible refine Below.setCell ?_ ?_ _); rotate_left; (focus (first | (simp; done) | (simp; omega) | omega))) | ((with_reducible refine Below.alloc ?_ ?_ _); rotate_left; (focus (first | (simp; done) | (simp; omega) | omega))) | ((with_reducible apply below_step1); (focus (with_reducible assumption)))))⟩
    · rw [if_neg h]
      have t : (truthR a == 1) = false := by simpa using h
      clear h
      go_enter Tryz.func45, Tryz.ntmps45
      go_wp2_with ((go_at_call 61; refine (T1 _).mono ?_; rintro e w1 ⟨rfl, hb1⟩; obtain ⟨hc1, hf1⟩ := bcell hb1; have hz1 := (hb1).size; (try simp at hz1); have hl10 : w.heap.size < w1.heap.size := (by omega); have hl11 : w.heap.size + 1 < w1.heap.size := (by omega)))
      refine bodyPost_ret (by simp [results, Tryz.results45, go_sem, *]; rfl) rfl ?_
      exact ⟨rfl, by (repeat (first | (with_reducible exact Below.refl _ _) | (with_reducible assumption) | (with_reducible refine Below.drew ?_) | (with_reducible refine below_drewN ?_ _) | ((with_reducible refine Below.setCell ?_ ?_ _); rotate_left; (focus (first | (simp; done) | (simp; omega) | omega))) | ((with_reducible refine Below.alloc ?_ ?_ _); rotate_left; (focus (first | (simp; done) | (simp; omega) | omega))) | ((with_reducible apply below_step1); (focus (with_reducible assumption)))))⟩

/-- What lies in Apply's own blocks: the result's and null's. -/
structure Ap3 (w wr : World) : Prop where
  bel : Below w.heap.size w wr
  sz : w.heap.size + 2 ≤ wr.heap.size
  fr0 : ∀ i, wr.frozen? ⟨w.heap.size, i, none⟩ = false
  r0 : wr.cell? ⟨w.heap.size, 0, none⟩ = some (.int .i64 0)
  r1 : wr.cell? ⟨w.heap.size, 1, none⟩ = some (.int .i64 0)
  r2 : wr.cell? ⟨w.heap.size, 2, none⟩ = some (.string ⟨#[]⟩)
  n0 : wr.cell? ⟨w.heap.size + 1, 0, none⟩ = some (.int .i64 0)
  n1 : wr.cell? ⟨w.heap.size + 1, 1, none⟩ = some (.int .i64 0)
  n2 : wr.cell? ⟨w.heap.size + 1, 2, none⟩ = some (.string ⟨#[]⟩)
def ApRel (w : World) (vs : List V) (v6 : Value) (wr : World) : Prop := ∃ k : Nat, k ≤ vs.length ∧ v6 = .int .i64 k ∧ (vs.take k).any (fun v => v.beq V.null) = false ∧ Ap3 w wr
set_option maxRecDepth 100000 in
set_option maxHeartbeats 2000000 in
theorem rapply_strict (op : Int) (A : Option Addr) (n c : Nat) (vs : List V) (w : World) (hop : 3 ≤ op ∧ op ≤ 13) (hl : vs.length = ar op) (hk : ∀ v ∈ vs, v.ok = true) (hr : Row w w.heap.size A n vs) : Calls Tryz.prog 45 #[.int .i64 op, .slice A n c] w fun e w' => e = .returned (.agg #[.int .i64 (if vs.any (fun v => v.beq V.null) = true then V.null else strictR op (vs.getD 0 V.null) (vs.getD 1 V.null)).k, .int .i64 (if vs.any (fun v => v.beq V.null) = true then V.null else strictR op (vs.getD 0 V.null) (vs.getD 1 V.null)).n, .string (if vs.any (fun v => v.beq V.null) = true then V.null else strictR op (vs.getD 0 V.null) (vs.getD 1 V.null)).s]) ∧ Below w.heap.size w w' := by
  have hst := fun w1 hr1 => rstrict op A n c vs w1 hop hl hk hr1
  generalize strictR op (vs.getD 0 V.null) (vs.getD 1 V.null) = sv at hst
  obtain ⟨r, hre⟩ : ∃ r, (if vs.any (fun v => v.beq V.null) = true then V.null else sv) = r := ⟨_, rfl⟩
  rw [hre]
  have HE := Lib.hid hre.symm
  clear hre
  have HLN := Lib.hid hr.len
  have hn3 : n ≤ 3 := by have := hr.len; have := ar_le op; omega
  have hp1 : w.heap.size < w.heap.size + 1 + 1 := by omega
  obtain ⟨o1, o2⟩ := hop
  have t14 : (op == 14) = false := by simp; omega
  have t15 : (op == 15) = false := by simp; omega
  have t16 : (op == 16) = false := by simp; omega
  have t17 : (op == 17) = false := by simp; omega
  have t18 : (op == 18) = false := by simp; omega
  clear hl hk
  go_enter Tryz.func45, Tryz.ntmps45
  go_wp2_with fail
  go_loopw [6] (fun v6 wr => ApRel w vs v6 wr) (fun v6 _ => n - (intOf v6).toNat)
  case atStart =>
    refine ⟨0, Nat.zero_le _, rfl, rfl, ?_⟩
    constructor
    · (repeat (first | (with_reducible exact Below.refl _ _) | (with_reducible assumption) | (with_reducible refine Below.drew ?_) | (with_reducible refine below_drewN ?_ _) | ((with_reducible refine Below.setCell ?_ ?_ _); rotate_left; (focus (first | (simp; done) | (simp; omega) | omega))) | ((with_reducible refine Below.alloc ?_ ?_ _); rotate_left; (focus (first | (simp; done) | (simp; omega) | omega))) | ((with_reducible apply below_step1); (focus (with_reducible assumption)))))
    · simp
    all_goals (first | (intro i; simp [go_sem]; done) | (simp [go_sem]; done))
  case round =>
    obtain ⟨k, hk, rfl, hany, h3⟩ := hrel
    obtain ⟨hbel, hsz, fr0, r0, r1, r2, n0, n1, n2⟩ := h3
    have hzz := hbel.size
    have HA := Lib.hid hany
    clear hany
    have hs0 : w.heap.size < wr.heap.size := by omega
    have hs1 : w.heap.size + 1 < wr.heap.size := by omega
    by_cases hlt : k < n
    · obtain ⟨b, off, v, rfl, hb, hv, c0, c1, c2⟩ := Row.at3 ((hr.below hbel).more hzz) hlt
      have HV := Lib.hid hv
      have he := run_eqV v.k v.n v.s 0 0 ⟨#[]⟩
      rw [show eqB v.k v.n v.s 0 0 ⟨#[]⟩ = v.beq V.null from rfl] at he
      have hk0 : (0 : Int) ≤ (k : Int) := by omega
      have hk1 : (k : Int) < (n : Int) := by omega
      have hkw : IntKind.i64.wrap ((k : Int) + 1) = (k : Int) + 1 := IntWalk.i64_in _ (by omega)
      cases hq : v.beq V.null
      · rw [hq] at he
        have HQ := Lib.hid hq
        clear hq hv
        go_wp2_with fail
        go_quiet (fail)
        go_wp2_with fail
        go_roundw
        case rel =>
          refine ⟨k + 1, by have := HLN.out; omega, by go_num, ?_, ⟨by (repeat (first | (with_reducible exact Below.refl _ _) | (with_reducible assumption) | (with_reducible refine Below.drew ?_) | (with_reducible refine below_drewN ?_ _) | ((with_reducible refine Below.setCell ?_ ?_ _); rotate_left; (focus (first | (simp; done) | (simp; omega) | omega))) | ((with_reducible refine Below.alloc ?_ ?_ _); rotate_left; (focus (first | (simp; done) | (simp; omega) | omega))) | ((with_reducible apply below_step1); (focus (with_reducible assumption))))), hsz, fr0, r0, r1, r2, n0, n1, n2⟩⟩
          rw [take_any_succ _ _ _ _ HV.out, HA.out, HQ.out]
          rfl
        case measure => simp [intOf]; omega
      · rw [hq] at he
        have HR := Lib.hid (show r = V.null by rw [HE.out, if_pos (any_of_at _ vs k v hv hq)])
        clear hq hv
        go_wp2_with fail
        go_quiet (fail)
        go_wp2_with fail
        refine bodyPost_ret (by simp [results, Tryz.results45, go_sem, *]; rfl) rfl ?_
        rw [HR.out]
        exact ⟨rfl, by (repeat (first | (with_reducible exact Below.refl _ _) | (with_reducible assumption) | (with_reducible refine Below.drew ?_) | (with_reducible refine below_drewN ?_ _) | ((with_reducible refine Below.setCell ?_ ?_ _); rotate_left; (focus (first | (simp; done) | (simp; omega) | omega))) | ((with_reducible refine Below.alloc ?_ ?_ _); rotate_left; (focus (first | (simp; done) | (simp; omega) | omega))) | ((with_reducible apply below_step1); (focus (with_reducible assumption)))))⟩
    · have hkl : k = vs.length := by have := HLN.out; omega
      have HR := Lib.hid (show r = sv by
        have h1 := HA.out
        rw [hkl, List.take_length] at h1
        rw [HE.out, h1, if_neg (by decide)])
      have hlt2 : ¬ (k : Int) < (n : Int) := by omega
      clear hkl
      go_wp2_with ((go_at_call 63; refine (hst _ (by exact (hr.below hbel).more hzz)).mono ?_; rintro e w1 ⟨rfl, hb1⟩; obtain ⟨hc1, hf1⟩ := bcell hb1; have hz1 := (hb1).size; (try simp at hz1); have hl10 : w.heap.size < w1.heap.size := (by omega); have hl11 : w.heap.size + 1 < w1.heap.size := (by omega)))
      refine bodyPost_ret (by simp [results, Tryz.results45, go_sem, *]; rfl) rfl ?_
      rw [HR.out]
      exact ⟨rfl, by (repeat (first | (with_reducible exact Below.refl _ _) | (with_reducible assumption) | (with_reducible refine Below.drew ?_) | (with_reducible refine below_drewN ?_ _) | ((with_reducible refine Below.setCell ?_ ?_ _); rotate_left; (focus (first | (simp; done) | (simp; omega) | omega))) | ((with_reducible refine Below.alloc ?_ ?_ _); rotate_left; (focus (first | (simp; done) | (simp; omega) | omega))) | ((with_reducible apply below_step1); (focus (with_reducible assumption)))))⟩
theorem rapply (op : Int) (A : Option Addr) (n c : Nat) (vs : List V) (w : World) (hop : 3 ≤ op ∧ op ≤ 18) (hl : vs.length = ar op) (hk : ∀ v ∈ vs, v.ok = true) (hr : Row w w.heap.size A n vs) : Calls Tryz.prog 45 #[.int .i64 op, .slice A n c] w fun e w' => e = .returned (.agg #[.int .i64 (applyR op vs).k, .int .i64 (applyR op vs).n, .string (applyR op vs).s]) ∧ Below w.heap.size w w' := by
  by_cases h13 : op ≤ 13
  · have := rapply_strict op A n c vs w ⟨hop.1, h13⟩ hl hk hr
    rw [show applyR op vs = if vs.any (fun v => v.beq V.null) = true then V.null else strictR op (vs.getD 0 V.null) (vs.getD 1 V.null) by
      unfold applyR
      rw [if_neg (by omega), if_neg (by omega), if_neg (by omega), if_neg (by omega)]]
    exact this
  have hn := hr.len
  match vs, hl, hk, hr, hn with
  | [], hl, _, _, _ =>
    exfalso
    simp only [List.length_nil] at hl
    unfold ar arity at hl
    split at hl
    · omega
    · split at hl
      · simp at hl
      · split at hl
        · simp at hl
        · split at hl
          · simp at hl
          · omega
  | [a], hl, hk, hr, hn =>
    simp only [List.length_cons, List.length_nil] at hl hn
    subst hn
    obtain ⟨b, off, rfl, hc⟩ := hr.cells1 (by omega)
    have h0 := hc 0 a rfl
    rw [Nat.zero_mul] at h0
    obtain rfl : op = 16 := by have := ar_one hl.symm; omega
    exact rapply_rest 16 a V.null V.null 1 b off c w (by omega) h0 (fun h => absurd rfl h) (fun h => by omega)
  | [a, x], hl, hk, hr, hn =>
    simp only [List.length_cons, List.length_nil] at hl hn
    subst hn
    obtain ⟨b, off, rfl, hc⟩ := hr.cells1 (by omega)
    have h0 := hc 0 a rfl
    rw [Nat.zero_mul] at h0
    have h1 := hc 1 x rfl
    rw [Nat.one_mul] at h1
    have hh : op = 14 ∨ op = 15 ∨ op = 17 := by have := ar_two hl.symm; omega
    rcases hh with rfl | rfl | rfl
    · exact rapply_logic 14 a x b off c w (by omega) h0 h1
    · exact rapply_logic 15 a x b off c w (by omega) h0 h1
    · exact rapply_rest 17 a x V.null 2 b off c w (by omega) h0 (fun _ => h1) (fun h => by omega)
  | [a, x, y], hl, _, hr, hn =>
    simp only [List.length_cons, List.length_nil] at hl hn
    subst hn
    obtain ⟨b, off, rfl, hc⟩ := hr.cells1 (by omega)
    have h0 := hc 0 a rfl
    rw [Nat.zero_mul] at h0
    have h1 := hc 1 x rfl
    rw [Nat.one_mul] at h1
    have h2 := hc 2 y rfl
    obtain rfl := ar_three hl.symm
    exact rapply_rest 18 a x y 3 b off c w (by omega) h0 (fun _ => h1) (fun _ => h2)
  | a :: x :: y :: z :: r, hl, _, _, _ => have := ar_le op; simp at hl; omega
end Go.Proofs.YtojcabnjodfdmaaGreatDoor

namespace Go.Proofs.YtojcabnjodfdmaaGreatDoor
open Go.RowKit

theorem stTT : SliceTy Tryz.prog 67 23 1 24 := SliceTy.mk' Tryz.underlying67 (z := .slice none 0 0) (by kernel_rfl) rfl (by decide) (by decide)
/-- The slices of an expression's operands. -/
def opCells (b off c : Nat) : Nat → List X → List Value
  | _, [] => []
  | p, k :: ks => .slice (some ⟨b, off + p * 5, none⟩) k.flat.length (c - p) :: opCells b off c (p + k.flat.length) ks
theorem opCells_snoc (b off c : Nat) : ∀ (ks : List X) (p : Nat) (k : X), opCells b off c p (ks ++ [k]) = opCells b off c p ks ++ [.slice (some ⟨b, off + (p + (flats ks).length) * 5, none⟩) k.flat.length (c - (p + (flats ks).length))] := by
  intro ks
  induction ks with
  | nil => intro p k; simp [opCells, flats]
  | cons y ys ih =>
    intro p k
    simp only [List.cons_append, opCells, ih, flats_cons, List.length_append, Nat.add_assoc]
theorem opCells_len (b off c : Nat) : ∀ (ks : List X) (p : Nat), (opCells b off c p ks).length = ks.length := by
  intro ks
  induction ks with
  | nil => intro p; rfl
  | cons y ys ih => intro p; simp [opCells, ih]
theorem opCells_at (b off c : Nat) : ∀ (ks : List X) (p i : Nat) (k : X), ks[i]? = some k → (opCells b off c p ks)[i]? = some (.slice (some ⟨b, off + (p + (flats (ks.take i)).length) * 5, none⟩) k.flat.length (c - (p + (flats (ks.take i)).length))) := by
  intro ks
  induction ks with
  | nil => intro p i k h; simp at h
  | cons y ys ih =>
    intro p i k h
    cases i with
    | zero => simp at h; subst h; simp [opCells, flats]
    | succ i =>
      simp at h
      rw [opCells, List.getElem?_cons_succ, ih _ _ _ h, List.take_succ_cons, flats_cons, List.length_append, Nat.add_assoc]
theorem endO_flat {es : List T} {at_ dp : Nat} {k : X} {r : List T} (h : es.drop at_ = k.flat ++ r) (hw : k.wf = true) (hd : k.depth ≤ dp) : endO es at_ dp = ((at_ + k.flat.length : Nat) : Int) := by
  unfold endO
  rw [h, readX_flat k r dp hw hd]
/-- A part of a row of terms. -/
theorem RowT.part {w : World} {B b off n : Nat} {es y r : List T} {p : Nat} (h : RowT w B (some ⟨b, off, none⟩) n es) (hp : es.drop p = y ++ r) : RowT w B (some ⟨b, off + p * 5, none⟩) y.length y := by
  refine ⟨rfl, fun hne => ?_⟩
  have hes : es = es.take p ++ (y ++ r) := by rw [← hp, List.take_append_drop]
  have hpl : (es.take p).length = p := by
    have h1 : y ≠ [] := by rintro rfl; exact hne rfl
    have h2 := congrArg List.length hp
    rw [List.length_drop, List.length_append] at h2
    have h3 : 0 < y.length := List.length_pos_iff.2 h1
    rw [List.length_take]; omega
  have hcells : es.flatMap T.cells = (es.take p).flatMap T.cells ++ (y.flatMap T.cells ++ r.flatMap T.cells) := by
    conv => lhs; rw [hes]
    simp
  have hl : ((es.take p).flatMap T.cells).length = p * 5 := by rw [flatMap_len 5 (fun _ => rfl), hpl]
  obtain ⟨b', off', e, hb, hc⟩ := h.rd (by
    rw [hcells]
    intro h0
    have := List.append_eq_nil_iff.1 h0
    exact hne (List.append_eq_nil_iff.1 this.2).1)
  injection e with e
  injection e with e1 e2
  subst e1 e2
  refine ⟨b, off + p * 5, rfl, hb, fun j u hu => ?_⟩
  have hj : j < (y.flatMap T.cells).length := (List.getElem?_eq_some_iff.1 hu).1
  have := hc (p * 5 + j) u (by
    rw [hcells, List.getElem?_append_right (by omega), hl, Nat.add_sub_cancel_left, List.getElem?_append_left hj]
    exact hu)
  rw [← Nat.add_assoc] at this
  exact this
def OpsPost (w : World) (b off c : Nat) (ks : List X) (e : Ending) (w' : World) : Prop := ∃ v, e = .returned v ∧ w'.ownsRow w.heap.size 23 1 v ks.length (opCells b off c 1 ks) ∧ Below w.heap.size w w'
set_option maxRecDepth 100000 in
set_option maxHeartbeats 1000000 in
theorem operands_c (b off n c : Nat) (t : T) (ks : List X) (w : World) (hn : n ≤ 1000) (hnc : n ≤ c) (_hcm : c ≤ maxLen) (hw : (X.node t ks).wf = true) (hd : (X.node t ks).depth ≤ 17) (hr : RowT w w.heap.size (some ⟨b, off, none⟩) n (X.node t ks).flat) : Calls Tryz.prog 44 #[.slice (some ⟨b, off, none⟩) n c] w (OpsPost w b off c ks) := by
  have hlen := hr.len
  rw [X.flat_node, List.length_cons] at hlen
  have HLN := Lib.hid hlen
  have hk3 : ks.length ≤ 3 := by
    simp only [X.wf, Bool.and_eq_true, decide_eq_true_eq] at hw
    have := ar_le t.op
    omega
  have hdk : deepest ks ≤ 16 := by simp only [X.depth] at hd; omega
  have hwk : wfs ks = true := by simp only [X.wf, Bool.and_eq_true] at hw; exact hw.2.2
  have HW := Lib.hid hwk
  clear hlen hwk hw hd
  unfold maxLen at _hcm
  go_enter Tryz.func44, Tryz.ntmps44
  go_wp2_with fail
  go_loopw [3, 4] (fun v3 v4 wr => ∃ i p : Nat, i ≤ ks.length ∧ v4 = .int .i64 (p : Int) ∧ Hid (p = 1 + (flats (ks.take i)).length) ∧ wr.ownsRow w.heap.size 23 1 v3 i (opCells b off c 1 (ks.take i)) ∧ Below w.heap.size w wr) (fun _ v4 _ => n - (intOf v4).toNat)
  case atStart => exact ⟨0, 1, Nat.zero_le _, rfl, by show _ = _; simp [flats], World.ownsRow_nil _ _ _ _, by (repeat (first | (with_reducible exact Below.refl _ _) | (with_reducible assumption) | (with_reducible refine Below.drew ?_) | (with_reducible refine below_drewN ?_ _) | ((with_reducible refine Below.setCell ?_ ?_ _); rotate_left; (focus (first | (simp; done) | (simp; omega) | omega))) | ((with_reducible refine Below.alloc ?_ ?_ _); rotate_left; (focus (first | (simp; done) | (simp; omega) | omega))) | ((with_reducible apply below_step1); (focus (with_reducible assumption)))))⟩
  case round =>
    obtain ⟨i, p, hi, rfl, HP, hown, hbel⟩ := hrel
    have hzz := hbel.size
    by_cases hlt : i < ks.length
    · have hki : ks[i]? = some ks[i] := List.getElem?_eq_getElem hlt
      generalize ks[i] = k at hki
      obtain ⟨k1, k2, k3⟩ := kid_in hki
      have hka := kid_at (t := t) (es := (X.node t ks).flat) (pos := 0) (r := []) (by simp) hki
      rw [Nat.zero_add, ← HP.out] at hka
      have hend := rend (some ⟨b, off, none⟩) n c _ hn 16 p wr (by omega) (by
        have h2 := congrArg List.length hka
        rw [List.length_drop, List.length_append, hr.len] at h2
        have h4 := k.flat_pos
        omega) ((hr.below hbel).more hzz)
      rw [endO_flat hka (k2 HW.out) (by omega)] at hend
      have hkp := k.flat_pos
      have hbnd : p + k.flat.length ≤ n := by
        have h2 := congrArg List.length hka
        rw [List.length_drop, List.length_append, hr.len] at h2
        omega
      have HQ := Lib.hid (show p + k.flat.length = 1 + (flats (ks.take (i + 1))).length by rw [k3, HP.out]; omega)
      have HC := Lib.hid (show opCells b off c 1 (ks.take (i + 1)) = opCells b off c 1 (ks.take i) ++ [.slice (some ⟨b, off + p * 5, none⟩) k.flat.length (c - p)] by
        rw [List.take_add_one, hki, Option.toList_some, opCells_snoc, ← HP.out])
      obtain ⟨q, hq⟩ : ∃ q, p + k.flat.length = q := ⟨_, rfl⟩
      rw [hq] at hend hbnd HQ
      have hpq : p < q := by omega
      have HLQ := Lib.hid (show k.flat.length = q - p by omega)
      rw [HLQ.out] at HC
      clear hka hki k1 k2 k3 hq hkp
      have hpn : (p : Int) < (n : Int) := by omega
      have hpc : p ≠ c := by omega
      have h1 : (p : Int) ≤ (q : Int) := by omega
      have h2 : (q : Int) ≤ (c : Int) := by omega
      have h3 : (0 : Int) ≤ (p : Int) := by omega
      go_wp2_with (first
        | (go_at_call 43; refine hend.mono ?_; rintro e w1 ⟨rfl, hb1⟩; have hz1 := hb1.size; have own1 := own_below hown hb1)
        | (at_builtin; refine wpList_app (v := u3) rfl _ _ stTT rfl rfl (own1) rfl (by simp) rfl (by simp [Value.oneCell']) (by omega) (by omega) ?_; intro v' w2 own2 hg2 hat2))
      have hb2 := below_app (below_step hb1 hbel (Nat.le_refl _)) own1 hg2 (Nat.le_refl _) (by omega)
      refine ⟨⟨i + 1, q, by omega, rfl, HQ, ?_, hb2⟩, by simp [intOf]; omega⟩
      rw [HC.out]
      exact own2
    · obtain rfl : i = ks.length := by omega
      have hpn : p = n := by
        have h1 := HP.out
        rw [List.take_length] at h1
        have := HLN.out
        omega
      subst hpn
      go_wp2_with fail
      go_ret
      rw [List.take_length] at hown
      exact ⟨_, rfl, hown, hbel⟩
/-- What an operand is, read out of the slices. -/
theorem ops_at {w w1 : World} {base b off n c : Nat} {t : T} {ks : List X} {A : Option Addr} {m d : Nat} {i : Nat} {k : X} (ho : w1.ownsRow base 23 1 (.slice A m d) ks.length (opCells b off c 1 ks)) (hr : RowT w w.heap.size (some ⟨b, off, none⟩) n (X.node t ks).flat) (hki : ks[i]? = some k) (_hb : Below w.heap.size w w1) :
    ∃ g q, A = some ⟨g, 0, none⟩ ∧ g < w1.heap.size ∧ base ≤ g ∧ m = ks.length ∧ k.flat.length ≤ n ∧ w1.cell? ⟨g, i, none⟩ = some (.slice (some ⟨b, off + q * 5, none⟩) k.flat.length (c - q)) ∧ q + k.flat.length ≤ n ∧ RowT w w.heap.size (some ⟨b, off + q * 5, none⟩) k.flat.length k.flat := by
  have hil : i < ks.length := (List.getElem?_eq_some_iff.1 hki).1
  have hka := kid_at (t := t) (es := (X.node t ks).flat) (pos := 0) (r := []) (by simp) hki
  rw [Nat.zero_add] at hka
  have hpart := RowT.part hr hka
  have hqn : 1 + (flats (ks.take i)).length + k.flat.length ≤ n := by
    have h2 := congrArg List.length hka
    rw [List.length_drop, List.length_append, hr.len] at h2
    have := k.flat_pos
    omega
  rcases ho.2 with ⟨e1, e2⟩ | ⟨g, cap, cur, e1, e2, e3, _⟩
  · omega
  · injection e1 with e1 e4 e5
    subst e1
    have hc := ho.cells (g := g) (by simp [Value.ownBlock]) i _ (opCells_at b off c ks 1 i k hki)
    have hgl : g < w1.heap.size := by
      rcases Nat.lt_or_ge g w1.heap.size with hl | hl
      · exact hl
      · rw [Array.getElem?_eq_none hl] at e3; cases e3
    have h8 : (⟨g, 0, none⟩ : Addr).add i = ⟨g, i, none⟩ := by
      unfold Addr.add
      split
      · subst_vars; rfl
      · simp
    rw [h8] at hc
    exact ⟨g, _, rfl, hgl, e2, e4, by omega, hc, hqn, hpart⟩
end Go.Proofs.YtojcabnjodfdmaaGreatDoor

namespace Go.Proofs.YtojcabnjodfdmaaGreatDoor
open Go.RowKit

theorem RowT.head5 {w : World} {B n : Nat} {A : Option Addr} {t : T} {l : List T} (h : RowT w B A n (t :: l)) :
   ∃ b off, A = some ⟨b, off, none⟩ ∧ b < B ∧ w.cell? ⟨b, off, none⟩ = some (.int .i64 t.op) ∧ w.cell? ⟨b, off + 1, none⟩ = some (.int .i64 t.v.k) ∧ w.cell? ⟨b, off + 2, none⟩ = some (.int .i64 t.v.n) ∧ w.cell? ⟨b, off + 3, none⟩ = some (.string t.v.s) ∧ w.cell? ⟨b, off + 4, none⟩ = some (.int .i64 t.c) := by
  obtain ⟨b, off, t', h1, h2, h3, h4, h5, h6, h7, h8⟩ := RowT.at5 h (k := 0) (by have := h.len; simp at this; omega)
  simp at h3
  subst h3
  simp only [Nat.zero_mul, Nat.add_zero] at h4 h5 h6 h7 h8
  exact ⟨b, off, h1, h2, h4, h5, h6, h7, h8⟩
end Go.Proofs.YtojcabnjodfdmaaGreatDoor

namespace Go.Proofs.YtojcabnjodfdmaaGreatDoor
open Go.RowKit

def smallT (t : T) : Bool := decide (t.v.s.size ≤ 100)
def smallV (v : V) : Bool := decide (v.s.size ≤ 100)
def lightB (es : List T) (row : List V) : Bool := (decide (es.length ≤ 80) && decide (row.length ≤ 20)) && (es.all smallT && row.all smallV)
theorem light_len {es : List T} {row : List V} (h : lightB es row = true) : es.length ≤ 80 ∧ row.length ≤ 20 := by
  simp only [lightB, Bool.and_eq_true, decide_eq_true_eq] at h
  exact h.1
set_option maxRecDepth 100000 in
set_option maxHeartbeats 1000000 in
theorem light_c (A R : Option Addr) (n c m d : Nat) (es : List T) (row : List V) (w : World) (hn : n ≤ maxLen) (hm : m ≤ maxLen) (hr : RowT w w.heap.size A n es) (hv : Row w w.heap.size R m row) : Calls Tryz.prog 6 #[.slice A n c, .slice R m d] w fun e w' => e = .returned (.bool (lightB es row)) ∧ w = w' := by
  unfold maxLen at hn hm
  have HN := Lib.hid hr.len
  have HM := Lib.hid hv.len
  by_cases h80 : 80 < n
  · have t1 : (80 : Int) < (n : Int) := by omega
    go_enter Tryz.func6, Tryz.ntmps6
    go_wp2
    go_ret
    exact ⟨ret_bool (by simp [lightB, HN.out]; omega), rfl⟩
  have t1 : ¬ (80 : Int) < (n : Int) := by omega
  by_cases h20 : 20 < m
  · have t2 : (20 : Int) < (m : Int) := by omega
    go_enter Tryz.func6, Tryz.ntmps6
    go_wp2
    go_ret
    exact ⟨ret_bool (by simp [lightB, HM.out]; omega), rfl⟩
  have t2 : ¬ (20 : Int) < (m : Int) := by omega
  go_enter Tryz.func6, Tryz.ntmps6
  go_wp2
  go_loop [5] (fun i => ∃ k : Nat, k ≤ n ∧ i = .int .i64 k ∧ Hid ((es.take k).all smallT = true)) (fun i => n - (intOf i).toNat)
  case atStart => exact ⟨0, Nat.zero_le _, rfl, rfl⟩
  case round =>
    obtain ⟨k, hk, rfl, hH⟩ := hrel
    by_cases hlt : k < n
    · obtain ⟨b, off, t, rfl, hb, ht, c0, c1, c2, c3, c4⟩ := RowT.at5 hr hlt
      have HT := Lib.hid ht
      clear ht
      have hk0 : (0 : Int) ≤ (k : Int) := by omega
      have hk1 : (k : Int) < (n : Int) := by omega
      by_cases hs : 100 < t.v.s.size
      · have ts : (100 : Int) < (t.v.s.size : Int) := by omega
        go_wp2
        go_ret
        have := all_not_at smallT es k t HT.out (by simp [smallT]; omega)
        exact ⟨ret_bool (by simp [lightB, this]), rfl⟩
      · have ts : ¬ (100 : Int) < (t.v.s.size : Int) := by omega
        go_wp2
        go_round
        case rel => exact ⟨k + 1, by omega, by go_num, by show _ = true; rw [take_all_succ _ _ _ _ HT.out, hH.out]; simp [smallT]; omega⟩
        case measure => simp [intOf]; omega
    · have HE := Lib.hid (show es.all smallT = true by
        have h1 := hH.out
        rwa [List.take_of_length_le (by rw [HN.out]; omega)] at h1)
      clear hH
      have hk1 : ¬ (k : Int) < (n : Int) := by omega
      go_wp2
      go_loop [6] (fun i => ∃ k : Nat, k ≤ m ∧ i = .int .i64 k ∧ Hid ((row.take k).all smallV = true)) (fun i => m - (intOf i).toNat)
      case atStart => exact ⟨0, Nat.zero_le _, rfl, rfl⟩
      case round =>
        obtain ⟨j, hj, rfl, hJ⟩ := hrel
        by_cases hlt2 : j < m
        · obtain ⟨b, off, v, rfl, hb, ht, c0, c1, c2⟩ := Row.at3 hv hlt2
          have HT := Lib.hid ht
          clear ht
          have hk0 : (0 : Int) ≤ (j : Int) := by omega
          have hk2 : (j : Int) < (m : Int) := by omega
          by_cases hs : 100 < v.s.size
          · have ts : (100 : Int) < (v.s.size : Int) := by omega
            go_wp2
            go_ret
            have := all_not_at smallV row j v HT.out (by simp [smallV]; omega)
            exact ⟨ret_bool (by simp [lightB, this]), rfl⟩
          · have ts : ¬ (100 : Int) < (v.s.size : Int) := by omega
            go_wp2
            go_round
            case rel => exact ⟨j + 1, by omega, by go_num, by show _ = true; rw [take_all_succ _ _ _ _ HT.out, hJ.out]; simp [smallV]; omega⟩
            case measure => simp [intOf]; omega
        · have hk2 : ¬ (j : Int) < (m : Int) := by omega
          go_wp2
          go_ret
          have h1 := hJ.out
          rw [List.take_of_length_le (by rw [HM.out]; omega)] at h1
          refine ⟨ret_bool ?_, rfl⟩
          unfold lightB
          rw [h1, HE.out, HN.out, HM.out]
          simp
          omega
end Go.Proofs.YtojcabnjodfdmaaGreatDoor

namespace Go.Proofs.YtojcabnjodfdmaaGreatDoor
open Go.RowKit

def KindPost (w : World) (b g : Nat) (k : Int) (e : Ending) (w' : World) : Prop :=
  ∃ v : V, e = .returned (.agg #[.int .i64 v.k, .int .i64 v.n, .string v.s]) ∧ v.ok = true ∧ v.k = k ∧ Tp w' b g ∧ w.grownBy w' (some b)
def isStr32 : Value → Bool | .string s => decide (s.size ≤ 32) | _ => false
theorem strs32_at (cs : Array Value) (h : cs.toList.all isStr32 = true) (r : Nat) (hr : r < cs.size) : ∃ s, cs[r]? = some (.string s) ∧ s.size ≤ 32 := by
  have h1 := List.all_eq_true.1 h cs[r] (by simp)
  have h2 : cs[r]? = some cs[r] := Array.getElem?_eq_getElem hr
  cases hv : cs[r] with
  | string s => rw [hv] at h1; exact ⟨s, by rw [h2, hv], by simpa [isStr32] using h1⟩
  | _ => rw [hv] at h1; cases h1
def isNum32 : Value → Bool | .int .i64 n => decide (-4294967296 ≤ n) && decide (n ≤ 4294967296) | _ => false
theorem nums32_at (cs : Array Value) (h : cs.toList.all isNum32 = true) (r : Nat) (hr : r < cs.size) : ∃ n, cs[r]? = some (.int .i64 n) ∧ (-4294967296 ≤ n ∧ n ≤ 4294967296) := by
  have h1 := List.all_eq_true.1 h cs[r] (by simp)
  have h2 : cs[r]? = some cs[r] := Array.getElem?_eq_getElem hr
  cases hv : cs[r] with
  | int k n =>
    cases k <;> first | (exfalso; rw [hv] at h1; cases h1; done) | (rw [hv] at h1; exact ⟨n, by rw [h2, hv], by simpa [isNum32] using h1⟩)
  | _ => rw [hv] at h1; cases h1
theorem strs32_cell {w : World} {b : Nat} {cs : Array Value} (hc : ∀ i, w.cell? ⟨b, i, none⟩ = cs[i]?) (h : cs.toList.all isStr32 = true) (r : Nat) (hr : r < cs.size) : ∃ s, w.cell? ⟨b, r, none⟩ = some (.string s) ∧ s.size ≤ 32 := by
  obtain ⟨s, hs, h2⟩ := strs32_at cs h r hr
  exact ⟨s, (hc r).trans hs, h2⟩
theorem nums32_cell {w : World} {b : Nat} {cs : Array Value} (hc : ∀ i, w.cell? ⟨b, i, none⟩ = cs[i]?) (h : cs.toList.all isNum32 = true) (r : Nat) (hr : r < cs.size) : ∃ n, w.cell? ⟨b, r, none⟩ = some (.int .i64 n) ∧ (-4294967296 ≤ n ∧ n ≤ 4294967296) := by
  obtain ⟨s, hs, h2⟩ := nums32_at cs h r hr
  exact ⟨s, (hc r).trans hs, h2⟩
theorem text_kind {s : ByteArray} (h : s.size ≤ 32) : (V.mk 2 0 s).cl.k = 2 := by
  rw [V.cl_of (by simp [V.ok, h])]
theorem int_kind {n : Int} (h : -4294967296 ≤ n ∧ n ≤ 4294967296) : (V.mk 1 n ⟨#[]⟩).cl.k = 1 := by
  rw [V.cl_of (by simp [V.ok, h.1, h.2]; rfl)]
set_option maxRecDepth 100000 in
set_option maxHeartbeats 1000000 in
theorem ttextK (b g : Nat) (w : World) (h : Tp w b g) : Calls Tryz.prog 40 #[.pointer (some ⟨b, 0, none⟩)] w (KindPost w b g 2) := by
  have HT := Lib.hid h
  have hlt := h.lt
  have hltg := h.ltg
  go_enter Tryz.func40, Tryz.ntmps40
  go_wp2_with fail
  refine (next_c b g 10 _ (by omega) ((HT.out.alloc _).alloc _)).mono ?_
  rintro e w1 ⟨r, rfl, hr, ht1, hg1, hz1⟩
  have q1 := (hg1.block (w.heap.size + 1) (by simp) (by simp; omega)).trans (heap_two _ _ _)
  have q0 := (hg1.block w.heap.size (by simp; omega) (by simp; omega)).trans (heap_one _ _ _)
  obtain ⟨c1, f1⟩ := blk_rules q1
  obtain ⟨c0, f0⟩ := blk_rules q0
  obtain ⟨s, cs1, hs32⟩ := strs32_cell c1 rfl r (show r < 10 by omega)
  have HK := Lib.hid (text_kind hs32)
  have c00 := c0 0
  have c01 := c0 1
  have c02 := c0 2
  have f00 := f0 0
  have f01 := f0 1
  have f02 := f0 2
  have hz : w.heap.size < w1.heap.size := by rw [hz1]; simp; omega
  have hr0 : (0 : Int) ≤ (r : Int) := by omega
  have hr10 : (r : Int) < 10 := by omega
  clear c1 f1 c0 f0 q0 q1 hr hz1 hs32
  go_wp2_with (go_at_call 58; refine (rtext s _).mono ?_; rintro e w2 ⟨rfl, hb2⟩; obtain ⟨hc2, hf2⟩ := bcell hb2; have hz2 := (hb2).size; (try simp at hz2))
  refine bodyPost_ret (by simp [results, Tryz.results40, go_sem, hc2, hz, c00, c01, c02]; rfl) rfl ?_
  refine ⟨_, rfl, V.cl_ok _, HK.out, ?_, ?_⟩
  · (repeat (first | (with_reducible assumption) | (with_reducible refine Tp.drew ?_) | (with_reducible refine Tp.drewN ?_ _) | (with_reducible refine Tp.alloc ?_ _) | ((with_reducible refine Tp.setFar ?_ ?_ ?_ _); rotate_left; (focus (first | (simp; done) | (simp; omega) | omega)); (focus (first | (simp; done) | (simp; omega) | omega))) | ((with_reducible apply Tp.step); (focus (with_reducible assumption)))))
  · (repeat (first | (with_reducible exact grown_refl _ _) | (with_reducible assumption) | (with_reducible refine only_drew ?_) | (with_reducible refine only_drewN ?_ _) | ((with_reducible refine only_setCell ?_ ?_ _); rotate_left; (focus (first | (simp; done) | (simp; omega) | omega | (right; simp; done) | (right; simp; omega) | (right; omega)))) | (with_reducible refine only_alloc ?_ _) | ((with_reducible apply only_step); (focus (with_reducible assumption))) | ((with_reducible apply only_trans); (focus (with_reducible assumption)))))
set_option maxRecDepth 100000 in
set_option maxHeartbeats 1000000 in
theorem tintK (b g : Nat) (w : World) (h : Tp w b g) : Calls Tryz.prog 41 #[.pointer (some ⟨b, 0, none⟩)] w (KindPost w b g 1) := by
  have HT := Lib.hid h
  have hlt := h.lt
  have hltg := h.ltg
  go_enter Tryz.func41, Tryz.ntmps41
  go_wp2_with fail
  refine (next_c b g 12 _ (by omega) ((HT.out.alloc _).alloc _)).mono ?_
  rintro e w1 ⟨r, rfl, hr, ht1, hg1, hz1⟩
  have q1 := (hg1.block (w.heap.size + 1) (by simp) (by simp; omega)).trans (heap_two _ _ _)
  have q0 := (hg1.block w.heap.size (by simp; omega) (by simp; omega)).trans (heap_one _ _ _)
  obtain ⟨c1, f1⟩ := blk_rules q1
  obtain ⟨c0, f0⟩ := blk_rules q0
  obtain ⟨s, cs1, hs32⟩ := nums32_cell c1 rfl r (show r < 12 by omega)
  have HK := Lib.hid (int_kind hs32)
  have c00 := c0 0
  have c01 := c0 1
  have c02 := c0 2
  have f00 := f0 0
  have f01 := f0 1
  have f02 := f0 2
  have hz : w.heap.size < w1.heap.size := by rw [hz1]; simp; omega
  have hr0 : (0 : Int) ≤ (r : Int) := by omega
  have hr12 : (r : Int) < 12 := by omega
  clear c1 f1 c0 f0 q0 q1 hr hz1 hs32
  go_wp2_with (go_at_call 34; refine (rint s _).mono ?_; rintro e w2 ⟨rfl, hb2⟩; obtain ⟨hc2, hf2⟩ := bcell hb2; have hz2 := (hb2).size; (try simp at hz2))
  refine bodyPost_ret (by simp [results, Tryz.results41, go_sem, hc2, hz, c00, c01, c02]; rfl) rfl ?_
  refine ⟨_, rfl, V.cl_ok _, HK.out, ?_, ?_⟩
  · (repeat (first | (with_reducible assumption) | (with_reducible refine Tp.drew ?_) | (with_reducible refine Tp.drewN ?_ _) | (with_reducible refine Tp.alloc ?_ _) | ((with_reducible refine Tp.setFar ?_ ?_ ?_ _); rotate_left; (focus (first | (simp; done) | (simp; omega) | omega)); (focus (first | (simp; done) | (simp; omega) | omega))) | ((with_reducible apply Tp.step); (focus (with_reducible assumption)))))
  · (repeat (first | (with_reducible exact grown_refl _ _) | (with_reducible assumption) | (with_reducible refine only_drew ?_) | (with_reducible refine only_drewN ?_ _) | ((with_reducible refine only_setCell ?_ ?_ _); rotate_left; (focus (first | (simp; done) | (simp; omega) | omega | (right; simp; done) | (right; simp; omega) | (right; omega)))) | (with_reducible refine only_alloc ?_ _) | ((with_reducible apply only_step); (focus (with_reducible assumption))) | ((with_reducible apply only_trans); (focus (with_reducible assumption)))))

/-- A term that stands alone. -/
def LeafPost (w : World) (b g n : Nat) (e : Ending) (w' : World) : Prop :=
  ∃ (B : Nat) (t : T), e = .returned (.slice (some ⟨B, 0, none⟩) 1 1) ∧ w'.ownsRow w.heap.size 48 5 (.slice (some ⟨B, 0, none⟩) 1 1) 1 t.cells ∧ t.ok = true ∧ (t.op = 1 ∨ t.op = 2 ∧ t.c < max n 1) ∧ Tp w' b g ∧ w.grownBy w' (some b)
theorem ok_col (c : Int) (h : 0 ≤ c) : (T.mk 2 V.null c).ok = true := by
  have h1 : V.null.beq V.null = true := rfl
  have h2 : arity 2 = 0 := rfl
  simp [T.ok, h1, h, h2]
theorem ok_cst (v : V) (h : v.ok = true) (hk : v.k ≠ 0) : (T.mk 1 v 0).ok = true := by
  have h2 : arity 1 = 0 := rfl
  simp [T.ok, h, hk, h2]
set_option maxRecDepth 100000 in
set_option maxHeartbeats 1000000 in
theorem tleaf (b g n : Nat) (w : World) (hn : n ≤ 1000) (h : Tp w b g) : Calls Tryz.prog 21 #[.pointer (some ⟨b, 0, none⟩), .int .i64 (n : Int)] w (LeafPost w b g n) := by
  have hlt := h.lt
  go_enter Tryz.func21, Tryz.ntmps21
  go_wp2_with fail
  refine (next_c b g 3 _ (by omega) h).mono ?_
  rintro e w1 ⟨r, rfl, hr, ht1, hg1, hz1⟩
  have hz1' := hg1.size
  clear hz1
  by_cases hr0 : 0 < r
  · have t0 : (0 : Int) < (r : Int) := by omega
    go_wp2_with fail
    refine (next_c b g n _ (by omega) ht1).mono ?_
    rintro e w2 ⟨c, rfl, hc, ht2, hg2, hz2⟩
    have hz2' := hg2.size
    clear hz2
    go_wp2_with fail
    go_ret
    refine ⟨_, ⟨2, V.null, c⟩, rfl, own_base (own_new w2 _ 48 5 1 (by decide) rfl) (by omega), ok_col _ (by omega), .inr ⟨rfl, ?_⟩, ?_, ?_⟩
    · show (c : Int) < _
      have : ((max n 1 : Nat) : Int) = max (n : Int) 1 := by omega
      omega
    · (repeat (first | (with_reducible assumption) | (with_reducible refine Tp.drew ?_) | (with_reducible refine Tp.drewN ?_ _) | (with_reducible refine Tp.alloc ?_ _) | ((with_reducible refine Tp.setFar ?_ ?_ ?_ _); rotate_left; (focus (first | (simp; done) | (simp; omega) | omega)); (focus (first | (simp; done) | (simp; omega) | omega))) | ((with_reducible apply Tp.step); (focus (with_reducible assumption)))))
    · (repeat (first | (with_reducible exact grown_refl _ _) | (with_reducible assumption) | (with_reducible refine only_drew ?_) | (with_reducible refine only_drewN ?_ _) | ((with_reducible refine only_setCell ?_ ?_ _); rotate_left; (focus (first | (simp; done) | (simp; omega) | omega | (right; simp; done) | (right; simp; omega) | (right; omega)))) | (with_reducible refine only_alloc ?_ _) | ((with_reducible apply only_step); (focus (with_reducible assumption))) | ((with_reducible apply only_trans); (focus (with_reducible assumption)))))
  · have t0 : ¬ (0 : Int) < (r : Int) := by omega
    go_wp2_with fail
    refine (next_c b g 2 _ (by omega) ht1).mono ?_
    rintro e w2 ⟨c, rfl, hc, ht2, hg2, hz2⟩
    have hz2' := hg2.size
    clear hz2
    by_cases hc0 : c = 0
    · have tc : ((c : Int) == 0) = true := by simpa using hc0
      clear hc0
      go_wp2_with (go_at_call 40; refine (ttextK b g _ ht2).mono ?_; rintro e w3 ⟨v, rfl, hv, hk, ht3, hg3⟩; have HV := Lib.hid hv; have HK := Lib.hid hk; clear hv hk; have hz3 := hg3.size)
      go_ret
      refine ⟨_, ⟨1, v, 0⟩, rfl, own_base (own_new w3 _ 48 5 1 (by decide) rfl) (by omega), ok_cst _ HV.out (by rw [HK.out]; decide), .inl rfl, ?_, ?_⟩
      · (repeat (first | (with_reducible assumption) | (with_reducible refine Tp.drew ?_) | (with_reducible refine Tp.drewN ?_ _) | (with_reducible refine Tp.alloc ?_ _) | ((with_reducible refine Tp.setFar ?_ ?_ ?_ _); rotate_left; (focus (first | (simp; done) | (simp; omega) | omega)); (focus (first | (simp; done) | (simp; omega) | omega))) | ((with_reducible apply Tp.step); (focus (with_reducible assumption)))))
      · (repeat (first | (with_reducible exact grown_refl _ _) | (with_reducible assumption) | (with_reducible refine only_drew ?_) | (with_reducible refine only_drewN ?_ _) | ((with_reducible refine only_setCell ?_ ?_ _); rotate_left; (focus (first | (simp; done) | (simp; omega) | omega | (right; simp; done) | (right; simp; omega) | (right; omega)))) | (with_reducible refine only_alloc ?_ _) | ((with_reducible apply only_step); (focus (with_reducible assumption))) | ((with_reducible apply only_trans); (focus (with_reducible assumption)))))
    · have tc : ((c : Int) == 0) = false := by simpa using hc0
      clear hc0
      go_wp2_with (go_at_call 41; refine (tintK b g _ ht2).mono ?_; rintro e w3 ⟨v, rfl, hv, hk, ht3, hg3⟩; have HV := Lib.hid hv; have HK := Lib.hid hk; clear hv hk; have hz3 := hg3.size)
      go_ret
      refine ⟨_, ⟨1, v, 0⟩, rfl, own_base (own_new w3 _ 48 5 1 (by decide) rfl) (by omega), ok_cst _ HV.out (by rw [HK.out]; decide), .inl rfl, ?_, ?_⟩
      · (repeat (first | (with_reducible assumption) | (with_reducible refine Tp.drew ?_) | (with_reducible refine Tp.drewN ?_ _) | (with_reducible refine Tp.alloc ?_ _) | ((with_reducible refine Tp.setFar ?_ ?_ ?_ _); rotate_left; (focus (first | (simp; done) | (simp; omega) | omega)); (focus (first | (simp; done) | (simp; omega) | omega))) | ((with_reducible apply Tp.step); (focus (with_reducible assumption)))))
      · (repeat (first | (with_reducible exact grown_refl _ _) | (with_reducible assumption) | (with_reducible refine only_drew ?_) | (with_reducible refine only_drewN ?_ _) | ((with_reducible refine only_setCell ?_ ?_ _); rotate_left; (focus (first | (simp; done) | (simp; omega) | omega | (right; simp; done) | (right; simp; omega) | (right; omega)))) | (with_reducible refine only_alloc ?_ _) | ((with_reducible apply only_step); (focus (with_reducible assumption))) | ((with_reducible apply only_trans); (focus (with_reducible assumption)))))
end Go.Proofs.YtojcabnjodfdmaaGreatDoor

namespace Go.Proofs.YtojcabnjodfdmaaGreatDoor
open Go.RowKit

theorem own_none {w : World} {base : Nat} {e : TypeId} {size n c : Nat} {A : Option Addr} {xs : List Value} (h : w.ownsRow base e size (.slice A n c) n xs) : A = none → c = 0 := by
  rintro rfl
  rcases h.2 with ⟨h1, rfl⟩ | ⟨g, cap, cur, h1, _⟩
  · injection h1
  · injection h1 with h1 _ _; cases h1
theorem tcells_one (l : List T) : ∀ u ∈ l.flatMap T.cells, u.oneCell' = true := by
  intro u hu
  obtain ⟨t, _, ht⟩ := List.mem_flatMap.1 hu
  simp only [T.cells, List.mem_cons, List.not_mem_nil, or_false] at ht
  rcases ht with rfl | rfl | rfl | rfl | rfl <;> rfl
theorem tcells_len (l : List T) : (l.flatMap T.cells).length = l.length * 5 := flatMap_len 5 (fun _ => rfl) l
/-- A new row of the terms of one expression over n columns. -/
def ExPost (w : World) (b g d n : Nat) (e : Ending) (w' : World) : Prop :=
  ∃ (A : Option Addr) (c : Nat) (x : X), e = .returned (.slice A x.flat.length c) ∧ w'.ownsRow w.heap.size 48 5 (.slice A x.flat.length c) x.flat.length (x.flat.flatMap T.cells) ∧ x.wf = true ∧ x.depth ≤ d ∧ colsIn n x.flat ∧ Tp w' b g ∧ w.grownBy w' (some b)
theorem leaf_X (t : T) : (X.node t []).flat = [t] := by simp [X.flat, flats]
theorem leaf_ex {w : World} {b g d n : Nat} {e : Ending} {w' : World} (hn : 1 ≤ n) (hd : 1 ≤ d) (h : LeafPost w b g n e w') : ExPost w b g d n e w' := by
  obtain ⟨B, t, h1, h2, h3, h4, h5, h6⟩ := h
  have ha : ar t.op = 0 := by
    rcases h4 with h4 | ⟨h4, _⟩ <;> rw [h4] <;> rfl
  refine ⟨some ⟨B, 0, none⟩, 1, .node t [], by rw [leaf_X]; exact h1, by rw [leaf_X]; simpa using h2, ?_, by simp [X.depth, deepest]; omega, ?_, h5, h6⟩
  · simp [X.wf, wfs, h3, ha]
  · rw [leaf_X]
    intro u hu hu2
    simp at hu
    subst hu
    rcases h4 with h4 | ⟨_, h4⟩
    · omega
    · omega
theorem colsIn_append {n : Nat} {a b : List T} (h1 : colsIn n a) (h2 : colsIn n b) : colsIn n (a ++ b) := by
  intro t ht
  rcases List.mem_append.1 ht with h | h
  · exact h1 t h
  · exact h2 t h
theorem ok_op {op : Int} (h3 : 3 ≤ op) (h18 : op ≤ 18) : (T.mk op V.null 0).ok = true := by
  have h1 : V.null.beq V.null = true := rfl
  have ha : 0 ≤ arity op := by
    unfold arity
    split
    · omega
    · split
      · omega
      · split
        · omega
        · split <;> omega
  simp [T.ok, h1, ha]
  omega
theorem ExPost.from {w w1 : World} {b g d n : Nat} {e : Ending} {w' : World} (hg : w.grownBy w1 (some b)) (h : ExPost w1 b g d n e w') : ExPost w b g d n e w' := by
  obtain ⟨A, c, x, h1, h2, h3, h4, h5, h6, h7⟩ := h
  exact ⟨A, c, x, h1, own_base h2 hg.size, h3, h4, h5, h6, grown_trans hg h7⟩
/-- An append onto a row of the call's own, beside a tape. -/
theorem grown_own {w wr w1 : World} {b : Nat} {e : TypeId} {size n : Nat} {v : Value} {xs : List Value} (hg : w.grownBy wr (some b)) (own : wr.ownsRow w.heap.size e size v n xs) (h1 : wr.grownBy w1 v.ownBlock) : w.grownBy w1 (some b) :=
  ⟨h1.os.trans hg.os, h1.tape.trans hg.tape, h1.output.trans hg.output, Nat.le_trans hg.size h1.size, fun i hi hib => (h1.block i (Nat.lt_of_lt_of_le hi hg.size) (fun e => by have := (own.lt i e.symm).1; omega)).trans (hg.block i hi hib)⟩
theorem Tp.own {wr w1 : World} {b g base : Nat} {e : TypeId} {size n : Nat} {v : Value} {xs : List Value} (ht : Tp wr b g) (own : wr.ownsRow base e size v n xs) (h1 : wr.grownBy w1 v.ownBlock) (hb : b < base) (hg : g < base) : Tp w1 b g :=
  ht.grown h1 (fun e => by have := (own.lt _ e).1; omega) (fun e => by have := (own.lt _ e).1; omega)
/-- A row of the call's own, beside a tape that was taken from. -/
theorem own_tape {wr w1 : World} {b base : Nat} {e : TypeId} {size n : Nat} {v : Value} {xs : List Value} (own : wr.ownsRow base e size v n xs) (h1 : wr.grownBy w1 (some b)) (hb : b < base) : w1.ownsRow base e size v n xs :=
  own.kept h1 (.inr (fun e => by have := (own.lt _ e).1; omega))
/-- After so many operands of Expr. -/
def ExRel (w : World) (b g d n : Nat) (op : Int) (v8 v9 : Value) (wr : World) : Prop :=
  ∃ (ks : List X) (j : Nat), v9 = .int .i64 (j : Int) ∧ ks.length + j = ar op ∧ wr.ownsRow w.heap.size 48 5 v8 (1 + (flats ks).length) (((T.mk op V.null 0) :: flats ks).flatMap T.cells) ∧ wfs ks = true ∧ deepest ks ≤ d ∧ colsIn n (flats ks) ∧ Tp wr b g ∧ w.grownBy wr (some b)
set_option maxRecDepth 100000 in
set_option maxHeartbeats 1000000 in
theorem texpr (b g n : Nat) (hn : 1 ≤ n) (hn2 : n ≤ 1000) : ∀ (d : Nat) (w : World), 1 ≤ d → d ≤ 4 → Tp w b g → Calls Tryz.prog 7 #[.pointer (some ⟨b, 0, none⟩), .int .i64 (d : Int), .int .i64 (n : Int)] w (ExPost w b g d n) := by
  intro d
  induction d with
  | zero => intro w hd; omega
  | succ d ih =>
    intro w _ hd4 h
    have hlt := h.lt
    by_cases hd0 : d = 0
    · subst hd0
      go_enter Tryz.func7, Tryz.ntmps7
      go_wp2_with (go_at_call 21; refine (tleaf b g n _ hn2 h).mono ?_; intro e w1 hp; obtain ⟨B, t, rfl, hp⟩ := hp)
      go_ret
      exact leaf_ex hn (by omega) ⟨B, t, rfl, hp⟩
    have t1 : ¬ (d : Int) + 1 ≤ 1 := by omega
    have t2 : ¬ (d : Int) ≤ 0 := by omega
    go_enter Tryz.func7, Tryz.ntmps7
    go_wp2_with fail
    refine (next_c b g 4 _ (by omega) h).mono ?_
    rintro e w1 ⟨r, rfl, hr, ht1, hg1, hz1⟩
    have hz1' := hg1.size
    clear hz1
    by_cases hr0 : r = 0
    · have tr : ((r : Int) == 0) = true := by simpa using hr0
      clear hr0
      go_wp2_with (go_at_call 21; refine (tleaf b g n _ hn2 ht1).mono ?_; intro e w2 hp; obtain ⟨B, t, rfl, hp⟩ := hp)
      go_ret
      exact (leaf_ex (d := d + 1) hn (by omega) ⟨B, t, rfl, hp⟩).from hg1
    · have tr : ((r : Int) == 0) = false := by simpa using hr0
      clear hr0
      go_wp2_with fail
      refine (next_c b g 16 _ (by omega) ht1).mono ?_
      rintro e w2 ⟨o, rfl, ho, ht2, hg2, hz2⟩
      have hz2' := hg2.size
      clear hz2
      have how : IntKind.i64.wrap (3 + (o : Int)) = 3 + (o : Int) := IntWalk.i64_in _ (by omega)
      have hltg := h.ltg
      have h12 := grown_trans hg1 hg2
      have har := arity_range (3 + (o : Int))
      have hak : 0 ≤ arity (3 + (o : Int)) := by
        have := ok_op (op := 3 + (o : Int)) (by omega) (by omega)
        unfold T.ok at this
        rw [Bool.and_eq_true, decide_eq_true_eq] at this
        exact this.1
      have HA := Lib.hid (show arity (3 + (o : Int)) = (ar (3 + (o : Int)) : Int) by unfold ar; omega)
      go_wp2_with (go_at_call 22; refine (rarity _ _).mono ?_; rintro e w3 ⟨rfl, rfl⟩; rw [HA.out])
      have ow := own_base (own_new w2 (T.mk (3 + (o : Int)) V.null 0).cells.toArray 48 5 1 (by decide) rfl) (show w.heap.size ≤ w2.heap.size by omega)
      have HN := Lib.hid (ar_le (3 + (o : Int)))
      have HOK := Lib.hid (ok_op (op := 3 + (o : Int)) (by omega) (by omega))
      go_loopw [8, 9] (fun v8 v9 wr => ExRel w b g d n (3 + (o : Int)) v8 v9 wr) (fun _ v9 _ => (intOf v9).toNat)
      case atStart => exact ⟨[], _, rfl, by simp, by rw [show flats [] = [] by simp [flats]]; exact ow, by simp [wfs], by simp [deepest], by intro u hu; simp [flats] at hu, by (repeat (first | (with_reducible assumption) | (with_reducible refine Tp.drew ?_) | (with_reducible refine Tp.drewN ?_ _) | (with_reducible refine Tp.alloc ?_ _) | ((with_reducible refine Tp.setFar ?_ ?_ ?_ _); rotate_left; (focus (first | (simp; done) | (simp; omega) | omega)); (focus (first | (simp; done) | (simp; omega) | omega))) | ((with_reducible apply Tp.step); (focus (with_reducible assumption))))), by (repeat (first | (with_reducible exact grown_refl _ _) | (with_reducible assumption) | (with_reducible refine only_drew ?_) | (with_reducible refine only_drewN ?_ _) | ((with_reducible refine only_setCell ?_ ?_ _); rotate_left; (focus (first | (simp; done) | (simp; omega) | omega | (right; simp; done) | (right; simp; omega) | (right; omega)))) | (with_reducible refine only_alloc ?_ _) | ((with_reducible apply only_step); (focus (with_reducible assumption))) | ((with_reducible apply only_trans); (focus (with_reducible assumption)))))⟩
      case round =>
        obtain ⟨ks, j, rfl, hj, hown, hws, hdk, hcl, htr, hgr⟩ := hrel
        have HJ := Lib.hid hj
        have HW := Lib.hid hws
        have HC := Lib.hid hcl
        clear hj hws hcl
        have hzz := hgr.size
        have hsz : (flats ks).length ≤ 1000 := by
          have h1 := sizes_le ks HW.out
          have h2 := HN.out
          have h3 := HJ.out
          have p : 3 ^ deepest ks ≤ 3 ^ 4 := Nat.pow_le_pow_right (by omega) (by omega)
          have h4 := Nat.mul_le_mul (show ks.length ≤ 3 by omega) p
          omega
        by_cases hk0 : 0 < j
        · have hk1 : (0 : Int) < (j : Int) := by omega
          have hdw : IntKind.i64.wrap ((d : Int) + 1 - 1) = (d : Int) := by rw [show (d : Int) + 1 - 1 = d by omega]; exact IntWalk.i64_in _ (by omega)
          have hjw : IntKind.i64.wrap ((j : Int) - 1) = (j : Int) - 1 := IntWalk.i64_in _ (by have := HJ.out; have := HN.out; omega)
          have ihe := ih wr (by omega) (by omega) htr
          go_wp2_with (first
            | (go_at_call 7; refine ihe.mono ?_; rintro e w4 ⟨A4, c4, x4, rfl, o4, f4, d4, cl4, ht4, hg4⟩; have hz4 := hg4.size; have ow4 := own_tape hown hg4 hlt; have F4 := Lib.hid f4; have CL4 := Lib.hid cl4; have S4 := X.size4 f4 (by omega); clear f4 cl4)
            | (at_builtin; refine wpList_appAny (v := u8) rfl _ _ stT rfl rfl ow4 rfl (news := x4.flat.flatMap T.cells) (tcells_len _) (Rd.of_own o4) (own_none o4) (tcells_one _) (by omega) (by omega) ?_; intro v5 w5 o5 g5 _; have hz5 := g5.size))
          have ht5 := Tp.own ht4 ow4 g5 hlt hltg
          have hg5 := grown_own (grown_trans hgr hg4) ow4 g5
          go_roundw
          case rel =>
            refine ⟨ks ++ [x4], j - 1, by go_num, by have := HJ.out; simp; omega, ?_, ?_, ?_, ?_, ht5, hg5⟩
            · rw [flats_snoc, List.length_append, ← Nat.add_assoc, ← List.cons_append, List.flatMap_append]
              exact o5
            · rw [wfs_snoc, HW.out, F4.out]; rfl
            · rw [deepest_snoc]; omega
            · rw [flats_snoc]; exact colsIn_append HC.out CL4.out
          case measure => simp [intOf]; omega
        · obtain rfl : j = 0 := by omega
          obtain ⟨A8, c8, rfl, _, _⟩ := own_slice hown
          go_wp2_with fail
          go_ret
          refine ⟨A8, c8, .node ⟨3 + (o : Int), V.null, 0⟩ ks, ?_, ?_, ?_, ?_, ?_, htr, hgr⟩
          · rw [X.flat_node, List.length_cons, Nat.add_comm]; rfl
          · rw [X.flat_node, List.length_cons, Nat.add_comm]; exact hown
          · have := HJ.out
            simp [X.wf, HOK.out, HW.out]
            omega
          · simp only [X.depth]; omega
          · rw [X.flat_node]
            intro u hu hu2
            rcases List.mem_cons.1 hu with rfl | hu
            · exfalso; simp only at hu2; omega
            · exact HC.out u hu hu2
end Go.Proofs.YtojcabnjodfdmaaGreatDoor
