/- Contracts of the program's product, quotient and ofNumbers: numbers from -2^32 to 2^32. Contract of the program's validTerm. No condition. How an expression is measured from the left to the right, in plain Lean: the program's measure, the reference's end. No program in sight, no condition. -/
import Derived.Test.YtpnfbehbheddeaaGreatDoorBn12
import Derived.Test.YtpnfbehbheddeaaGreatDoorBn02
import Derived.Test.YtpnfbehbheddeaaGreatDoorBn01
namespace Go.Proofs.YtpnfbehbheddeaaGreatDoor
set_option maxRecDepth 100000
set_option maxHeartbeats 8000000
set_option linter.unusedVariables false
set_option linter.unusedSimpArgs false
open Go.RowKit
theorem tdiv_abs (a b : Int) : -a.natAbs ≤ a.tdiv b ∧ a.tdiv b ≤ a.natAbs := by
  have h : (a.tdiv b).natAbs ≤ a.natAbs := by rw [Int.natAbs_tdiv]; exact Nat.div_le_self _ _
  omega
theorem tmod_abs (a b : Int) : -a.natAbs ≤ a.tmod b ∧ a.tmod b ≤ a.natAbs := by
  have h : (a.tmod b).natAbs ≤ a.natAbs := by rw [Int.natAbs_tmod]; exact Nat.mod_le _ _
  omega
theorem prod_small {a b m : Int} (hm : 0 ≤ m) (ha : a ≠ 0) (h : ¬ max b (-b) > m.tdiv (max a (-a))) : -m ≤ a * b ∧ a * b ≤ m := by
  have h1 : 0 < max a (-a) := by omega
  have h2 : max b (-b) * max a (-a) ≤ m := by
    have h3 : max b (-b) ≤ m / max a (-a) := by rw [Int.tdiv_eq_ediv_of_nonneg hm] at h; omega
    have h4 := Int.mul_le_mul_of_nonneg_right h3 (show 0 ≤ max a (-a) by omega)
    have h5 := Int.ediv_mul_le m (show max a (-a) ≠ 0 by omega)
    omega
  have e : (a * b).natAbs = (max b (-b) * max a (-a)).natAbs := by
    rw [Int.natAbs_mul, Int.natAbs_mul, Nat.mul_comm]
    congr 1 <;> omega
  have h6 : 0 ≤ max b (-b) * max a (-a) := Int.mul_nonneg (by omega) (by omega)
  omega
theorem product_c (a b : Int) (w : World) (ha : -4294967296 ≤ a ∧ a ≤ 4294967296) (hb : -4294967296 ≤ b ∧ b ≤ 4294967296) : Calls Tryz.prog 104 #[.int .i64 a, .int .i64 b] w fun e w' => e = .returned (.agg #[.int .i64 (prodV a b).k, .int .i64 (prodV a b).n, .string (prodV a b).s]) ∧ Below w.heap.size w w' := by
  have HE := Lib.hid (show prodV a b = if a ≠ 0 ∧ max b (-b) > (4294967296 : Int).tdiv (max a (-a)) then V.null else numV (a * b) from rfl)
  have HPS := Lib.hid (fun h => prod_small (a := a) (b := b) (m := 4294967296) (by omega) h)
  generalize prodV a b = r at HE
  have hna : IntKind.i64.wrap (-a) = -a := IntWalk.i64_in _ (by omega)
  have hnb : IntKind.i64.wrap (-b) = -b := IntWalk.i64_in _ (by omega)
  by_cases h0 : a = 0
  · have t0 : (a != 0) = false := by simpa using h0
    rw [if_neg (fun h => h.1 h0)] at HE
    have hz : a * b = 0 := by rw [h0, Int.zero_mul]
    have hab : IntKind.i64.wrap (a * b) = a * b := by rw [hz]; rfl
    clear h0 hz
    go_enter Tryz.func104, Tryz.ntmps104
    go_wp2_with (go_at_call 102; refine (number_c _ _).mono ?_; rintro e w1 ⟨rfl, hb1⟩; obtain ⟨hc1, hf1⟩ := bcell hb1; have hz1 := (hb1).size; (try simp at hz1); have hl10 : w.heap.size < w1.heap.size := (by omega))
    refine bodyPost_ret (by simp [results, Tryz.results104, go_sem, *]; rfl) rfl ?_
    rw [HE.out]
    exact ⟨rfl, by (exact belQ)⟩
  have t0 : (a != 0) = true := by simpa using h0
  have hqd : (4294967296 : Int).tdiv (max a (-a)) = 4294967296 / max a (-a) := Int.tdiv_eq_ediv_of_nonneg (by omega)
  have hqb := tdiv_abs 4294967296 (max a (-a))
  obtain ⟨q, hq⟩ : ∃ q, (4294967296 : Int).tdiv (max a (-a)) = q := ⟨_, rfl⟩
  rw [hq] at hqb HE HPS hqd
  have hqw : IntKind.i64.wrap q = q := IntWalk.i64_in _ (by omega)
  clear hq
  by_cases ha0 : 0 ≤ a
  · have ma : max a (-a) = a := by omega
    rw [ma] at hqd
    have ha1 : -a ≤ a := by omega
    have hdv : 4294967296 / a = q := hqd.symm
    have hz : (a == 0) = false := by simpa using h0
    clear hqd
    by_cases hb0 : 0 ≤ b
    · have mb : max b (-b) = b := by omega
      rw [mb] at HE HPS
      have hb1 : -b ≤ b := by omega
      by_cases hc : q < b
      · rw [if_pos ⟨h0, hc⟩] at HE
        go_enter Tryz.func104, Tryz.ntmps104
        go_wp2_with fail
        refine bodyPost_ret (by simp [results, Tryz.results104, go_sem, *]; rfl) rfl ?_
        rw [HE.out]
        exact ⟨rfl, by (exact belQ)⟩
      · rw [if_neg (fun h => hc h.2)] at HE
        have hps := HPS.out h0 hc
        have hab : IntKind.i64.wrap (a * b) = a * b := IntWalk.i64_in _ (by omega)
        clear hps
        go_enter Tryz.func104, Tryz.ntmps104
        go_wp2_with (go_at_call 102; refine (number_c _ _).mono ?_; rintro e w1 ⟨rfl, hb1⟩; obtain ⟨hc1, hf1⟩ := bcell hb1; have hz1 := (hb1).size; (try simp at hz1); have hl10 : w.heap.size < w1.heap.size := (by omega))
        refine bodyPost_ret (by simp [results, Tryz.results104, go_sem, *]; rfl) rfl ?_
        rw [HE.out]
        exact ⟨rfl, by (exact belQ)⟩
    · have mb : max b (-b) = -b := by omega
      rw [mb] at HE HPS
      have hb1 : b < -b := by omega
      by_cases hc : q < -b
      · rw [if_pos ⟨h0, hc⟩] at HE
        go_enter Tryz.func104, Tryz.ntmps104
        go_wp2_with fail
        refine bodyPost_ret (by simp [results, Tryz.results104, go_sem, *]; rfl) rfl ?_
        rw [HE.out]
        exact ⟨rfl, by (exact belQ)⟩
      · rw [if_neg (fun h => hc h.2)] at HE
        have hps := HPS.out h0 hc
        have hab : IntKind.i64.wrap (a * b) = a * b := IntWalk.i64_in _ (by omega)
        clear hps
        go_enter Tryz.func104, Tryz.ntmps104
        go_wp2_with (go_at_call 102; refine (number_c _ _).mono ?_; rintro e w1 ⟨rfl, hb1⟩; obtain ⟨hc1, hf1⟩ := bcell hb1; have hz1 := (hb1).size; (try simp at hz1); have hl10 : w.heap.size < w1.heap.size := (by omega))
        refine bodyPost_ret (by simp [results, Tryz.results104, go_sem, *]; rfl) rfl ?_
        rw [HE.out]
        exact ⟨rfl, by (exact belQ)⟩
  · have ma : max a (-a) = -a := by omega
    rw [ma] at hqd
    have ha1 : a < -a := by omega
    have hdv : -Int.tdiv 4294967296 a = q := by rw [Int.tdiv_eq_ediv_of_nonneg (by omega), hqd, Int.ediv_neg]
    have hqx : wrap64 q = q := IntWalk.wrap64_in _ ⟨by omega, by omega⟩
    have hz : (-a == 0) = false := by simp; omega
    clear hqd
    by_cases hb0 : 0 ≤ b
    · have mb : max b (-b) = b := by omega
      rw [mb] at HE HPS
      have hb1 : -b ≤ b := by omega
      by_cases hc : q < b
      · rw [if_pos ⟨h0, hc⟩] at HE
        go_enter Tryz.func104, Tryz.ntmps104
        go_wp2_with fail
        refine bodyPost_ret (by simp [results, Tryz.results104, go_sem, *]; rfl) rfl ?_
        rw [HE.out]
        exact ⟨rfl, by (exact belQ)⟩
      · rw [if_neg (fun h => hc h.2)] at HE
        have hps := HPS.out h0 hc
        have hab : IntKind.i64.wrap (a * b) = a * b := IntWalk.i64_in _ (by omega)
        clear hps
        go_enter Tryz.func104, Tryz.ntmps104
        go_wp2_with (go_at_call 102; refine (number_c _ _).mono ?_; rintro e w1 ⟨rfl, hb1⟩; obtain ⟨hc1, hf1⟩ := bcell hb1; have hz1 := (hb1).size; (try simp at hz1); have hl10 : w.heap.size < w1.heap.size := (by omega))
        refine bodyPost_ret (by simp [results, Tryz.results104, go_sem, *]; rfl) rfl ?_
        rw [HE.out]
        exact ⟨rfl, by (exact belQ)⟩
    · have mb : max b (-b) = -b := by omega
      rw [mb] at HE HPS
      have hb1 : b < -b := by omega
      by_cases hc : q < -b
      · rw [if_pos ⟨h0, hc⟩] at HE
        go_enter Tryz.func104, Tryz.ntmps104
        go_wp2_with fail
        refine bodyPost_ret (by simp [results, Tryz.results104, go_sem, *]; rfl) rfl ?_
        rw [HE.out]
        exact ⟨rfl, by (exact belQ)⟩
      · rw [if_neg (fun h => hc h.2)] at HE
        have hps := HPS.out h0 hc
        have hab : IntKind.i64.wrap (a * b) = a * b := IntWalk.i64_in _ (by omega)
        clear hps
        go_enter Tryz.func104, Tryz.ntmps104
        go_wp2_with (go_at_call 102; refine (number_c _ _).mono ?_; rintro e w1 ⟨rfl, hb1⟩; obtain ⟨hc1, hf1⟩ := bcell hb1; have hz1 := (hb1).size; (try simp at hz1); have hl10 : w.heap.size < w1.heap.size := (by omega))
        refine bodyPost_ret (by simp [results, Tryz.results104, go_sem, *]; rfl) rfl ?_
        rw [HE.out]
        exact ⟨rfl, by (exact belQ)⟩
theorem quotient_c (a b : Int) (w : World) (ha : -4294967296 ≤ a ∧ a ≤ 4294967296) (_hb : -4294967296 ≤ b ∧ b ≤ 4294967296) : Calls Tryz.prog 105 #[.int .i64 a, .int .i64 b] w fun e w' => e = .returned (.agg #[.int .i64 (quotV a b).k, .int .i64 (quotV a b).n, .string (quotV a b).s]) ∧ Below w.heap.size w w' := by
  have HE := Lib.hid (show quotV a b = if b = 0 then V.null else if a.tmod b ≠ 0 ∧ (decide (a < 0) != decide (b < 0)) = true then numV (a.tdiv b - 1) else numV (a.tdiv b) from rfl)
  generalize quotV a b = r at HE
  by_cases h0 : b = 0
  · have t0 : (b == 0) = true := by simpa using h0
    rw [if_pos h0] at HE
    clear h0
    go_enter Tryz.func105, Tryz.ntmps105
    go_wp2_with fail
    refine bodyPost_ret (by simp [results, Tryz.results105, go_sem, *]; rfl) rfl ?_
    rw [HE.out]
    exact ⟨rfl, by (exact belQ)⟩
  have t0 : (b == 0) = false := by simpa using h0
  rw [if_neg h0] at HE
  obtain ⟨q, hq⟩ : ∃ q, a.tdiv b = q := ⟨_, rfl⟩
  obtain ⟨m, hm⟩ : ∃ m, a.tmod b = m := ⟨_, rfl⟩
  have hqb := tdiv_abs a b
  have hmb := tmod_abs a b
  rw [hq] at hqb HE
  rw [hm] at hmb HE
  have hqw : IntKind.i64.wrap q = q := IntWalk.i64_in _ (by omega)
  have hmw : IntKind.i64.wrap m = m := IntWalk.i64_in _ (by omega)
  have hq1 : IntKind.i64.wrap (q - 1) = q - 1 := IntWalk.i64_in _ (by omega)
  by_cases hm0 : m = 0
  · have tm : (m != 0) = false := by simpa using hm0
    rw [if_neg (fun h => h.1 hm0)] at HE
    clear hm0
    go_enter Tryz.func105, Tryz.ntmps105
    go_wp2_with (go_at_call 102; refine (number_c _ _).mono ?_; rintro e w1 ⟨rfl, hb1⟩; obtain ⟨hc1, hf1⟩ := bcell hb1; have hz1 := (hb1).size; (try simp at hz1); have hl10 : w.heap.size < w1.heap.size := (by omega))
    refine bodyPost_ret (by simp [results, Tryz.results105, go_sem, *]; rfl) rfl ?_
    rw [HE.out]
    exact ⟨rfl, by (exact belQ)⟩
  have tm : (m != 0) = true := by simpa using hm0
  by_cases sa : a < 0
  · have da : decide (a < 0) = true := by simpa using sa
    by_cases sb : b < 0
    · have db : decide (b < 0) = true := by simpa using sb
      rw [da, db] at HE
      rw [if_neg (fun h => by cases h.2)] at HE
      clear hm0
      go_enter Tryz.func105, Tryz.ntmps105
      go_wp2_with (go_at_call 102; refine (number_c _ _).mono ?_; rintro e w1 ⟨rfl, hb1⟩; obtain ⟨hc1, hf1⟩ := bcell hb1; have hz1 := (hb1).size; (try simp at hz1); have hl10 : w.heap.size < w1.heap.size := (by omega))
      refine bodyPost_ret (by simp [results, Tryz.results105, go_sem, *]; rfl) rfl ?_
      rw [HE.out]
      exact ⟨rfl, by (exact belQ)⟩
    · have db : decide (b < 0) = false := by simpa using sb
      rw [da, db] at HE
      rw [if_pos ⟨hm0, rfl⟩] at HE
      clear hm0
      go_enter Tryz.func105, Tryz.ntmps105
      go_wp2_with (go_at_call 102; refine (number_c _ _).mono ?_; rintro e w1 ⟨rfl, hb1⟩; obtain ⟨hc1, hf1⟩ := bcell hb1; have hz1 := (hb1).size; (try simp at hz1); have hl10 : w.heap.size < w1.heap.size := (by omega))
      refine bodyPost_ret (by simp [results, Tryz.results105, go_sem, *]; rfl) rfl ?_
      rw [HE.out]
      exact ⟨rfl, by (exact belQ)⟩
  · have da : decide (a < 0) = false := by simpa using sa
    by_cases sb : b < 0
    · have db : decide (b < 0) = true := by simpa using sb
      rw [da, db] at HE
      rw [if_pos ⟨hm0, rfl⟩] at HE
      clear hm0
      go_enter Tryz.func105, Tryz.ntmps105
      go_wp2_with (go_at_call 102; refine (number_c _ _).mono ?_; rintro e w1 ⟨rfl, hb1⟩; obtain ⟨hc1, hf1⟩ := bcell hb1; have hz1 := (hb1).size; (try simp at hz1); have hl10 : w.heap.size < w1.heap.size := (by omega))
      refine bodyPost_ret (by simp [results, Tryz.results105, go_sem, *]; rfl) rfl ?_
      rw [HE.out]
      exact ⟨rfl, by (exact belQ)⟩
    · have db : decide (b < 0) = false := by simpa using sb
      rw [da, db] at HE
      rw [if_neg (fun h => by cases h.2)] at HE
      clear hm0
      go_enter Tryz.func105, Tryz.ntmps105
      go_wp2_with (go_at_call 102; refine (number_c _ _).mono ?_; rintro e w1 ⟨rfl, hb1⟩; obtain ⟨hc1, hf1⟩ := bcell hb1; have hz1 := (hb1).size; (try simp at hz1); have hl10 : w.heap.size < w1.heap.size := (by omega))
      refine bodyPost_ret (by simp [results, Tryz.results105, go_sem, *]; rfl) rfl ?_
      rw [HE.out]
      exact ⟨rfl, by (exact belQ)⟩
theorem ofNumbers_c (op : Int) (a b : V) (w : World) (ha : -4294967296 ≤ a.n ∧ a.n ≤ 4294967296) (hb : -4294967296 ≤ b.n ∧ b.n ≤ 4294967296) : Calls Tryz.prog 60 #[.int .i64 op, .agg #[.int .i64 a.k, .int .i64 a.n, .string a.s], .agg #[.int .i64 b.k, .int .i64 b.n, .string b.s]] w fun e w' => e = .returned (.agg #[.int .i64 (numsV op a b).k, .int .i64 (numsV op a b).n, .string (numsV op a b).s]) ∧ Below w.heap.size w w' := by
  have HE := Lib.hid (show numsV op a b = if a.k ≠ 1 ∨ b.k ≠ 1 then V.null else if op = 3 then numV (-a.n) else if op = 13 then truthV (a.n == 0) else if op = 4 then numV (a.n + b.n) else if op = 5 then numV (a.n - b.n) else if op = 6 then prodV a.n b.n else quotV a.n b.n from rfl)
  generalize numsV op a b = r at HE
  have hP := product_c a.n b.n
  have hQ := quotient_c a.n b.n
  generalize prodV a.n b.n = pv at hP HE
  generalize quotV a.n b.n = qv at hQ HE
  have hna : IntKind.i64.wrap (-a.n) = -a.n := IntWalk.i64_in _ (by omega)
  have hsum : IntKind.i64.wrap (a.n + b.n) = a.n + b.n := IntWalk.i64_in _ (by omega)
  have hdif : IntKind.i64.wrap (a.n - b.n) = a.n - b.n := IntWalk.i64_in _ (by omega)
  by_cases hk : a.k = 1
  case neg =>
    have tk : (a.k != 1) = true := by simpa using hk
    rw [if_pos (.inl hk)] at HE
    clear hk
    go_enter Tryz.func60, Tryz.ntmps60
    go_wp2_with fail
    refine bodyPost_ret (by simp [results, Tryz.results60, go_sem, *]; rfl) rfl ?_
    rw [HE.out]
    exact ⟨rfl, by (exact belQ)⟩
  have tk : (a.k != 1) = false := by simpa using hk
  by_cases hk2 : b.k = 1
  case neg =>
    have tk2 : (b.k != 1) = true := by simpa using hk2
    rw [if_pos (.inr hk2)] at HE
    clear hk hk2
    go_enter Tryz.func60, Tryz.ntmps60
    go_wp2_with fail
    refine bodyPost_ret (by simp [results, Tryz.results60, go_sem, *]; rfl) rfl ?_
    rw [HE.out]
    exact ⟨rfl, by (exact belQ)⟩
  have tk2 : (b.k != 1) = false := by simpa using hk2
  rw [if_neg (show ¬ (a.k ≠ 1 ∨ b.k ≠ 1) by rintro (h | h); exact h hk; exact h hk2)] at HE
  clear hk hk2
  by_cases h3 : op = 3
  · have t3 : (op == 3) = true := by simpa using h3
    rw [if_pos h3] at HE
    clear h3
    go_enter Tryz.func60, Tryz.ntmps60
    go_wp2_with (go_at_call 102; refine (number_c _ _).mono ?_; rintro e w1 ⟨rfl, hb1⟩; obtain ⟨hc1, hf1⟩ := bcell hb1; have hz1 := (hb1).size; (try simp at hz1); have hl10 : w.heap.size < w1.heap.size := (by omega); have hl11 : w.heap.size + 1 < w1.heap.size := (by omega); have hl12 : w.heap.size + 1 + 1 < w1.heap.size := (by omega))
    refine bodyPost_ret (by simp [results, Tryz.results60, go_sem, *]; rfl) rfl ?_
    rw [HE.out]
    exact ⟨rfl, by (exact belQ)⟩
  have t3 : (op == 3) = false := by simpa using h3
  rw [if_neg h3] at HE
  clear h3
  by_cases h13 : op = 13
  · have t13 : (op == 13) = true := by simpa using h13
    rw [if_pos h13] at HE
    clear h13
    go_enter Tryz.func60, Tryz.ntmps60
    go_wp2_with (go_at_call 100; refine (truth_c _ _).mono ?_; rintro e w1 ⟨rfl, hb1⟩; obtain ⟨hc1, hf1⟩ := bcell hb1; have hz1 := (hb1).size; (try simp at hz1); have hl10 : w.heap.size < w1.heap.size := (by omega); have hl11 : w.heap.size + 1 < w1.heap.size := (by omega); have hl12 : w.heap.size + 1 + 1 < w1.heap.size := (by omega))
    refine bodyPost_ret (by simp [results, Tryz.results60, go_sem, *]; rfl) rfl ?_
    rw [HE.out]
    exact ⟨rfl, by (exact belQ)⟩
  have t13 : (op == 13) = false := by simpa using h13
  rw [if_neg h13] at HE
  clear h13
  by_cases h4 : op = 4
  · have t4 : (op == 4) = true := by simpa using h4
    rw [if_pos h4] at HE
    clear h4
    go_enter Tryz.func60, Tryz.ntmps60
    go_wp2_with (go_at_call 102; refine (number_c _ _).mono ?_; rintro e w1 ⟨rfl, hb1⟩; obtain ⟨hc1, hf1⟩ := bcell hb1; have hz1 := (hb1).size; (try simp at hz1); have hl10 : w.heap.size < w1.heap.size := (by omega); have hl11 : w.heap.size + 1 < w1.heap.size := (by omega); have hl12 : w.heap.size + 1 + 1 < w1.heap.size := (by omega))
    refine bodyPost_ret (by simp [results, Tryz.results60, go_sem, *]; rfl) rfl ?_
    rw [HE.out]
    exact ⟨rfl, by (exact belQ)⟩
  have t4 : (op == 4) = false := by simpa using h4
  rw [if_neg h4] at HE
  clear h4
  by_cases h5 : op = 5
  · have t5 : (op == 5) = true := by simpa using h5
    rw [if_pos h5] at HE
    clear h5
    go_enter Tryz.func60, Tryz.ntmps60
    go_wp2_with (go_at_call 102; refine (number_c _ _).mono ?_; rintro e w1 ⟨rfl, hb1⟩; obtain ⟨hc1, hf1⟩ := bcell hb1; have hz1 := (hb1).size; (try simp at hz1); have hl10 : w.heap.size < w1.heap.size := (by omega); have hl11 : w.heap.size + 1 < w1.heap.size := (by omega); have hl12 : w.heap.size + 1 + 1 < w1.heap.size := (by omega))
    refine bodyPost_ret (by simp [results, Tryz.results60, go_sem, *]; rfl) rfl ?_
    rw [HE.out]
    exact ⟨rfl, by (exact belQ)⟩
  have t5 : (op == 5) = false := by simpa using h5
  rw [if_neg h5] at HE
  clear h5
  by_cases h6 : op = 6
  · have t6 : (op == 6) = true := by simpa using h6
    rw [if_pos h6] at HE
    clear h6
    go_enter Tryz.func60, Tryz.ntmps60
    go_wp2_with (go_at_call 104; refine (hP _ ha hb).mono ?_; rintro e w1 ⟨rfl, hb1⟩; obtain ⟨hc1, hf1⟩ := bcell hb1; have hz1 := (hb1).size; (try simp at hz1); have hl10 : w.heap.size < w1.heap.size := (by omega); have hl11 : w.heap.size + 1 < w1.heap.size := (by omega); have hl12 : w.heap.size + 1 + 1 < w1.heap.size := (by omega))
    refine bodyPost_ret (by simp [results, Tryz.results60, go_sem, *]; rfl) rfl ?_
    rw [HE.out]
    exact ⟨rfl, by (exact belQ)⟩
  have t6 : (op == 6) = false := by simpa using h6
  rw [if_neg h6] at HE
  clear h6
  go_enter Tryz.func60, Tryz.ntmps60
  go_wp2_with (go_at_call 105; refine (hQ _ ha hb).mono ?_; rintro e w1 ⟨rfl, hb1⟩; obtain ⟨hc1, hf1⟩ := bcell hb1; have hz1 := (hb1).size; (try simp at hz1); have hl10 : w.heap.size < w1.heap.size := (by omega); have hl11 : w.heap.size + 1 < w1.heap.size := (by omega); have hl12 : w.heap.size + 1 + 1 < w1.heap.size := (by omega))
  refine bodyPost_ret (by simp [results, Tryz.results60, go_sem, *]; rfl) rfl ?_
  rw [HE.out]
  exact ⟨rfl, by (exact belQ)⟩
theorem xvalidTerm (t : T) (w : World) : Calls Tryz.prog 96 #[.agg #[.int .i64 t.op, .int .i64 t.v.k, .int .i64 t.v.n, .string t.v.s, .int .i64 t.c]] w fun e w' => e = .returned (.bool t.ok) ∧ Below w.heap.size w w' := by
  have hA := xarity t.op
  have he := run_eqV t.v.k t.v.n t.v.s 0 0 ⟨#[]⟩
  rw [show eqB t.v.k t.v.n t.v.s 0 0 ⟨#[]⟩ = t.v.beq V.null from rfl] at he
  by_cases ha : arity t.op < 0
  · have HR := Lib.hid (show t.ok = false by unfold T.ok; rw [show decide (0 ≤ arity t.op) = false by simpa using ha]; rfl)
    go_enter Tryz.func96, Tryz.ntmps96
    go_wp2_with (go_at_call 55; refine (hA _).mono ?_; rintro e w1 ⟨rfl, rfl⟩)
    go_ret
    exact ⟨ret_bool HR.out.symm, by (exact belQ)⟩
  have hk : decide (0 ≤ arity t.op) = true := by simp; omega
  by_cases h1 : t.op = 1
  · have t1 : (t.op == 1) = true := by simpa using h1
    have HT := Lib.hid (show t.ok = (t.c == 0 && (t.v.k != 0 && t.v.ok)) by unfold T.ok; rw [hk, if_pos h1]; rfl)
    clear h1 hk
    go_enter Tryz.func96, Tryz.ntmps96
    go_wp2_with (first
      | (go_at_call 55; refine (hA _).mono ?_; rintro e w1 ⟨rfl, rfl⟩)
      | (go_at_call 156; refine (vvalid t.v _).mono ?_; rintro e w2 ⟨rfl, hb2⟩))
    all_goals go_ret
    all_goals refine ⟨ret_bool ?_, by (exact belQ)⟩
    all_goals rw [HT.out]
    all_goals simp_all
  have t1 : (t.op == 1) = false := by simpa using h1
  by_cases h2 : t.op = 2
  · have t2 : (t.op == 2) = true := by simpa using h2
    have HT := Lib.hid (show t.ok = (decide (0 ≤ t.c) && t.v.beq V.null) by unfold T.ok; rw [hk, if_neg h1, if_pos h2]; rfl)
    clear h1 h2 hk
    generalize t.v.beq V.null = nb at he HT
    go_enter Tryz.func96, Tryz.ntmps96
    go_wp2_with (go_at_call 55; refine (hA _).mono ?_; rintro e w1 ⟨rfl, rfl⟩)
    all_goals go_ret
    all_goals refine ⟨ret_bool ?_, by (exact belQ)⟩
    all_goals rw [HT.out]
    all_goals simp_all
    all_goals (intro h; exfalso; omega)
  · have t2 : (t.op == 2) = false := by simpa using h2
    have HT := Lib.hid (show t.ok = (t.c == 0 && t.v.beq V.null) by unfold T.ok; rw [hk, if_neg h1, if_neg h2]; rfl)
    clear h1 h2 hk
    generalize t.v.beq V.null = nb at he HT
    go_enter Tryz.func96, Tryz.ntmps96
    go_wp2_with (go_at_call 55; refine (hA _).mono ?_; rintro e w1 ⟨rfl, rfl⟩)
    all_goals go_ret
    all_goals refine ⟨ret_bool ?_, by (exact belQ)⟩
    all_goals rw [HT.out]
    all_goals simp_all
theorem readK_stop {f n : Nat} {l : List T} (h : readK f n l = none) : ∀ m, n ≤ m → readK f m l = none := by
  intro m
  induction m with
  | zero =>
    intro hm
    have e : n = 0 := by omega
    rw [e] at h
    exact h
  | succ m ih =>
    intro hm
    rcases Nat.lt_or_ge n (m + 1) with h1 | h1
    · rw [readK_snoc, ih (by omega)]
    · have e : n = m + 1 := by omega
      rw [e] at h
      exact h
theorem drop_term {es : List T} {pos : Nat} {t : T} (h : es[pos]? = some t) : es.drop pos = t :: es.drop (pos + 1) := by
  obtain ⟨h1, h2⟩ := List.getElem?_eq_some_iff.1 h
  rw [List.drop_eq_getElem_cons h1, h2]
def Rd3 (f : Nat) (es : List T) (at_ i d e : Nat) : Prop := ∃ ks r, readK f i (es.drop at_) = some (ks, r) ∧ d = deepest ks ∧ e = at_ + (flats ks).length ∧ es.drop e = r
theorem Rd3.start (f : Nat) (es : List T) (at_ : Nat) : Rd3 f es at_ 0 0 at_ := ⟨[], es.drop at_, readK_zero _ _, by simp [deepest], by simp [flats], rfl⟩
theorem Rd3.more {f : Nat} {es : List T} {at_ i d e : Nat} (h : Rd3 f es at_ i d e) {x : X} {r : List T} (hx : readX f (es.drop e) = some (x, r)) : Rd3 f es at_ (i + 1) (max d x.depth) (e + x.flat.length) := by
  obtain ⟨ks, r0, h1, h2, h3, h4⟩ := h
  rw [h4] at hx
  refine ⟨ks ++ [x], r, by rw [readK_snoc, h1]; simp only; rw [hx], by rw [deepest_snoc, h2], by rw [flats_snoc, List.length_append, h3]; omega, ?_⟩
  obtain ⟨e1, _, _⟩ := readX_some hx
  rw [← List.drop_drop, h4, e1, List.drop_left]
theorem Rd3.stop {f : Nat} {es : List T} {at_ i d e : Nat} (h : Rd3 f es at_ i d e) (hx : readX f (es.drop e) = none) (n : Nat) (hn : i < n) : readK f n (es.drop at_) = none := by
  obtain ⟨ks, r0, h1, _, _, h4⟩ := h
  rw [h4] at hx
  exact readK_stop (n := i + 1) (by rw [readK_snoc, h1]; simp only; rw [hx]) n (by omega)
def measO (es : List T) (pos : Nat) : Nat × Nat := match readX es.length (es.drop pos) with
  | some (x, _) => (x.depth, pos + x.flat.length)
  | none => (0, pos)
theorem measO_over {es : List T} {pos : Nat} (h : es.length ≤ pos) : measO es pos = (0, pos) := by
  unfold measO
  rw [List.drop_of_length_le h]
  cases es.length <;> rfl
theorem measO_bad {es : List T} {pos : Nat} {t : T} (h : es[pos]? = some t) (hok : t.ok = false) : measO es pos = (0, pos) := by
  unfold measO
  rw [drop_term h]
  cases es.length with
  | zero => rfl
  | succ n => simp [readX, hok]
theorem read_node {es : List T} {pos : Nat} {t : T} (h : es[pos]? = some t) (hok : t.ok = true) : readX es.length (es.drop pos) = (readK (es.length - 1) (ar t.op) (es.drop (pos + 1))).map fun y => (.node t y.1, y.2) := by
  have hl : pos < es.length := (List.getElem?_eq_some_iff.1 h).1
  obtain ⟨n, hn⟩ : ∃ n, es.length = n + 1 := ⟨es.length - 1, by omega⟩
  rw [drop_term h, hn]
  simp only [readX, Nat.add_sub_cancel]
  rw [if_pos hok]
theorem measO_some {es : List T} {e : Nat} {f : Nat} (hf : es.length ≤ f + e) (h : (measO es e).1 ≠ 0) : ∃ x r, readX f (es.drop e) = some (x, r) ∧ measO es e = (x.depth, e + x.flat.length) := by
  unfold measO at h ⊢
  cases hx : readX es.length (es.drop e) with
  | none => rw [hx] at h; simp at h
  | some y =>
    obtain ⟨x, r⟩ := y
    exact ⟨x, r, readX_full (by simp; omega) hx, rfl⟩
theorem measO_none {es : List T} {e : Nat} {f : Nat} (h : (measO es e).1 = 0) : readX f (es.drop e) = none := by
  unfold measO at h
  cases hx : readX es.length (es.drop e) with
  | none => exact readX_none (by simp) hx
  | some y =>
    obtain ⟨x, r⟩ := y
    rw [hx] at h
    have := x.depth_pos
    simp only at h
    omega
theorem Rd3.le {f : Nat} {es : List T} {at_ i d e : Nat} (h : Rd3 f es at_ i d e) : at_ ≤ e := by
  obtain ⟨ks, r, _, _, h3, _⟩ := h
  omega
theorem meas_step {es : List T} {pos i d e : Nat} (h : Rd3 (es.length - 1) es (pos + 1) i d e) (hd : (measO es e).1 ≠ 0) : Rd3 (es.length - 1) es (pos + 1) (i + 1) (max d (measO es e).1) (measO es e).2 := by
  have hle := h.le
  obtain ⟨x, r, h1, h2⟩ := measO_some (f := es.length - 1) (by omega) hd
  rw [h2]
  exact h.more h1
theorem meas_fail {es : List T} {pos i d e : Nat} {t : T} (ht : es[pos]? = some t) (hok : t.ok = true) (h : Rd3 (es.length - 1) es (pos + 1) i d e) (hd : (measO es e).1 = 0) (hi : i < ar t.op) : measO es pos = (0, pos) := by
  unfold measO
  rw [read_node ht hok, h.stop (measO_none hd) _ hi]
  rfl
theorem meas_done {es : List T} {pos d e : Nat} {t : T} (ht : es[pos]? = some t) (hok : t.ok = true) (h : Rd3 (es.length - 1) es (pos + 1) (ar t.op) d e) : measO es pos = (d + 1, e) := by
  obtain ⟨ks, r, h1, h2, h3, _⟩ := h
  unfold measO
  rw [read_node ht hok, h1]
  simp only [Option.map_some, X.depth, X.flat_node, List.length_cons]
  rw [h2, h3]
  simp
  omega
theorem measO_le {es : List T} {e : Nat} (h : e ≤ es.length) : (measO es e).1 ≤ es.length ∧ e ≤ (measO es e).2 ∧ (measO es e).2 ≤ es.length := by
  unfold measO
  cases hx : readX es.length (es.drop e) with
  | none => exact ⟨Nat.zero_le _, Nat.le_refl _, h⟩
  | some y =>
    obtain ⟨x, r⟩ := y
    obtain ⟨h1, _, h3⟩ := readX_some hx
    have h4 := congrArg List.length h1
    have h5 := x.depth_flat
    rw [List.length_drop, List.length_append] at h4
    simp only
    omega
def T.fok (t : T) : Bool := if t.op = 1 then t.c == 0 && (t.v.k != 0 && t.v.ok) else if t.op = 2 then decide (0 ≤ t.c) && t.v.beq V.null else t.c == 0 && t.v.beq V.null
theorem T.ok_fok (t : T) : t.ok = (decide (0 ≤ arity t.op) && t.fok) := rfl
theorem valid_prog (es : List T) : validE es = (decide (es.length ≤ 64) && (decide (0 < (measO es 0).1) && (decide ((measO es 0).1 ≤ 16) && decide ((measO es 0).2 = es.length)))) := by
  rw [Bool.eq_iff_iff, validE_iff]
  simp only [Bool.and_eq_true, decide_eq_true_eq]
  constructor
  · rintro ⟨h1, x, rfl, h2, h3⟩
    have hr : readX x.flat.length (x.flat.drop 0) = some (x, []) := by
      have := readX_flat x [] x.flat.length h2 x.depth_flat
      rw [List.append_nil] at this
      rw [List.drop_zero]
      exact this
    have hm : measO x.flat 0 = (x.depth, 0 + x.flat.length) := by unfold measO; rw [hr]
    have := x.depth_pos
    rw [hm]
    exact ⟨h1, this, h3, by simp⟩
  · rintro ⟨h1, h2, h3, h4⟩
    refine ⟨h1, ?_⟩
    obtain ⟨x, r, e1, e2⟩ := measO_some (es := es) (e := 0) (f := es.length) (by omega) (by omega)
    rw [List.drop_zero] at e1
    obtain ⟨g1, g2, g3⟩ := readX_some e1
    rw [e2] at h3 h4
    simp only at h3 h4
    have hr : r = [] := by
      have := congrArg List.length g1
      rw [List.length_append] at this
      exact List.eq_nil_of_length_eq_zero (by omega)
    subst hr
    exact ⟨x, by simpa using g1, g2, h3⟩
end Go.Proofs.YtpnfbehbheddeaaGreatDoor
