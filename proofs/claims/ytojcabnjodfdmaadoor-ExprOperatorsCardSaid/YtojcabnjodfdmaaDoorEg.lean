/- Contracts of the program's lenient, cell, ofText and compare. Texts of at most a thousand bytes. -/
import Derived.Test.YtojcabnjodfdmaaDoorEf
import Derived.Test.YtojcabnjodfdmaaDoorVc
namespace Go.Proofs.YtojcabnjodfdmaaDoor
open Go.RowKit

set_option maxRecDepth 100000 in
set_option maxHeartbeats 2000000 in
theorem lenient_c (op : Int) (a b c : V) (w : World) : Calls Tryd.prog 65 #[.int .i64 op, .agg #[.int .i64 a.k, .int .i64 a.n, .string a.s], .agg #[.int .i64 b.k, .int .i64 b.n, .string b.s], .agg #[.int .i64 c.k, .int .i64 c.n, .string c.s]] w fun e w' => e = .returned (.agg #[.int .i64 (lenientV op a b c).k, .int .i64 (lenientV op a b c).n, .string (lenientV op a b c).s]) ∧ Below w.heap.size w w' := by
  have HE := Lib.hid (show lenientV op a b c = if op = 14 then andV a b else if op = 15 then orV a b else if op = 16 then truthV (a.k == 0) else if op = 17 then (if a.k = 0 then b else a) else if isTrueV a = true then b else c from rfl)
  generalize lenientV op a b c = r at HE
  by_cases h14 : op = 14
  · have t14 : (op == 14) = true := by simpa using h14
    have HR := Lib.hid (show r = andV a b by rw [HE.out, if_pos h14])
    clear h14
    go_enter Tryd.func65, Tryd.ntmps65
    go_wp2_with (go_at_call 80; refine (and_c a b _).mono ?_; rintro e w1 ⟨rfl, hb1⟩; obtain ⟨hc1, hf1⟩ := bcell hb1; have hz1 := (hb1).size; (try simp at hz1); have hl10 : w.heap.size < w1.heap.size := (by omega); have hl11 : w.heap.size + 1 < w1.heap.size := (by omega); have hl12 : w.heap.size + 1 + 1 < w1.heap.size := (by omega); have hl13 : w.heap.size + 1 + 1 + 1 < w1.heap.size := (by omega))
    refine bodyPost_ret (by simp [results, Tryd.results65, go_sem, *]; rfl) rfl ?_
    rw [HR.out]
    exact ⟨rfl, by (repeat (first | (with_reducible exact Below.refl _ _) | (with_reducible assumption) | (with_reducible refine Below.drew ?_) | (with_reducible refine below_drewN ?_ _) | ((with_reducible refine Below.setCell ?_ ?_ _); rotate_left; (focus (first | (simp; done) | (simp; omega) | omega))) | ((with_reducible refine Below.alloc ?_ ?_ _); rotate_left; (focus (first | (simp; done) | (simp; omega) | omega))) | ((with_reducible apply below_step1); (focus (with_reducible assumption)))))⟩
  have t14 : (op == 14) = false := by simpa using h14
  rw [if_neg h14] at HE
  clear h14
  by_cases h15 : op = 15
  · have t15 : (op == 15) = true := by simpa using h15
    have HR := Lib.hid (show r = orV a b by rw [HE.out, if_pos h15])
    clear h15
    go_enter Tryd.func65, Tryd.ntmps65
    go_wp2_with (go_at_call 81; refine (or_c a b _).mono ?_; rintro e w1 ⟨rfl, hb1⟩; obtain ⟨hc1, hf1⟩ := bcell hb1; have hz1 := (hb1).size; (try simp at hz1); have hl10 : w.heap.size < w1.heap.size := (by omega); have hl11 : w.heap.size + 1 < w1.heap.size := (by omega); have hl12 : w.heap.size + 1 + 1 < w1.heap.size := (by omega); have hl13 : w.heap.size + 1 + 1 + 1 < w1.heap.size := (by omega))
    refine bodyPost_ret (by simp [results, Tryd.results65, go_sem, *]; rfl) rfl ?_
    rw [HR.out]
    exact ⟨rfl, by (repeat (first | (with_reducible exact Below.refl _ _) | (with_reducible assumption) | (with_reducible refine Below.drew ?_) | (with_reducible refine below_drewN ?_ _) | ((with_reducible refine Below.setCell ?_ ?_ _); rotate_left; (focus (first | (simp; done) | (simp; omega) | omega))) | ((with_reducible refine Below.alloc ?_ ?_ _); rotate_left; (focus (first | (simp; done) | (simp; omega) | omega))) | ((with_reducible apply below_step1); (focus (with_reducible assumption)))))⟩
  have t15 : (op == 15) = false := by simpa using h15
  rw [if_neg h15] at HE
  clear h15
  by_cases h16 : op = 16
  · have t16 : (op == 16) = true := by simpa using h16
    have HR := Lib.hid (show r = truthV (a.k == 0) by rw [HE.out, if_pos h16])
    clear h16
    go_enter Tryd.func65, Tryd.ntmps65
    go_wp2_with (go_at_call 82; refine (truth_c _ _).mono ?_; rintro e w1 ⟨rfl, hb1⟩; obtain ⟨hc1, hf1⟩ := bcell hb1; have hz1 := (hb1).size; (try simp at hz1); have hl10 : w.heap.size < w1.heap.size := (by omega); have hl11 : w.heap.size + 1 < w1.heap.size := (by omega); have hl12 : w.heap.size + 1 + 1 < w1.heap.size := (by omega); have hl13 : w.heap.size + 1 + 1 + 1 < w1.heap.size := (by omega))
    refine bodyPost_ret (by simp [results, Tryd.results65, go_sem, *]; rfl) rfl ?_
    rw [HR.out]
    exact ⟨rfl, by (repeat (first | (with_reducible exact Below.refl _ _) | (with_reducible assumption) | (with_reducible refine Below.drew ?_) | (with_reducible refine below_drewN ?_ _) | ((with_reducible refine Below.setCell ?_ ?_ _); rotate_left; (focus (first | (simp; done) | (simp; omega) | omega))) | ((with_reducible refine Below.alloc ?_ ?_ _); rotate_left; (focus (first | (simp; done) | (simp; omega) | omega))) | ((with_reducible apply below_step1); (focus (with_reducible assumption)))))⟩
  have t16 : (op == 16) = false := by simpa using h16
  rw [if_neg h16] at HE
  clear h16
  by_cases h17 : op = 17
  · have t17 : (op == 17) = true := by simpa using h17
    rw [if_pos h17] at HE
    clear h17
    by_cases hk : a.k = 0
    · have tk : (a.k == 0) = true := by simpa using hk
      rw [if_pos hk] at HE
      clear hk
      go_enter Tryd.func65, Tryd.ntmps65
      go_wp2_with fail
      refine bodyPost_ret (by simp [results, Tryd.results65, go_sem, *]; rfl) rfl ?_
      rw [HE.out]
      exact ⟨rfl, by (repeat (first | (with_reducible exact Below.refl _ _) | (with_reducible assumption) | (with_reducible refine Below.drew ?_) | (with_reducible refine below_drewN ?_ _) | ((with_reducible refine Below.setCell ?_ ?_ _); rotate_left; (focus (first | (simp; done) | (simp; omega) | omega))) | ((with_reducible refine Below.alloc ?_ ?_ _); rotate_left; (focus (first | (simp; done) | (simp; omega) | omega))) | ((with_reducible apply below_step1); (focus (with_reducible assumption)))))⟩
    · have tk : (a.k == 0) = false := by simpa using hk
      rw [if_neg hk] at HE
      clear hk
      go_enter Tryd.func65, Tryd.ntmps65
      go_wp2_with fail
      refine bodyPost_ret (by simp [results, Tryd.results65, go_sem, *]; rfl) rfl ?_
      rw [HE.out]
      exact ⟨rfl, by (repeat (first | (with_reducible exact Below.refl _ _) | (with_reducible assumption) | (with_reducible refine Below.drew ?_) | (with_reducible refine below_drewN ?_ _) | ((with_reducible refine Below.setCell ?_ ?_ _); rotate_left; (focus (first | (simp; done) | (simp; omega) | omega))) | ((with_reducible refine Below.alloc ?_ ?_ _); rotate_left; (focus (first | (simp; done) | (simp; omega) | omega))) | ((with_reducible apply below_step1); (focus (with_reducible assumption)))))⟩
  have t17 : (op == 17) = false := by simpa using h17
  rw [if_neg h17] at HE
  clear h17
  have hT := isTrue_c a
  generalize isTrueV a = ta at hT HE
  cases ta
  · have HR := Lib.hid (show r = c from HE.out)
    go_enter Tryd.func65, Tryd.ntmps65
    go_wp2_with (go_at_call 52; refine (hT _).mono ?_; rintro e w1 ⟨rfl, hb1⟩; obtain ⟨hc1, hf1⟩ := bcell hb1; have hz1 := (hb1).size; (try simp at hz1); have hl10 : w.heap.size < w1.heap.size := (by omega); have hl11 : w.heap.size + 1 < w1.heap.size := (by omega); have hl12 : w.heap.size + 1 + 1 < w1.heap.size := (by omega); have hl13 : w.heap.size + 1 + 1 + 1 < w1.heap.size := (by omega))
    refine bodyPost_ret (by simp [results, Tryd.results65, go_sem, *]; rfl) rfl ?_
    rw [HR.out]
    exact ⟨rfl, by (repeat (first | (with_reducible exact Below.refl _ _) | (with_reducible assumption) | (with_reducible refine Below.drew ?_) | (with_reducible refine below_drewN ?_ _) | ((with_reducible refine Below.setCell ?_ ?_ _); rotate_left; (focus (first | (simp; done) | (simp; omega) | omega))) | ((with_reducible refine Below.alloc ?_ ?_ _); rotate_left; (focus (first | (simp; done) | (simp; omega) | omega))) | ((with_reducible apply below_step1); (focus (with_reducible assumption)))))⟩
  · have HR := Lib.hid (show r = b from HE.out)
    go_enter Tryd.func65, Tryd.ntmps65
    go_wp2_with (go_at_call 52; refine (hT _).mono ?_; rintro e w1 ⟨rfl, hb1⟩; obtain ⟨hc1, hf1⟩ := bcell hb1; have hz1 := (hb1).size; (try simp at hz1); have hl10 : w.heap.size < w1.heap.size := (by omega); have hl11 : w.heap.size + 1 < w1.heap.size := (by omega); have hl12 : w.heap.size + 1 + 1 < w1.heap.size := (by omega); have hl13 : w.heap.size + 1 + 1 + 1 < w1.heap.size := (by omega))
    refine bodyPost_ret (by simp [results, Tryd.results65, go_sem, *]; rfl) rfl ?_
    rw [HR.out]
    exact ⟨rfl, by (repeat (first | (with_reducible exact Below.refl _ _) | (with_reducible assumption) | (with_reducible refine Below.drew ?_) | (with_reducible refine below_drewN ?_ _) | ((with_reducible refine Below.setCell ?_ ?_ _); rotate_left; (focus (first | (simp; done) | (simp; omega) | omega))) | ((with_reducible refine Below.alloc ?_ ?_ _); rotate_left; (focus (first | (simp; done) | (simp; omega) | omega))) | ((with_reducible apply below_step1); (focus (with_reducible assumption)))))⟩

set_option maxRecDepth 100000 in
set_option maxHeartbeats 1000000 in
theorem cell_c (A : Option Addr) (n c : Nat) (row : List V) (k : Int) (w : World) (hn : n ≤ maxLen) (hk : 0 ≤ k) (hr : Row w w.heap.size A n row) : Calls Tryd.prog 64 #[.slice A n c, .int .i64 k] w fun e w' => e = .returned (.agg #[.int .i64 (cellV row k).k, .int .i64 (cellV row k).n, .string (cellV row k).s]) ∧ Below w.heap.size w w' := by
  unfold maxLen at hn
  have hl := hr.len
  by_cases h : k ≥ row.length
  · have HR := Lib.hid (show cellV row k = V.null by unfold cellV; rw [if_pos h])
    have h1 : (n : Int) ≤ k := by omega
    clear h hl
    go_enter Tryd.func64, Tryd.ntmps64
    go_wp2_with fail
    refine bodyPost_ret (by simp [results, Tryd.results64, go_sem, *]; rfl) rfl ?_
    rw [HR.out]
    exact ⟨rfl, by (repeat (first | (with_reducible exact Below.refl _ _) | (with_reducible assumption) | (with_reducible refine Below.drew ?_) | (with_reducible refine below_drewN ?_ _) | ((with_reducible refine Below.setCell ?_ ?_ _); rotate_left; (focus (first | (simp; done) | (simp; omega) | omega))) | ((with_reducible refine Below.alloc ?_ ?_ _); rotate_left; (focus (first | (simp; done) | (simp; omega) | omega))) | ((with_reducible apply below_step1); (focus (with_reducible assumption)))))⟩
  · have h1 : ¬ (n : Int) ≤ k := by omega
    have h2 : k < (n : Int) := by omega
    obtain ⟨i, rfl⟩ := Int.eq_ofNat_of_zero_le hk
    obtain ⟨b, off, v, rfl, hb, hv, c0, c1, c2⟩ := Row.at3 hr (show i < n by omega)
    have HR := Lib.hid (show cellV row (i : Int) = v.cl by unfold cellV; rw [if_neg h, Int.toNat_natCast, hv]; rfl)
    clear h hl hv
    go_enter Tryd.func64, Tryd.ntmps64
    go_wp2_with (go_at_call 79; refine (vclean v _).mono ?_; rintro e w1 ⟨rfl, hb1⟩; obtain ⟨hc1, hf1⟩ := bcell hb1; have hz1 := (hb1).size; (try simp at hz1); have hl10 : w.heap.size < w1.heap.size := (by omega))
    refine bodyPost_ret (by simp [results, Tryd.results64, go_sem, *]; rfl) rfl ?_
    rw [HR.out]
    exact ⟨rfl, by (repeat (first | (with_reducible exact Below.refl _ _) | (with_reducible assumption) | (with_reducible refine Below.drew ?_) | (with_reducible refine below_drewN ?_ _) | ((with_reducible refine Below.setCell ?_ ?_ _); rotate_left; (focus (first | (simp; done) | (simp; omega) | omega))) | ((with_reducible refine Below.alloc ?_ ?_ _); rotate_left; (focus (first | (simp; done) | (simp; omega) | omega))) | ((with_reducible apply below_step1); (focus (with_reducible assumption)))))⟩
end Go.Proofs.YtojcabnjodfdmaaDoor
