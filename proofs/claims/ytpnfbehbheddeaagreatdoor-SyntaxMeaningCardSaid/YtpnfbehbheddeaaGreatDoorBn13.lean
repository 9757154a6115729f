/- Contracts of Compare, of the program and of the reference, and of cmp.Compare at int64. No condition. Contracts of the program's lenient, cell, ofText and compare. Texts of at most a thousand bytes. Contracts of the program's ofText and compare. Texts of at most a thousand bytes. -/
import Derived.Test.YtpnfbehbheddeaaGreatDoorBn02
import Derived.Test.YtpnfbehbheddeaaGreatDoorBn00
import Derived.Test.YtpnfbehbheddeaaGreatDoorShelf
import Derived.Laws.StructEq
import Derived.Deep.DeepCutAuto
import Derived.Deep.RegionWith
import Derived.Deep.Light
import Derived.Test.YtpnfbehbheddeaaGreatDoorBn12
import Derived.Lib.ItoaNum
import Derived.Lib.ItoaLen
import Derived.Lib.LaidTab
import Derived.Lib.AppendIntMem
namespace Go.Proofs.YtpnfbehbheddeaaGreatDoor
set_option maxRecDepth 100000
set_option maxHeartbeats 8000000
set_option linter.unusedVariables false
set_option linter.unusedSimpArgs false
open Go.RowKit
theorem cmp64 (x y : Int) (w : World) : Calls Tryz.prog 159 #[.int .i64 x, .int .i64 y] w fun e w' => e = .returned (.int .i64 (Lib.compareInt x y)) ∧ w = w' := by
  go_enter Tryz.func159, Tryz.ntmps159
  go_wp2
  all_goals go_ret
  all_goals refine ⟨ret_int ?_, rfl⟩
  all_goals unfold Lib.compareInt
  · have h : x < y := by assumption
    rw [if_pos h]
  · have h : y ≤ x := by assumption
    have h' : y < x := by assumption
    rw [if_neg (by omega), if_pos (by omega)]
  · have h : y ≤ x := by assumption
    have h' : x ≤ y := by assumption
    rw [if_neg (by omega), if_neg (by omega)]
def Cleaned (w wx : World) (a b : V) : Prop := Below w.heap.size w wx ∧ w.heap.size + 2 ≤ wx.heap.size ∧ wx.cell? ⟨w.heap.size, 0, none⟩ = some (.int .i64 a.cl.k) ∧ wx.cell? ⟨w.heap.size, 1, none⟩ = some (.int .i64 a.cl.n) ∧ wx.cell? ⟨w.heap.size, 2, none⟩ = some (.string a.cl.s)
   ∧ wx.cell? ⟨w.heap.size + 1, 0, none⟩ = some (.int .i64 b.cl.k) ∧ wx.cell? ⟨w.heap.size + 1, 1, none⟩ = some (.int .i64 b.cl.n) ∧ wx.cell? ⟨w.heap.size + 1, 2, none⟩ = some (.string b.cl.s)
theorem vcompare (a b : V) (w : World) : Calls Tryz.prog 103 #[.agg #[.int .i64 a.k, .int .i64 a.n, .string a.s], .agg #[.int .i64 b.k, .int .i64 b.n, .string b.s]] w fun e w' => e = .returned (.int .i64 (cmpV a b)) ∧ Below w.heap.size w w' := by
  have hp1 : w.heap.size < w.heap.size + 1 + 1 := by omega
  go_enter Tryz.func103, Tryz.ntmps103
  go_upto_region 1 with fail
  go_cut [] (fun wx => Cleaned w wx a b)
  case first =>
    go_region_with (first
     | (go_at_call_of 97 (Value.agg #[.int .i64 a.k, .int .i64 a.n, .string a.s]); refine (vclean a _).mono ?_; rintro e w1 ⟨rfl, hb⟩; obtain ⟨hc1, hf1⟩ := bcell hb; have hz1 := (hb).size; (try simp at hz1); have hl10 : w.heap.size < w1.heap.size := (by omega); have hl11 : w.heap.size + 1 < w1.heap.size := (by omega))
     | (go_at_call_of 97 (Value.agg #[.int .i64 b.k, .int .i64 b.n, .string b.s]); refine (vclean b _).mono ?_; rintro e w2 ⟨rfl, hb'⟩; obtain ⟨hc2, hf2⟩ := bcell hb'; have hz2 := (hb').size; (try simp at hz2); have hl20 : w.heap.size < w2.heap.size := (by omega); have hl21 : w.heap.size + 1 < w2.heap.size := (by omega)))
    all_goals go_wp2_with fail
    all_goals go_meet
    all_goals go_light
    all_goals unfold Cleaned
    all_goals refine ⟨?_, by simp; omega, by go_simp, by go_simp, by go_simp, by go_simp, by go_simp, by go_simp⟩
    all_goals (exact belQ)
  case rest =>
    obtain ⟨h1, h2, h3, h4, h5, h6, h7, h8⟩ := hcut
    by_cases hk : a.cl.k = b.cl.k
    · have HK := Lib.hid hk
      have hk' : (a.cl.k != b.cl.k) = false := by simpa using hk
      clear hk
      by_cases e1 : a.cl.k = 1
      · have E1 := Lib.hid e1
        have e1' : (a.cl.k == 1) = true := by simpa using e1
        clear e1
        go_wp2_with (go_at_call 159; refine (cmp64 _ _ _).mono ?_; rintro e w3 ⟨rfl, rfl⟩)
        go_ret
        exact ⟨ret_int (by unfold cmpV cmpC; rw [if_neg (by rw [HK.out]; simp), if_pos E1.out]), h1⟩
      · have E1 := Lib.hid e1
        have e1' : (a.cl.k == 1) = false := by simpa using e1
        clear e1
        by_cases e2 : a.cl.k = 2
        · have E2 := Lib.hid e2
          have e2' : (a.cl.k == 2) = true := by simpa using e2
          clear e2
          go_wp2_with (go_at_call 160; refine (Tryz.strings_Compare _ _ _).mono ?_; rintro e w3 ⟨rfl, rfl⟩)
          go_ret
          exact ⟨ret_int (by unfold cmpV cmpC; rw [if_neg (by rw [HK.out]; simp), if_neg E1.out, if_pos E2.out]), h1⟩
        · have E2 := Lib.hid e2
          have e2' : (a.cl.k == 2) = false := by simpa using e2
          clear e2
          go_wp2
          go_ret
          exact ⟨ret_int (by unfold cmpV cmpC; rw [if_neg (by rw [HK.out]; simp), if_neg E1.out, if_neg E2.out]), h1⟩
    · have HK := Lib.hid hk
      have hk' : (a.cl.k != b.cl.k) = true := by simpa using hk
      clear hk
      go_wp2_with (go_at_call 158; refine (Tryz.cmp_Compare_int _ _ _).mono ?_; rintro e w3 ⟨rfl, rfl⟩)
      go_ret
      exact ⟨ret_int (by unfold cmpV cmpC; rw [if_pos HK.out]), h1⟩
theorem lenient_c (op : Int) (a b c : V) (w : World) : Calls Tryz.prog 57 #[.int .i64 op, .agg #[.int .i64 a.k, .int .i64 a.n, .string a.s], .agg #[.int .i64 b.k, .int .i64 b.n, .string b.s], .agg #[.int .i64 c.k, .int .i64 c.n, .string c.s]] w fun e w' => e = .returned (.agg #[.int .i64 (lenientV op a b c).k, .int .i64 (lenientV op a b c).n, .string (lenientV op a b c).s]) ∧ Below w.heap.size w w' := by
  have HE := Lib.hid (show lenientV op a b c = if op = 14 then andV a b else if op = 15 then orV a b else if op = 16 then truthV (a.k == 0) else if op = 17 then (if a.k = 0 then b else a) else if isTrueV a = true then b else c from rfl)
  generalize lenientV op a b c = r at HE
  by_cases h14 : op = 14
  · have t14 : (op == 14) = true := by simpa using h14
    have HR := Lib.hid (show r = andV a b by rw [HE.out, if_pos h14])
    clear h14
    go_enter Tryz.func57, Tryz.ntmps57
    go_wp2_with (go_at_call 98; refine (and_c a b _).mono ?_; rintro e w1 ⟨rfl, hb1⟩; obtain ⟨hc1, hf1⟩ := bcell hb1; have hz1 := (hb1).size; (try simp at hz1); have hl10 : w.heap.size < w1.heap.size := (by omega); have hl11 : w.heap.size + 1 < w1.heap.size := (by omega); have hl12 : w.heap.size + 1 + 1 < w1.heap.size := (by omega); have hl13 : w.heap.size + 1 + 1 + 1 < w1.heap.size := (by omega))
    refine bodyPost_ret (by simp [results, Tryz.results57, go_sem, *]; rfl) rfl ?_
    rw [HR.out]
    exact ⟨rfl, by (exact belQ)⟩
  have t14 : (op == 14) = false := by simpa using h14
  rw [if_neg h14] at HE
  clear h14
  by_cases h15 : op = 15
  · have t15 : (op == 15) = true := by simpa using h15
    have HR := Lib.hid (show r = orV a b by rw [HE.out, if_pos h15])
    clear h15
    go_enter Tryz.func57, Tryz.ntmps57
    go_wp2_with (go_at_call 99; refine (or_c a b _).mono ?_; rintro e w1 ⟨rfl, hb1⟩; obtain ⟨hc1, hf1⟩ := bcell hb1; have hz1 := (hb1).size; (try simp at hz1); have hl10 : w.heap.size < w1.heap.size := (by omega); have hl11 : w.heap.size + 1 < w1.heap.size := (by omega); have hl12 : w.heap.size + 1 + 1 < w1.heap.size := (by omega); have hl13 : w.heap.size + 1 + 1 + 1 < w1.heap.size := (by omega))
    refine bodyPost_ret (by simp [results, Tryz.results57, go_sem, *]; rfl) rfl ?_
    rw [HR.out]
    exact ⟨rfl, by (exact belQ)⟩
  have t15 : (op == 15) = false := by simpa using h15
  rw [if_neg h15] at HE
  clear h15
  by_cases h16 : op = 16
  · have t16 : (op == 16) = true := by simpa using h16
    have HR := Lib.hid (show r = truthV (a.k == 0) by rw [HE.out, if_pos h16])
    clear h16
    go_enter Tryz.func57, Tryz.ntmps57
    go_wp2_with (go_at_call 100; refine (truth_c _ _).mono ?_; rintro e w1 ⟨rfl, hb1⟩; obtain ⟨hc1, hf1⟩ := bcell hb1; have hz1 := (hb1).size; (try simp at hz1); have hl10 : w.heap.size < w1.heap.size := (by omega); have hl11 : w.heap.size + 1 < w1.heap.size := (by omega); have hl12 : w.heap.size + 1 + 1 < w1.heap.size := (by omega); have hl13 : w.heap.size + 1 + 1 + 1 < w1.heap.size := (by omega))
    refine bodyPost_ret (by simp [results, Tryz.results57, go_sem, *]; rfl) rfl ?_
    rw [HR.out]
    exact ⟨rfl, by (exact belQ)⟩
  have t16 : (op == 16) = false := by simpa using h16
  rw [if_neg h16] at HE
  clear h16
  by_cases h17 : op = 17
  · have t17 : (op == 17) = true := by simpa using h17
    rw [if_pos h17] at HE
    clear h17
    by_cases hk : a.k = 0
    · have tk : (a.k == 0) = true := by simpa using hk
      rw [if_pos hk] at HE
      clear hk
      go_enter Tryz.func57, Tryz.ntmps57
      go_wp2_with fail
      refine bodyPost_ret (by simp [results, Tryz.results57, go_sem, *]; rfl) rfl ?_
      rw [HE.out]
      exact ⟨rfl, by (exact belQ)⟩
    · have tk : (a.k == 0) = false := by simpa using hk
      rw [if_neg hk] at HE
      clear hk
      go_enter Tryz.func57, Tryz.ntmps57
      go_wp2_with fail
      refine bodyPost_ret (by simp [results, Tryz.results57, go_sem, *]; rfl) rfl ?_
      rw [HE.out]
      exact ⟨rfl, by (exact belQ)⟩
  have t17 : (op == 17) = false := by simpa using h17
  rw [if_neg h17] at HE
  clear h17
  have hT := isTrue_c a
  generalize isTrueV a = ta at hT HE
  cases ta
  · have HR := Lib.hid (show r = c from HE.out)
    go_enter Tryz.func57, Tryz.ntmps57
    go_wp2_with (go_at_call 101; refine (hT _).mono ?_; rintro e w1 ⟨rfl, hb1⟩; obtain ⟨hc1, hf1⟩ := bcell hb1; have hz1 := (hb1).size; (try simp at hz1); have hl10 : w.heap.size < w1.heap.size := (by omega); have hl11 : w.heap.size + 1 < w1.heap.size := (by omega); have hl12 : w.heap.size + 1 + 1 < w1.heap.size := (by omega); have hl13 : w.heap.size + 1 + 1 + 1 < w1.heap.size := (by omega))
    refine bodyPost_ret (by simp [results, Tryz.results57, go_sem, *]; rfl) rfl ?_
    rw [HR.out]
    exact ⟨rfl, by (exact belQ)⟩
  · have HR := Lib.hid (show r = b from HE.out)
    go_enter Tryz.func57, Tryz.ntmps57
    go_wp2_with (go_at_call 101; refine (hT _).mono ?_; rintro e w1 ⟨rfl, hb1⟩; obtain ⟨hc1, hf1⟩ := bcell hb1; have hz1 := (hb1).size; (try simp at hz1); have hl10 : w.heap.size < w1.heap.size := (by omega); have hl11 : w.heap.size + 1 < w1.heap.size := (by omega); have hl12 : w.heap.size + 1 + 1 < w1.heap.size := (by omega); have hl13 : w.heap.size + 1 + 1 + 1 < w1.heap.size := (by omega))
    refine bodyPost_ret (by simp [results, Tryz.results57, go_sem, *]; rfl) rfl ?_
    rw [HR.out]
    exact ⟨rfl, by (exact belQ)⟩
theorem cell_c (A : Option Addr) (n c : Nat) (row : List V) (k : Int) (w : World) (_hn : n ≤ maxLen) (hk : 0 ≤ k) (hr : Row w w.heap.size A n row) : Calls Tryz.prog 56 #[.slice A n c, .int .i64 k] w fun e w' => e = .returned (.agg #[.int .i64 (cellV row k).k, .int .i64 (cellV row k).n, .string (cellV row k).s]) ∧ Below w.heap.size w w' := by
  unfold maxLen at _hn
  have hl := hr.len
  by_cases h : k ≥ row.length
  · have HR := Lib.hid (show cellV row k = V.null by unfold cellV; rw [if_pos h])
    have h1 : (n : Int) ≤ k := by omega
    clear h hl
    go_enter Tryz.func56, Tryz.ntmps56
    go_wp2_with fail
    refine bodyPost_ret (by simp [results, Tryz.results56, go_sem, *]; rfl) rfl ?_
    rw [HR.out]
    exact ⟨rfl, by (exact belQ)⟩
  · have h1 : ¬ (n : Int) ≤ k := by omega
    have h2 : k < (n : Int) := by omega
    obtain ⟨i, rfl⟩ := Int.eq_ofNat_of_zero_le hk
    obtain ⟨b, off, v, rfl, hb, hv, c0, c1, c2⟩ := Row.at3 hr (show i < n by omega)
    have HR := Lib.hid (show cellV row (i : Int) = v.cl by unfold cellV; rw [if_neg h, Int.toNat_natCast, hv]; rfl)
    clear h hl hv
    go_enter Tryz.func56, Tryz.ntmps56
    go_wp2_with (go_at_call 97; refine (vclean v _).mono ?_; rintro e w1 ⟨rfl, hb1⟩; obtain ⟨hc1, hf1⟩ := bcell hb1; have hz1 := (hb1).size; (try simp at hz1); have hl10 : w.heap.size < w1.heap.size := (by omega))
    refine bodyPost_ret (by simp [results, Tryz.results56, go_sem, *]; rfl) rfl ?_
    rw [HR.out]
    exact ⟨rfl, by (exact belQ)⟩
theorem ofText_c (op : Int) (a b : V) (w : World) (ha : a.s.size ≤ 1000) (hb : b.s.size ≤ 1000) : Calls Tryz.prog 58 #[.int .i64 op, .agg #[.int .i64 a.k, .int .i64 a.n, .string a.s], .agg #[.int .i64 b.k, .int .i64 b.n, .string b.s]] w fun e w' => e = .returned (.agg #[.int .i64 (textV op a b).k, .int .i64 (textV op a b).n, .string (textV op a b).s]) ∧ Below w.heap.size w w' := by
  have HE := Lib.hid (show textV op a b = if a.k ≠ 2 then V.null else if op = 9 then numV a.s.size else if op = 8 ∧ b.k = 2 ∧ a.s.size + b.s.size ≤ 32 then ⟨2, 0, a.s ++ b.s⟩ else if op = 10 ∧ b.k = 1 ∧ 0 ≤ b.n then ⟨2, 0, a.s.extract 0 (min b.n a.s.size).toNat⟩ else V.null from rfl)
  generalize textV op a b = r at HE
  have hsw : IntKind.i64.wrap (a.s.size : Int) = (a.s.size : Int) := IntWalk.i64_in _ (by omega)
  have hsw2 : IntKind.i64.wrap ((a.s.size : Int) + (b.s.size : Int)) = (a.s.size : Int) + (b.s.size : Int) := IntWalk.i64_in _ (by omega)
  have hadd : ∀ w, (Op.stringOp .add a.s b.s).run Tryz.prog w = .ok (.string (a.s ++ b.s)) w := fun w => run_string_add_sum w _ _ (by omega)
  by_cases hk : a.k = 2
  case neg =>
    have tk : (a.k != 2) = true := by simpa using hk
    rw [if_pos hk] at HE
    clear hk
    go_enter Tryz.func58, Tryz.ntmps58
    go_wp2_with fail
    refine bodyPost_ret (by simp [results, Tryz.results58, go_sem, *]; rfl) rfl ?_
    rw [HE.out]
    exact ⟨rfl, by (exact belQ)⟩
  have tk : (a.k != 2) = false := by simpa using hk
  rw [if_neg (by simpa using hk)] at HE
  clear hk
  by_cases h9 : op = 9
  · have t9 : (op == 9) = true := by simpa using h9
    rw [if_pos h9] at HE
    clear h9
    go_enter Tryz.func58, Tryz.ntmps58
    go_wp2_with (go_at_call 102; refine (number_c _ _).mono ?_; rintro e w1 ⟨rfl, hb1⟩; obtain ⟨hc1, hf1⟩ := bcell hb1; have hz1 := (hb1).size; (try simp at hz1); have hl10 : w.heap.size < w1.heap.size := (by omega); have hl11 : w.heap.size + 1 < w1.heap.size := (by omega); have hl12 : w.heap.size + 1 + 1 < w1.heap.size := (by omega))
    refine bodyPost_ret (by simp [results, Tryz.results58, go_sem, *]; rfl) rfl ?_
    rw [HE.out]
    exact ⟨rfl, by (exact belQ)⟩
  have t9 : (op == 9) = false := by simpa using h9
  rw [if_neg h9] at HE
  clear h9
  by_cases h8 : op = 8
  · have t8 : (op == 8) = true := by simpa using h8
    have t10 : (op == 10) = false := by simp; omega
    rw [if_neg (show ¬ (op = 10 ∧ b.k = 1 ∧ 0 ≤ b.n) by omega)] at HE
    by_cases hk : b.k = 2
    · have tk2 : (b.k == 2) = true := by simpa using hk
      by_cases hs : a.s.size + b.s.size ≤ 32
      · have ts : (a.s.size : Int) + (b.s.size : Int) ≤ 32 := by omega
        rw [if_pos ⟨h8, hk, hs⟩] at HE
        clear h8 hk hs
        go_enter Tryz.func58, Tryz.ntmps58
        go_wp2_with fail
        refine bodyPost_ret (by simp [results, Tryz.results58, go_sem, *]; rfl) rfl ?_
        rw [HE.out]
        exact ⟨rfl, by (exact belQ)⟩
      · have ts : ¬ (a.s.size : Int) + (b.s.size : Int) ≤ 32 := by omega
        rw [if_neg (fun h => hs h.2.2)] at HE
        clear h8 hk hs
        go_enter Tryz.func58, Tryz.ntmps58
        go_wp2_with fail
        refine bodyPost_ret (by simp [results, Tryz.results58, go_sem, *]; rfl) rfl ?_
        rw [HE.out]
        exact ⟨rfl, by (exact belQ)⟩
    · have tk2 : (b.k == 2) = false := by simpa using hk
      rw [if_neg (fun h => hk h.2.1)] at HE
      clear h8 hk
      go_enter Tryz.func58, Tryz.ntmps58
      go_wp2_with fail
      refine bodyPost_ret (by simp [results, Tryz.results58, go_sem, *]; rfl) rfl ?_
      rw [HE.out]
      exact ⟨rfl, by (exact belQ)⟩
  have t8 : (op == 8) = false := by simpa using h8
  rw [if_neg (fun h => h8 h.1)] at HE
  clear h8
  by_cases h10 : op = 10
  · have t10 : (op == 10) = true := by simpa using h10
    by_cases hk : b.k = 1
    · have tk2 : (b.k == 1) = true := by simpa using hk
      by_cases hs : 0 ≤ b.n
      · rw [if_pos ⟨h10, hk, hs⟩] at HE
        clear h10 hk
        have hm0 : 0 ≤ min b.n (a.s.size : Int) := by omega
        have hm1 : min b.n (a.s.size : Int) ≤ (a.s.size : Int) := by omega
        have HM := Lib.hid hm0
        go_enter Tryz.func58, Tryz.ntmps58
        go_wp2_with fail
        refine bodyPost_ret (by simp [results, Tryz.results58, go_sem, *]; rfl) rfl ?_
        rw [HE.out]
        exact ⟨rfl, by (exact belQ)⟩
      · rw [if_neg (fun h => hs h.2.2)] at HE
        clear h10 hk
        go_enter Tryz.func58, Tryz.ntmps58
        go_wp2_with fail
        refine bodyPost_ret (by simp [results, Tryz.results58, go_sem, *]; rfl) rfl ?_
        rw [HE.out]
        exact ⟨rfl, by (exact belQ)⟩
    · have tk2 : (b.k == 1) = false := by simpa using hk
      rw [if_neg (fun h => hk h.2.1)] at HE
      clear h10 hk
      go_enter Tryz.func58, Tryz.ntmps58
      go_wp2_with fail
      refine bodyPost_ret (by simp [results, Tryz.results58, go_sem, *]; rfl) rfl ?_
      rw [HE.out]
      exact ⟨rfl, by (exact belQ)⟩
  have t10 : (op == 10) = false := by simpa using h10
  rw [if_neg (fun h => h10 h.1)] at HE
  clear h10
  go_enter Tryz.func58, Tryz.ntmps58
  go_wp2_with fail
  refine bodyPost_ret (by simp [results, Tryz.results58, go_sem, *]; rfl) rfl ?_
  rw [HE.out]
  exact ⟨rfl, by (exact belQ)⟩
theorem compare_c (op : Int) (a b : V) (w : World) : Calls Tryz.prog 59 #[.int .i64 op, .agg #[.int .i64 a.k, .int .i64 a.n, .string a.s], .agg #[.int .i64 b.k, .int .i64 b.n, .string b.s]] w fun e w' => e = .returned (.agg #[.int .i64 (compV op a b).k, .int .i64 (compV op a b).n, .string (compV op a b).s]) ∧ Below w.heap.size w w' := by
  have HE := Lib.hid (show compV op a b = if a.k = 0 ∨ a.k ≠ b.k then V.null else if op = 11 then truthV (a.beq b) else truthV (decide (cmpV a b < 0)) from rfl)
  generalize compV op a b = r at HE
  have he := run_eqV a.k a.n a.s b.k b.n b.s
  rw [show eqB a.k a.n a.s b.k b.n b.s = a.beq b from rfl] at he
  generalize a.beq b = q at he HE
  by_cases hk : a.k = 0
  · have tk : (a.k == 0) = true := by simpa using hk
    rw [if_pos (.inl hk)] at HE
    clear hk
    go_enter Tryz.func59, Tryz.ntmps59
    go_wp2_with fail
    refine bodyPost_ret (by simp [results, Tryz.results59, go_sem, *]; rfl) rfl ?_
    rw [HE.out]
    exact ⟨rfl, by (exact belQ)⟩
  have tk : (a.k == 0) = false := by simpa using hk
  by_cases hkk : a.k = b.k
  case neg =>
    have tkk : (a.k != b.k) = true := by simpa using hkk
    rw [if_pos (.inr hkk)] at HE
    clear hk hkk
    go_enter Tryz.func59, Tryz.ntmps59
    go_wp2_with fail
    refine bodyPost_ret (by simp [results, Tryz.results59, go_sem, *]; rfl) rfl ?_
    rw [HE.out]
    exact ⟨rfl, by (exact belQ)⟩
  have tkk : (a.k != b.k) = false := by simpa using hkk
  rw [if_neg (show ¬ (a.k = 0 ∨ a.k ≠ b.k) by rintro (h | h); exact hk h; exact h hkk)] at HE
  clear hk hkk
  by_cases h11 : op = 11
  · have t11 : (op == 11) = true := by simpa using h11
    rw [if_pos h11] at HE
    clear h11
    go_enter Tryz.func59, Tryz.ntmps59
    go_wp2_with (go_at_call 100; refine (truth_c _ _).mono ?_; rintro e w1 ⟨rfl, hb1⟩; obtain ⟨hc1, hf1⟩ := bcell hb1; have hz1 := (hb1).size; (try simp at hz1); have hl10 : w.heap.size < w1.heap.size := (by omega); have hl11 : w.heap.size + 1 < w1.heap.size := (by omega); have hl12 : w.heap.size + 1 + 1 < w1.heap.size := (by omega))
    refine bodyPost_ret (by simp [results, Tryz.results59, go_sem, *]; rfl) rfl ?_
    rw [HE.out]
    exact ⟨rfl, by (exact belQ)⟩
  · have t11 : (op == 11) = false := by simpa using h11
    rw [if_neg h11] at HE
    clear h11 he
    have hC := vcompare a b
    generalize cmpV a b = z at hC HE
    go_enter Tryz.func59, Tryz.ntmps59
    go_wp2_with (first
      | (go_at_call 103; refine (hC _).mono ?_; rintro e w1 ⟨rfl, hb1⟩; obtain ⟨hc1, hf1⟩ := bcell hb1; have hz1 := (hb1).size; (try simp at hz1); have hl10 : w.heap.size < w1.heap.size := (by omega); have hl11 : w.heap.size + 1 < w1.heap.size := (by omega); have hl12 : w.heap.size + 1 + 1 < w1.heap.size := (by omega))
      | (go_at_call 100; refine (truth_c _ _).mono ?_; rintro e w2 ⟨rfl, hb2⟩; obtain ⟨hc2, hf2⟩ := bcell hb2; have hz2 := (hb2).size; (try simp at hz2); have hl20 : w.heap.size < w2.heap.size := (by omega); have hl21 : w.heap.size + 1 < w2.heap.size := (by omega); have hl22 : w.heap.size + 1 + 1 < w2.heap.size := (by omega)))
    refine bodyPost_ret (by simp [results, Tryz.results59, go_sem, *]; rfl) rfl ?_
    rw [HE.out]
    exact ⟨rfl, by (exact belQ)⟩
end Go.Proofs.YtpnfbehbheddeaaGreatDoor
