/- Contracts of names: isLetter, isDigit, nameLength and IsName of the program; letter, decimal, inName and IsName of the reference. Strings of at most 2^40 bytes. -/
import Derived.Test.YtmbegmhgiekofaaDoorLWk
import Derived.Test.YtmbegmhgiekofaaDoorVg
import Derived.Test.YtmbegmhgiekofaaDoorOwnStr
namespace Go.Proofs.YtmbegmhgiekofaaDoor
open Go.RowKit

set_option maxHeartbeats 400000 in
theorem xletter (c : UInt8) (w : World) : Calls Tryd.prog 42 #[.int .u8 c.toNat] w fun e w' => e = .returned (.bool (isLet c)) ∧ w = w' := by
  by_cases h1 : (97 : Int) ≤ (c.toNat : Int)
  · by_cases h2 : (c.toNat : Int) ≤ 122
    · have HR := Lib.hid (show isLet c = true by simp [isLet]; omega)
      go_enter Tryd.func42, Tryd.ntmps42
      go_wp2_with fail
      go_ret
      exact ⟨ret_bool HR.out.symm, rfl⟩
    · have HR := Lib.hid (show isLet c = false by simp [isLet]; omega)
      go_enter Tryd.func42, Tryd.ntmps42
      go_wp2_with fail
      go_ret
      exact ⟨ret_bool HR.out.symm, rfl⟩
  · have HR := Lib.hid (show isLet c = false by simp [isLet]; omega)
    go_enter Tryd.func42, Tryd.ntmps42
    go_wp2_with fail
    go_ret
    exact ⟨ret_bool HR.out.symm, rfl⟩
set_option maxHeartbeats 400000 in
theorem xdigit (c : UInt8) (w : World) : Calls Tryd.prog 44 #[.int .u8 c.toNat] w fun e w' => e = .returned (.bool (isDig c)) ∧ w = w' := by
  by_cases h1 : (48 : Int) ≤ (c.toNat : Int)
  · by_cases h2 : (c.toNat : Int) ≤ 57
    · have HR := Lib.hid (show isDig c = true by simp [isDig]; omega)
      go_enter Tryd.func44, Tryd.ntmps44
      go_wp2_with fail
      go_ret
      exact ⟨ret_bool HR.out.symm, rfl⟩
    · have HR := Lib.hid (show isDig c = false by simp [isDig]; omega)
      go_enter Tryd.func44, Tryd.ntmps44
      go_wp2_with fail
      go_ret
      exact ⟨ret_bool HR.out.symm, rfl⟩
  · have HR := Lib.hid (show isDig c = false by simp [isDig]; omega)
    go_enter Tryd.func44, Tryd.ntmps44
    go_wp2_with fail
    go_ret
    exact ⟨ret_bool HR.out.symm, rfl⟩
set_option maxHeartbeats 400000 in
theorem rletter (c : UInt8) (w : World) : Calls Tryd.prog 32 #[.int .u8 c.toNat] w fun e w' => e = .returned (.bool (isLet c)) ∧ w = w' := by
  by_cases h1 : (97 : Int) ≤ (c.toNat : Int)
  · by_cases h2 : (c.toNat : Int) ≤ 122
    · have HR := Lib.hid (show isLet c = true by simp [isLet]; omega)
      go_enter Tryd.func32, Tryd.ntmps32
      go_wp2_with fail
      go_ret
      exact ⟨ret_bool HR.out.symm, rfl⟩
    · have HR := Lib.hid (show isLet c = false by simp [isLet]; omega)
      go_enter Tryd.func32, Tryd.ntmps32
      go_wp2_with fail
      go_ret
      exact ⟨ret_bool HR.out.symm, rfl⟩
  · have HR := Lib.hid (show isLet c = false by simp [isLet]; omega)
    go_enter Tryd.func32, Tryd.ntmps32
    go_wp2_with fail
    go_ret
    exact ⟨ret_bool HR.out.symm, rfl⟩
set_option maxHeartbeats 400000 in
theorem rdecimal (c : UInt8) (w : World) : Calls Tryd.prog 48 #[.int .u8 c.toNat] w fun e w' => e = .returned (.bool (isDig c)) ∧ w = w' := by
  by_cases h1 : (48 : Int) ≤ (c.toNat : Int)
  · by_cases h2 : (c.toNat : Int) ≤ 57
    · have HR := Lib.hid (show isDig c = true by simp [isDig]; omega)
      go_enter Tryd.func48, Tryd.ntmps48
      go_wp2_with fail
      go_ret
      exact ⟨ret_bool HR.out.symm, rfl⟩
    · have HR := Lib.hid (show isDig c = false by simp [isDig]; omega)
      go_enter Tryd.func48, Tryd.ntmps48
      go_wp2_with fail
      go_ret
      exact ⟨ret_bool HR.out.symm, rfl⟩
  · have HR := Lib.hid (show isDig c = false by simp [isDig]; omega)
    go_enter Tryd.func48, Tryd.ntmps48
    go_wp2_with fail
    go_ret
    exact ⟨ret_bool HR.out.symm, rfl⟩
theorem eq95 (c : UInt8) : ((c.toNat : Int) == 95) = (c == 95) := by
  rw [Bool.eq_iff_iff, beq_iff_eq, beq_iff_eq]
  constructor
  · intro h; exact UInt8.toNat_inj.1 (show c.toNat = (95 : UInt8).toNat from by show c.toNat = 95; omega)
  · rintro rfl; rfl
set_option maxHeartbeats 400000 in
theorem rinName (c : UInt8) (w : World) : Calls Tryd.prog 33 #[.int .u8 c.toNat] w fun e w' => e = .returned (.bool (inNm c)) ∧ w = w' := by
  have H95 := Lib.hid (eq95 c)
  have hA := fun w => rletter c w
  have hB := fun w => rdecimal c w
  have HN := Lib.hid (show inNm c = (isLet c || (isDig c || c == 95)) from rfl)
  generalize isLet c = a at hA HN
  generalize isDig c = b at hB HN
  generalize (c == 95) = d at H95 HN
  cases a
  · cases b
    · have t := H95.out
      go_enter Tryd.func33, Tryd.ntmps33
      go_wp2_with (first
        | (go_at_call 32; refine (hA _).mono ?_; rintro e w1 ⟨rfl, rfl⟩)
        | (go_at_call 48; refine (hB _).mono ?_; rintro e w1 ⟨rfl, rfl⟩))
      go_ret
      exact ⟨ret_bool (by rw [HN.out]; rfl), rfl⟩
    · go_enter Tryd.func33, Tryd.ntmps33
      go_wp2_with (first
        | (go_at_call 32; refine (hA _).mono ?_; rintro e w1 ⟨rfl, rfl⟩)
        | (go_at_call 48; refine (hB _).mono ?_; rintro e w1 ⟨rfl, rfl⟩))
      go_ret
      exact ⟨ret_bool (by rw [HN.out]; rfl), rfl⟩
  · go_enter Tryd.func33, Tryd.ntmps33
    go_wp2_with (first
      | (go_at_call 32; refine (hA _).mono ?_; rintro e w1 ⟨rfl, rfl⟩)
      | (go_at_call 48; refine (hB _).mono ?_; rintro e w1 ⟨rfl, rfl⟩))
    go_ret
    exact ⟨ret_bool (by rw [HN.out]; rfl), rfl⟩

set_option maxRecDepth 100000 in
set_option maxHeartbeats 1000000 in
theorem xnameLength (s : ByteArray) (w : World) (hs : s.size ≤ 1099511627776) : Calls Tryd.prog 31 #[.string s] w fun e w' => e = .returned (.int .i64 (nameLen s.data.toList : Int)) ∧ w = w' := by
  have HZ := Lib.hid (Lib.size_eq s)
  go_enter Tryd.func31, Tryd.ntmps31
  go_wp2_with fail
  go_loop [3] (fun i => ∃ k : Nat, k ≤ s.size ∧ i = .int .i64 k ∧ Hid (nmTo s.data.toList k)) (fun i => s.size - (intOf i).toNat)
  case atStart => exact ⟨0, Nat.zero_le _, rfl, nmTo.zero _⟩
  case round =>
    obtain ⟨k, hk, rfl, hH⟩ := hrel
    by_cases hlt : k < s.size
    · obtain ⟨c, hc⟩ : ∃ c, s.data.toList[k]? = some c := ⟨_, List.getElem?_eq_getElem (by rw [← HZ.out]; exact hlt)⟩
      have hix := run_idx hc
      have HNM := Lib.hid (nmAt_some hc)
      have h95 := eq95 c
      have hA := fun w => xletter c w
      have hB := fun w => xdigit c w
      have hk1 : (k : Int) < (s.size : Int) := by omega
      have hk0 : (0 : Int) ≤ (k : Int) := by omega
      generalize isLet c = a at hA HNM
      generalize isDig c = b at hB HNM
      generalize (c == 95) = d at h95 HNM
      clear hc
      cases a
      · by_cases h0 : 0 < k
        · have h0' : (0 : Int) < (k : Int) := by omega
          cases b
          · cases d
            · have HE := Lib.hid (nameLen_at _ k hH.out (by rw [HNM.out]; simp))
              go_wp2_with (first
                | (go_at_call 42; refine (hA _).mono ?_; rintro e w1 ⟨rfl, rfl⟩)
                | (go_at_call 44; refine (hB _).mono ?_; rintro e w1 ⟨rfl, rfl⟩))
              go_ret
              exact ⟨ret_int (by rw [HE.out]), rfl⟩
            · have HE := Lib.hid (nmTo.succ hH.out (show nmAt s.data.toList k = true by rw [HNM.out]; simpa using h0))
              go_wp2_with (first
                | (go_at_call 42; refine (hA _).mono ?_; rintro e w1 ⟨rfl, rfl⟩)
                | (go_at_call 44; refine (hB _).mono ?_; rintro e w1 ⟨rfl, rfl⟩))
              go_round
              case rel => exact ⟨k + 1, by omega, by go_num, HE⟩
              case measure => simp [intOf]; omega
          · have HE := Lib.hid (nmTo.succ hH.out (show nmAt s.data.toList k = true by rw [HNM.out]; simpa using h0))
            go_wp2_with (first
              | (go_at_call 42; refine (hA _).mono ?_; rintro e w1 ⟨rfl, rfl⟩)
              | (go_at_call 44; refine (hB _).mono ?_; rintro e w1 ⟨rfl, rfl⟩))
            go_round
            case rel => exact ⟨k + 1, by omega, by go_num, HE⟩
            case measure => simp [intOf]; omega
        · have h0' : ¬ (0 : Int) < (k : Int) := by omega
          have HE := Lib.hid (nameLen_at _ k hH.out (by rw [HNM.out]; simp; omega))
          go_wp2_with (first
            | (go_at_call 42; refine (hA _).mono ?_; rintro e w1 ⟨rfl, rfl⟩)
            | (go_at_call 44; refine (hB _).mono ?_; rintro e w1 ⟨rfl, rfl⟩))
          go_ret
          exact ⟨ret_int (by rw [HE.out]), rfl⟩
      · have HE := Lib.hid (nmTo.succ hH.out (show nmAt s.data.toList k = true by rw [HNM.out]; simp))
        go_wp2_with (first
          | (go_at_call 42; refine (hA _).mono ?_; rintro e w1 ⟨rfl, rfl⟩)
          | (go_at_call 44; refine (hB _).mono ?_; rintro e w1 ⟨rfl, rfl⟩))
        go_round
        case rel => exact ⟨k + 1, by omega, by go_num, HE⟩
        case measure => simp [intOf]; omega
    · have HE := Lib.hid (nameLen_at _ k hH.out (nmAt_none (by rw [← HZ.out]; omega)))
      have hk1 : ¬ (k : Int) < (s.size : Int) := by omega
      go_wp2_with fail
      go_ret
      exact ⟨ret_int (by rw [HE.out]), rfl⟩

theorem empty_iff (s : ByteArray) : s.toList.isEmpty = decide (s.data.toList = []) := by
  rw [Lib.toList_data, Bool.eq_iff_iff]
  simp
theorem isNameB_nil {s : List UInt8} (h : s = []) : isNameB s = false := by subst h; rfl
set_option maxHeartbeats 400000 in
theorem xisName (s : ByteArray) (w : World) (hs : s.size ≤ 1099511627776) : Calls Tryd.prog 19 #[.string s] w fun e w' => e = .returned (.bool (isNameB s.data.toList)) ∧ w = w' := by
  have hL := fun w => xnameLength s w hs
  by_cases h0 : s.data.toList = []
  · have te : s.toList.isEmpty = true := by rw [empty_iff]; simpa using h0
    have HR := Lib.hid (isNameB_nil h0)
    clear h0
    go_enter Tryd.func19, Tryd.ntmps19
    go_wp2_with fail
    go_ret
    exact ⟨ret_bool HR.out.symm, rfl⟩
  · have te : s.toList.isEmpty = false := by rw [empty_iff]; simpa using h0
    have HR := Lib.hid (show isNameB s.data.toList = (decide (s.data.toList.length ≤ 16) && decide (nameLen s.data.toList = s.data.toList.length)) by unfold isNameB; simp [h0])
    rw [← Lib.size_eq] at HR
    generalize nameLen s.data.toList = n at hL HR
    clear h0
    by_cases h16 : s.size ≤ 16
    · have t16 : (s.size : Int) ≤ 16 := by omega
      have HQ := Lib.hid (show ((n : Int) == (s.size : Int)) = decide (n = s.size) by rw [Bool.eq_iff_iff]; simp; omega)
      go_enter Tryd.func19, Tryd.ntmps19
      go_wp2_with (go_at_call 31; refine (hL _).mono ?_; rintro e w1 ⟨rfl, rfl⟩)
      go_ret
      exact ⟨ret_bool (by rw [HR.out, HQ.out]; simp [h16]), rfl⟩
    · have t16 : ¬ (s.size : Int) ≤ 16 := by omega
      go_enter Tryd.func19, Tryd.ntmps19
      go_wp2_with fail
      go_ret
      exact ⟨ret_bool (by rw [HR.out]; simp; omega), rfl⟩
end Go.Proofs.YtmbegmhgiekofaaDoor
