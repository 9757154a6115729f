/- Contract of the laws' light. No condition. -/
import Derived.Test.YtojcabnjodfdmaaDoorEa
import Derived.Test.YtojcabnjodfdmaaDoorGrow
namespace Go.Proofs.YtojcabnjodfdmaaDoor
open Go.RowKit

def smallT (t : T) : Bool := decide (t.v.s.size ≤ 100)
def smallV (v : V) : Bool := decide (v.s.size ≤ 100)
def lightB (es : List T) (row : List V) : Bool := (decide (es.length ≤ 80) && decide (row.length ≤ 20)) && (es.all smallT && row.all smallV)
theorem light_len {es : List T} {row : List V} (h : lightB es row = true) : es.length ≤ 80 ∧ row.length ≤ 20 := by
  simp only [lightB, Bool.and_eq_true, decide_eq_true_eq] at h
  exact h.1
set_option maxRecDepth 100000 in
set_option maxHeartbeats 1000000 in
theorem light_c (A R : Option Addr) (n c m d : Nat) (es : List T) (row : List V) (w : World) (hn : n ≤ maxLen) (hm : m ≤ maxLen) (hr : RowT w w.heap.size A n es) (hv : Row w w.heap.size R m row) : Calls Tryd.prog 13 #[.slice A n c, .slice R m d] w fun e w' => e = .returned (.bool (lightB es row)) ∧ w = w' := by
  unfold maxLen at hn hm
  have HN := Lib.hid hr.len
  have HM := Lib.hid hv.len
  by_cases h80 : 80 < n
  · have t1 : (80 : Int) < (n : Int) := by omega
    go_enter Tryd.func13, Tryd.ntmps13
    go_wp2
    go_ret
    exact ⟨ret_bool (by simp [lightB, HN.out]; omega), rfl⟩
  have t1 : ¬ (80 : Int) < (n : Int) := by omega
  by_cases h20 : 20 < m
  · have t2 : (20 : Int) < (m : Int) := by omega
    go_enter Tryd.func13, Tryd.ntmps13
    go_wp2
    go_ret
    exact ⟨ret_bool (by simp [lightB, HM.out]; omega), rfl⟩
  have t2 : ¬ (20 : Int) < (m : Int) := by omega
  go_enter Tryd.func13, Tryd.ntmps13
  go_wp2
  go_loop [5] (fun i => ∃ k : Nat, k ≤ n ∧ i = .int .i64 k ∧ Hid ((es.take k).all smallT = true)) (fun i => n - (intOf i).toNat)
  case atStart => exact ⟨0, Nat.zero_le _, rfl, rfl⟩
  case round =>
    obtain ⟨k, hk, rfl, hH⟩ := hrel
    by_cases hlt : k < n
    · obtain ⟨b, off, t, rfl, hb, ht, c0, c1, c2, c3, c4⟩ := RowT.at5 hr hlt
      have HT := Lib.hid ht
      clear ht
      have hk0 : (0 : Int) ≤ (k : Int) := by omega
      have hk1 : (k : Int) < (n : Int) := by omega
      by_cases hs : 100 < t.v.s.size
      · have ts : (100 : Int) < (t.v.s.size : Int) := by omega
        go_wp2
        go_ret
        have := all_not_at smallT es k t HT.out (by simp [smallT]; omega)
        exact ⟨ret_bool (by simp [lightB, this]), rfl⟩
      · have ts : ¬ (100 : Int) < (t.v.s.size : Int) := by omega
        go_wp2
        go_round
        case rel => exact ⟨k + 1, by omega, by go_num, by show _ = true; rw [take_all_succ _ _ _ _ HT.out, hH.out]; simp [smallT]; omega⟩
        case measure => simp [intOf]; omega
    · have HE := Lib.hid (show es.all smallT = true by
        have h1 := hH.out
        rwa [List.take_of_length_le (by rw [HN.out]; omega)] at h1)
      clear hH
      have hk1 : ¬ (k : Int) < (n : Int) := by omega
      go_wp2
      go_loop [6] (fun i => ∃ k : Nat, k ≤ m ∧ i = .int .i64 k ∧ Hid ((row.take k).all smallV = true)) (fun i => m - (intOf i).toNat)
      case atStart => exact ⟨0, Nat.zero_le _, rfl, rfl⟩
      case round =>
        obtain ⟨j, hj, rfl, hJ⟩ := hrel
        by_cases hlt2 : j < m
        · obtain ⟨b, off, v, rfl, hb, ht, c0, c1, c2⟩ := Row.at3 hv hlt2
          have HT := Lib.hid ht
          clear ht
          have hk0 : (0 : Int) ≤ (j : Int) := by omega
          have hk2 : (j : Int) < (m : Int) := by omega
          by_cases hs : 100 < v.s.size
          · have ts : (100 : Int) < (v.s.size : Int) := by omega
            go_wp2
            go_ret
            have := all_not_at smallV row j v HT.out (by simp [smallV]; omega)
            exact ⟨ret_bool (by simp [lightB, this]), rfl⟩
          · have ts : ¬ (100 : Int) < (v.s.size : Int) := by omega
            go_wp2
            go_round
            case rel => exact ⟨j + 1, by omega, by go_num, by show _ = true; rw [take_all_succ _ _ _ _ HT.out, hJ.out]; simp [smallV]; omega⟩
            case measure => simp [intOf]; omega
        · have hk2 : ¬ (j : Int) < (m : Int) := by omega
          go_wp2
          go_ret
          have h1 := hJ.out
          rw [List.take_of_length_le (by rw [HM.out]; omega)] at h1
          refine ⟨ret_bool ?_, rfl⟩
          unfold lightB
          rw [h1, HE.out, HN.out, HM.out]
          simp
          omega
end Go.Proofs.YtojcabnjodfdmaaDoor
