/- Contracts over rows: ValidRow, long, CleanRow, Same. The rows are of fewer than a million values where new memory is made. -/
import Derived.Test.YtjlhapbahecpoaaDoorVa
namespace Go.Proofs.YtjlhapbahecpoaaDoor
open Go.RowKit

theorem take_any_succ {α : Type} (p : α → Bool) (l : List α) (k : Nat) (v : α) (h : l[k]? = some v) : (l.take (k + 1)).any p = ((l.take k).any p || p v) := by
  rw [List.take_add_one, h]; simp
theorem take_all_succ {α : Type} (p : α → Bool) (l : List α) (k : Nat) (v : α) (h : l[k]? = some v) : (l.take (k + 1)).all p = ((l.take k).all p && p v) := by
  rw [List.take_add_one, h]; simp
theorem any_of_at {α : Type} (p : α → Bool) (l : List α) (k : Nat) (v : α) (h : l[k]? = some v) (hp : p v = true) : l.any p = true :=
  List.any_eq_true.2 ⟨v, List.mem_of_getElem? h, hp⟩
theorem all_not_at {α : Type} (p : α → Bool) (l : List α) (k : Nat) (v : α) (h : l[k]? = some v) (hp : p v = false) : l.all p = false := by
  rw [Bool.eq_false_iff]
  intro h1
  have := List.all_eq_true.1 h1 v (List.mem_of_getElem? h)
  rw [hp] at this
  cases this

set_option maxHeartbeats 400000 in
theorem long_c (A : Option Addr) (n c : Nat) (vs : List V) (w : World) (hn : n ≤ maxLen) (hr : Row w w.heap.size A n vs) :
    Calls Tryd.prog 17 #[.slice A n c] w fun e w' => e = .returned (.bool (longB vs)) ∧ w = w' := by
  unfold maxLen at hn
  have HL := Lib.hid hr.len
  by_cases h40 : 40 < n
  · go_enter Tryd.func17, Tryd.ntmps17
    go_wp2
    go_ret
    exact ⟨by simp [longB, HL.out, h40], rfl⟩
  · go_enter Tryd.func17, Tryd.ntmps17
    go_wp2
    go_loop [3] (fun i => ∃ k : Nat, k ≤ n ∧ i = .int .i64 k ∧ Hid ((vs.take k).any (fun v => decide (200 < v.s.size)) = false)) (fun i => n - (intOf i).toNat)
    case atStart => exact ⟨0, Nat.zero_le _, rfl, rfl⟩
    case round =>
      obtain ⟨k, hk, rfl, hH⟩ := hrel
      by_cases hlt : k < n
      · obtain ⟨b, off, v, rfl, hb, hv, hc0, hc1, hc2⟩ := Row.at3 hr hlt
        have HV := Lib.hid hv
        clear hv hr
        go_wp2
        · have hs : 200 < (v.s.size : Int) := by assumption
          go_ret
          refine ⟨ret_bool ?_, rfl⟩
          have := any_of_at (fun v : V => decide (200 < v.s.size)) vs k v HV.out (by simp; omega)
          simp only [longB, this, Bool.or_true]
        · have hs : (v.s.size : Int) ≤ 200 := by assumption
          go_round
          case rel => exact ⟨k + 1, by omega, by go_num, by show _ = false; rw [take_any_succ _ _ _ _ HV.out, hH.out]; simp; omega⟩
          case measure => simp [intOf]; omega
      · go_wp2
        go_ret
        refine ⟨ret_bool ?_, rfl⟩
        have h1 := hH.out
        rw [List.take_of_length_le (by rw [HL.out]; omega)] at h1
        simp only [longB, h1, HL.out, Bool.or_false]
        simp; omega

set_option maxRecDepth 100000 in
set_option maxHeartbeats 400000 in
theorem cleanRow_c (A : Option Addr) (n c : Nat) (vs : List V) (w : World) (hn : n ≤ 1000000) (hr : Row w w.heap.size A n vs) :
    Calls Tryd.prog 36 #[.slice A n c] w fun e w' => ∃ v, e = .returned v ∧ w'.ownsRow w.heap.size 23 3 v n ((vs.map V.cl).flatMap V.cells) ∧ Below w.heap.size w w' := by
  have HL := Lib.hid hr.len
  go_enter Tryd.func36, Tryd.ntmps36
  go_wp2
  go_loopw [3, 4] (fun v i wr => ∃ k : Nat, k ≤ n ∧ i = .int .i64 k ∧ wr.ownsRow w.heap.size 23 3 v k (((vs.take k).map V.cl).flatMap V.cells) ∧ Below w.heap.size w wr) (fun _ i _ => n - (intOf i).toNat)
  case atStart => exact ⟨0, Nat.zero_le _, rfl, World.ownsRow_nil _ _ _ _, Below.refl _ _⟩
  case round =>
    obtain ⟨k, hk, rfl, hown, hbel⟩ := hrel
    by_cases hlt : k < n
    · obtain ⟨b, off, v, rfl, hb, hv, hc0, hc1, hc2⟩ := Row.at3 (hr.below hbel) hlt
      have HV := Lib.hid hv
      clear hv
      go_wp2_with (first
        | (go_at_call 21; refine (rclean v _).mono ?_; rintro e w1 ⟨rfl, hb1⟩)
        | (at_builtin; refine wpList_app rfl _ _ stV rfl rfl (own_below hown hb1) rfl (by simp) rfl (by simp [Value.oneCell']) (by omega) (Nat.le_trans hbel.size hb1.size) ?_; intro v' w2 hown' hg' hat'))
      have hbel' : Below w.heap.size w w2 := below_app (below_step hb1 hbel (Nat.le_refl _)) (own_below hown hb1) hg' (Nat.le_refl _) (Nat.le_trans hbel.size hb1.size)
      go_roundw
      case rel => exact ⟨k + 1, by omega, by go_num, by simpa [List.take_add_one, HV.out, V.cells] using hown', hbel'⟩
      case measure => simp [intOf]; omega
    · obtain rfl : k = n := by omega
      go_wp2
      go_ret
      exact ⟨_, rfl, by rw [List.take_of_length_le (by rw [HL.out]; omega)] at hown; exact hown, hbel⟩

set_option maxRecDepth 100000 in
set_option maxHeartbeats 400000 in
theorem vvalidRow (A : Option Addr) (n c : Nat) (vs : List V) (w : World) (hn : n ≤ maxLen) (hr : Row w w.heap.size A n vs) :
    Calls Tryd.prog 22 #[.slice A n c] w fun e w' => e = .returned (.bool (rowOk vs)) ∧ Below w.heap.size w w' := by
  unfold maxLen at hn
  have HL := Lib.hid hr.len
  by_cases h16 : 16 < n
  · go_enter Tryd.func22, Tryd.ntmps22
    go_wp2
    go_ret
    refine ⟨ret_bool ?_, Below.refl _ _⟩
    simp only [rowOk, HL.out]
    simp; omega
  · go_enter Tryd.func22, Tryd.ntmps22
    go_wp2
    go_loopw [10] (fun i wr => ∃ k : Nat, k ≤ n ∧ i = .int .i64 k ∧ Hid ((vs.take k).all V.ok = true) ∧ Below w.heap.size w wr) (fun i _ => n - (intOf i).toNat)
    case atStart => exact ⟨0, Nat.zero_le _, rfl, rfl, Below.refl _ _⟩
    case round =>
      obtain ⟨k, hk, rfl, hH, hbel⟩ := hrel
      have hzz := hbel.size
      by_cases hlt : k < n
      · obtain ⟨b, off, v, rfl, hb, hv, hc0, hc1, hc2⟩ := Row.at3 (hr.below hbel) hlt
        have HV := Lib.hid hv
        clear hv
        generalize hok : v.ok = bk
        have HK := Lib.hid hok
        clear hok
        cases bk
        · go_wp2_with (go_at_call 18; refine (vvalid v _).mono ?_; rintro e w1 ⟨rfl, hb1⟩; rw [HK.out])
          go_ret
          refine ⟨ret_bool ?_, by (repeat (first | (with_reducible exact Below.refl _ _) | (with_reducible assumption) | (with_reducible refine Below.drew ?_) | (with_reducible refine below_drewN ?_ _) | ((with_reducible refine Below.setCell ?_ ?_ _); rotate_left; (focus (first | (simp; done) | (simp; omega) | omega))) | ((with_reducible refine Below.alloc ?_ ?_ _); rotate_left; (focus (first | (simp; done) | (simp; omega) | omega))) | ((with_reducible apply below_step1); (focus (with_reducible assumption)))))⟩
          simp only [rowOk, all_not_at V.ok vs k v HV.out HK.out, Bool.and_false]
        · go_wp2_with (go_at_call 18; refine (vvalid v _).mono ?_; rintro e w1 ⟨rfl, hb1⟩; rw [HK.out])
          go_roundw
          case rel => exact ⟨k + 1, by omega, by go_num, by show _ = true; rw [take_all_succ _ _ _ _ HV.out, hH.out, HK.out]; rfl, by (repeat (first | (with_reducible exact Below.refl _ _) | (with_reducible assumption) | (with_reducible refine Below.drew ?_) | (with_reducible refine below_drewN ?_ _) | ((with_reducible refine Below.setCell ?_ ?_ _); rotate_left; (focus (first | (simp; done) | (simp; omega) | omega))) | ((with_reducible refine Below.alloc ?_ ?_ _); rotate_left; (focus (first | (simp; done) | (simp; omega) | omega))) | ((with_reducible apply below_step1); (focus (with_reducible assumption)))))⟩
          case measure => simp [intOf]; omega
      · go_wp2
        go_ret
        refine ⟨ret_bool ?_, hbel⟩
        have h1 := hH.out
        rw [List.take_of_length_le (by rw [HL.out]; omega)] at h1
        simp only [rowOk, h1, HL.out, Bool.and_true]
        simp; omega
end Go.Proofs.YtjlhapbahecpoaaDoor
