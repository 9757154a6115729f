/- Contract of the tape's Edit: a string comes back that is at most one byte longer; only the tape's own block has changed. -/
import Derived.Test.YtmbegmhgiekofaaDoorTc
import Derived.Test.YtmbegmhgiekofaaDoorVh
namespace Go.Proofs.YtmbegmhgiekofaaDoor
open Go.RowKit
def EditPost (w : World) (b g m : Nat) (e : Ending) (w' : World) : Prop :=
  ∃ s : ByteArray, e = .returned (.string s) ∧ s.size ≤ m + 1 ∧ Tp w' b g ∧ w.grownBy w' (some b)
def isU8 : Value → Bool | .int .u8 n => decide (0 ≤ n ∧ n < 256) | _ => false
theorem bytes_at' (cs : Array Value) (h : cs.toList.all isU8 = true) (r : Nat) (hr : r < cs.size) : ∃ c : UInt8, cs[r]? = some (.int .u8 c.toNat) := by
  have h1 := List.all_eq_true.1 h cs[r] (by simp)
  have h2 : cs[r]? = some cs[r] := Array.getElem?_eq_getElem hr
  cases hv : cs[r] with
  | int k n =>
    cases k <;> first | (exfalso; rw [hv] at h1; cases h1; done) | skip
    rw [hv] at h1
    simp only [isU8, decide_eq_true_eq] at h1
    refine ⟨UInt8.ofNat n.toNat, ?_⟩
    rw [h2, hv, UInt8.toNat_ofNat', Nat.mod_eq_of_lt (by omega)]
    congr 2
    omega
  | _ => rw [hv] at h1; cases h1
theorem bytes_cell {w : World} {b : Nat} {cs : Array Value} (hc : ∀ i, w.cell? ⟨b, i, none⟩ = cs[i]?) (h : cs.toList.all isU8 = true) (r : Nat) (hr : r < cs.size) : ∃ c : UInt8, w.cell? ⟨b, r, none⟩ = some (.int .u8 c.toNat) := by
  obtain ⟨s, hs⟩ := bytes_at' cs h r hr
  exact ⟨s, (hc r).trans hs⟩
set_option maxRecDepth 100000 in
set_option maxHeartbeats 1000000 in
theorem tedit (b g : Nat) (s : ByteArray) (w : World) (hs : s.size ≤ 100000) (h : Tp w b g) : Calls Tryd.prog 14 #[.pointer (some ⟨b, 0, none⟩), .string s] w (EditPost w b g s.size) := by
  have hlt := h.lt
  have hltg := h.ltg
  go_enter Tryd.func14, Tryd.ntmps14
  go_wp2_with fail
  refine (next_c b g _ _ (by omega) h).mono ?_
  rintro e w1 ⟨r, rfl, hr, ht1, hg1, hz1⟩
  clear hz1
  have hlt1 := ht1.lt
  have hltg1 := ht1.ltg
  go_wp2_with fail
  refine (next_c b g 16 _ (by omega) (ht1.alloc _)).mono ?_
  rintro e w2 ⟨r2, rfl, hr2, ht2, hg2, hz2⟩
  clear hz2
  have q0 := (hg2.block w1.heap.size (by simp) (by simp; omega)).trans (heap_alloc_new _ _)
  obtain ⟨c0, f0⟩ := blk_rules q0
  obtain ⟨ch, hch⟩ := bytes_cell c0 rfl r2 (show r2 < 16 by omega)
  have hr0 : (0 : Int) ≤ (r2 : Int) := by omega
  have hr16 : (r2 : Int) < 16 := by omega
  have hts := run_toStr1 ch
  clear q0 c0 f0
  go_wp2_with fail
  refine (next_c b g 5 _ (by omega) (ht2.alloc _)).mono ?_
  rintro e w3 ⟨r3, rfl, hr3, ht3, hg3, hz3⟩
  clear hts hch hz3
  have hG : w.grownBy w3 (some b) := grown_trans hg1 (grown_trans (grown_alloc hg2) (grown_alloc hg3))
  have hrs : r ≤ s.size := by omega
  clear hr hr2 hg1 hg2 hg3 ht1 ht2
  have hcl : (⟨#[ch]⟩ : ByteArray).size = 1 := rfl
  obtain ⟨cs, hcs⟩ : ∃ cs, (⟨#[ch]⟩ : ByteArray) = cs := ⟨_, rfl⟩
  rw [hcs] at hcl ⊢
  have HCL := Lib.hid hcl
  have ha0 : (0 : Int) ≤ (r : Int) := by omega
  have ha1 : (r : Int) ≤ (s.size : Int) := by omega
  obtain ⟨lo, hlo⟩ : ∃ lo, s.extract 0 r = lo := ⟨_, rfl⟩
  obtain ⟨hi, hhi⟩ : ∃ hi, s.extract r s.size = hi := ⟨_, rfl⟩
  have hlz : lo.size = r := by rw [← hlo, Lib.size_eq, Lib.extract_data]; simp; omega
  have hhz : hi.size = s.size - r := by rw [← hhi, Lib.size_eq, Lib.extract_data]; simp
  have HLZ := Lib.hid hlz
  have HHZ := Lib.hid hhz
  clear hlz hhz hcl hcs
  have hc1 : ∀ w, (Op.stringOp .add s cs).run Tryd.prog w = .ok (.string (s ++ cs)) w := fun w => run_string_add_sum w _ _ (by have := HCL.out; omega)
  have hc2 : ∀ w, (Op.stringOp .add lo cs).run Tryd.prog w = .ok (.string (lo ++ cs)) w := fun w => run_string_add_sum w _ _ (by have := HCL.out; have := HLZ.out; omega)
  have hc3 : ∀ w, (Op.stringOp .add (lo ++ cs) hi).run Tryd.prog w = .ok (.string (lo ++ cs ++ hi)) w := fun w => run_string_add_sum w _ _ (by rw [ByteArray.size_append]; have := HCL.out; have := HLZ.out; have := HHZ.out; omega)
  by_cases d0 : r3 = 0
  · have t0 : ((r3 : Int) == 0) = true := by simp; omega
    clear d0
    go_wp2_with fail
    go_ret
    exact ⟨s, rfl, by omega, ht3, hG⟩
  have t0 : ((r3 : Int) == 0) = false := by simp; omega
  by_cases d1 : r3 = 1
  · have t1 : ((r3 : Int) == 1) = true := by simp; omega
    clear d0 d1
    go_wp2_with fail
    go_quiet (fail)
    go_wp2_with fail
    go_ret
    exact ⟨_, rfl, by rw [ByteArray.size_append, ByteArray.size_append]; have := HCL.out; have := HLZ.out; have := HHZ.out; omega, ht3.drewN _, only_drewN hG _⟩
  have t1 : ((r3 : Int) == 1) = false := by simp; omega
  by_cases hat : r < s.size
  · have ha2 : (r : Int) < (s.size : Int) := by omega
    have ha3 : (r : Int) + 1 ≤ (s.size : Int) := by omega
    have ha4 : (0 : Int) ≤ (r : Int) + 1 := by omega
    have ha5 : ((r : Int) + 1).toNat = r + 1 := by omega
    obtain ⟨hj, hhj⟩ : ∃ hi, s.extract (r + 1) s.size = hi := ⟨_, rfl⟩
    have hjz : hj.size = s.size - (r + 1) := by rw [← hhj, Lib.size_eq, Lib.extract_data]; simp
    have HJZ := Lib.hid hjz
    clear hjz
    have hc4 : ∀ w, (Op.stringOp .add lo hj).run Tryd.prog w = .ok (.string (lo ++ hj)) w := fun w => run_string_add_sum w _ _ (by have := HLZ.out; have := HJZ.out; omega)
    have hc5 : ∀ w, (Op.stringOp .add (lo ++ cs) hj).run Tryd.prog w = .ok (.string (lo ++ cs ++ hj)) w := fun w => run_string_add_sum w _ _ (by rw [ByteArray.size_append]; have := HCL.out; have := HLZ.out; have := HJZ.out; omega)
    by_cases d2 : r3 = 2
    · have t2 : ((r3 : Int) == 2) = true := by simp; omega
      clear d0 d1 d2
      go_wp2_with fail
      go_quiet (fail)
      go_wp2_with fail
      go_ret
      exact ⟨_, rfl, by rw [ByteArray.size_append]; have := HLZ.out; have := HJZ.out; omega, ht3.drewN _, only_drewN hG _⟩
    · have t2 : ((r3 : Int) == 2) = false := by simp; omega
      clear d0 d1 d2
      go_wp2_with fail
      go_quiet (fail)
      go_wp2_with fail
      go_ret
      exact ⟨_, rfl, by rw [ByteArray.size_append, ByteArray.size_append]; have := HCL.out; have := HLZ.out; have := HJZ.out; omega, ht3.drewN _, only_drewN hG _⟩
  · have ha2 : ¬ (r : Int) < (s.size : Int) := by omega
    by_cases d2 : r3 = 2
    · have t2 : ((r3 : Int) == 2) = true := by simp; omega
      clear d0 d1 d2
      go_wp2_with fail
      go_ret
      exact ⟨_, rfl, by rw [ByteArray.size_append]; have := HCL.out; omega, ht3, hG⟩
    · have t2 : ((r3 : Int) == 2) = false := by simp; omega
      clear d0 d1 d2
      go_wp2_with fail
      go_ret
      exact ⟨_, rfl, by rw [ByteArray.size_append]; have := HCL.out; omega, ht3, hG⟩
end Go.Proofs.YtmbegmhgiekofaaDoor
