/- Contract of the reference's DecodeRow: strings of at most a hundred thousand bytes. -/
import Derived.Test.YtjlhapbahecpoaaDoorDg
namespace Go.Proofs.YtjlhapbahecpoaaDoor
open Go.RowKit

def ERel (w : World) (l : List UInt8) (r at_ : Value) (wr : World) : Prop := ∃ (k : Nat) (acc : List V), at_ = .int .i64 k ∧ k ≤ l.length ∧ OwnV wr w.heap.size r acc ∧ acc.length ≤ 16 ∧ Below w.heap.size w wr ∧ decRow l [] = decRow (l.drop k) acc
set_option maxRecDepth 100000 in
set_option maxHeartbeats 1000000 in
theorem rdecodeRow (s : ByteArray) (w : World) (hs : s.size ≤ 100000) : Calls Tryd.prog 38 #[.string s] w (DRowPost w (decRow s.data.toList [])) := by
  obtain ⟨X, hX⟩ : ∃ X, decRow s.data.toList [] = X := ⟨_, rfl⟩
  have HX := Lib.hid hX
  rw [hX]
  clear hX
  go_enter Tryd.func38, Tryd.ntmps38
  go_wp2_with fail
  go_loopw [4, 5] (fun r k wr => ERel w s.data.toList r k wr) (fun _ k _ => s.size - (intOf k).toNat)
  case atStart => exact ⟨0, [], rfl, by omega, OwnV.nil_ _ _, by simp, Below.refl _ _, rfl⟩
  case round =>
    obtain ⟨k, acc, rfl, hk, hown, hacc, hbel, hrow⟩ := hrel
    rw [← Lib.size_eq] at hk
    have hzz := hbel.size
    have HR := Lib.hid (HX.out.symm.trans hrow)
    clear hrow
    have hown0 := hown
    obtain ⟨A4, c4, rfl, _, _⟩ := own_slice hown0
    have HO := Lib.hid hown
    clear hown0 hown
    by_cases h0 : k = s.size
    · have h1 : ¬ (k : Int) < (s.size : Int) := by omega
      have hnil : s.data.toList.drop k = [] := List.drop_of_length_le (by rw [← Lib.size_eq]; omega)
      have HN := Lib.hid (by have := HR.out; rw [hnil, decRow_nil] at this; exact this)
      clear hnil h0
      go_wp2_with fail
      refine bodyPost_ret (by simp [results, Tryd.results38, go_sem]; rfl) rfl ?_
      rw [HN.out]
      exact ⟨_, rfl, HO.out, hbel⟩
    · have h1 : (k : Int) < (s.size : Int) := by omega
      have h2 : (k : Int) ≤ (s.size : Int) := by omega
      have h3 : (0 : Int) ≤ (k : Int) := by omega
      obtain ⟨st, hst⟩ : ∃ st, s.extract k s.size = st := ⟨_, rfl⟩
      have hsd : st.data.toList = s.data.toList.drop k := by rw [← hst]; exact drop_size s k
      have hsz : st.size = s.size - k := by rw [Lib.size_eq, hsd, List.length_drop, ← Lib.size_eq]
      have hne : st.data.toList ≠ [] := fun h => by
        have : st.size = 0 := by rw [Lib.size_eq, h]; rfl
        omega
      have HS := Lib.hid (fun h1 h2 => decRow_step (l := st.data.toList) hne h1 (acc := acc) h2)
      have HB := Lib.hid (fun h1 => decRow_bad (l := st.data.toList) hne h1 acc)
      have HF := Lib.hid (fun h1 => decRow_full (l := st.data.toList) hne (acc := acc) h1)
      have hD := fun w => rdecode_c st w (by omega) (by omega)
      have hdl := d0V_le st.data.toList
      rw [← Lib.size_eq] at hdl
      have hdd := dcV_d0 st.data.toList
      obtain ⟨x, hx⟩ : ∃ x, d0V st.data.toList = x := ⟨_, rfl⟩
      rw [hx] at hdl hdd hD
      have HDD := Lib.hid hdd
      have HSD := Lib.hid hsd
      have HSZ := Lib.hid hsz
      clear hne hx hdd hsd hsz
      obtain ⟨v, n⟩ := x
      simp only at hdl
      by_cases q0 : n = 0
      · have t0 : ((n : Int) == 0) = true := by simpa using q0
        have HQ := Lib.hid (show (dcV st.data.toList).2 = 0 by rw [HDD.out]; split <;> simp [q0])
        clear q0
        go_wp2_with (go_at_call 53; refine (hD _).mono ?_; rintro e w1 ⟨rfl, hb1⟩; obtain ⟨hc1, hf1⟩ := bcell hb1; have hz1 := (hb1).size; (try simp at hz1))
        refine bodyPost_ret (by simp [results, Tryd.results38, go_sem]; rfl) rfl ?_
        rw [HR.out, ← HSD.out, HB.out HQ.out]
        exact ⟨_, rfl, OwnV.nil_ _ _, by (repeat (first | (with_reducible exact Below.refl _ _) | (with_reducible assumption) | (with_reducible refine Below.drew ?_) | (with_reducible refine below_drewN ?_ _) | ((with_reducible refine Below.setCell ?_ ?_ _); rotate_left; (focus (first | (simp; done) | (simp; omega) | omega))) | ((with_reducible refine Below.alloc ?_ ?_ _); rotate_left; (focus (first | (simp; done) | (simp; omega) | omega))) | ((with_reducible apply below_step1); (focus (with_reducible assumption)))))⟩
      · have t0 : ((n : Int) == 0) = false := by simpa using q0
        have Q0 := Lib.hid q0
        clear q0
        cases hok : v.ok
        · have HK := Lib.hid hok
          have HQ := Lib.hid (show (dcV st.data.toList).2 = 0 by rw [HDD.out]; simp [hok])
          clear hok
          go_wp2_with (first
            | (go_at_call 53; refine (hD _).mono ?_; rintro e w1 ⟨rfl, hb1⟩; obtain ⟨hc1, hf1⟩ := bcell hb1; have hz1 := (hb1).size; (try simp at hz1))
            | (go_at_call 19; refine (rvalid v _).mono ?_; rintro e w2 ⟨rfl, hb2⟩; rw [HK.out]))
          refine bodyPost_ret (by simp [results, Tryd.results38, go_sem]; rfl) rfl ?_
          rw [HR.out, ← HSD.out, HB.out HQ.out]
          exact ⟨_, rfl, OwnV.nil_ _ _, by (repeat (first | (with_reducible exact Below.refl _ _) | (with_reducible assumption) | (with_reducible refine Below.drew ?_) | (with_reducible refine below_drewN ?_ _) | ((with_reducible refine Below.setCell ?_ ?_ _); rotate_left; (focus (first | (simp; done) | (simp; omega) | omega))) | ((with_reducible refine Below.alloc ?_ ?_ _); rotate_left; (focus (first | (simp; done) | (simp; omega) | omega))) | ((with_reducible apply below_step1); (focus (with_reducible assumption)))))⟩
        · have HK := Lib.hid hok
          have HQ := Lib.hid (show dcV st.data.toList = (v, n) by rw [HDD.out]; simp [hok])
          clear hok
          by_cases q1 : acc.length = 16
          · have t1 : ((acc.length : Int) == 16) = true := by simp; omega
            have Q1 := Lib.hid q1
            clear q1
            go_wp2_with (first
              | (go_at_call 53; refine (hD _).mono ?_; rintro e w1 ⟨rfl, hb1⟩; obtain ⟨hc1, hf1⟩ := bcell hb1; have hz1 := (hb1).size; (try simp at hz1))
              | (go_at_call 19; refine (rvalid v _).mono ?_; rintro e w2 ⟨rfl, hb2⟩; rw [HK.out]))
            refine bodyPost_ret (by simp [results, Tryd.results38, go_sem]; rfl) rfl ?_
            rw [HR.out, ← HSD.out, HF.out Q1.out]
            exact ⟨_, rfl, OwnV.nil_ _ _, by (repeat (first | (with_reducible exact Below.refl _ _) | (with_reducible assumption) | (with_reducible refine Below.drew ?_) | (with_reducible refine below_drewN ?_ _) | ((with_reducible refine Below.setCell ?_ ?_ _); rotate_left; (focus (first | (simp; done) | (simp; omega) | omega))) | ((with_reducible refine Below.alloc ?_ ?_ _); rotate_left; (focus (first | (simp; done) | (simp; omega) | omega))) | ((with_reducible apply below_step1); (focus (with_reducible assumption)))))⟩
          · have t1 : ((acc.length : Int) == 16) = false := by simp; omega
            have Q1 := Lib.hid q1
            clear q1
            have hkn : IntKind.i64.wrap ((k : Int) + (n : Int)) = (k : Int) + (n : Int) := IntWalk.i64_in _ (by have := HSZ.out; omega)
            go_wp2_with (first
              | (go_at_call 53; refine (hD _).mono ?_; rintro e w1 ⟨rfl, hb1⟩; obtain ⟨hc1, hf1⟩ := bcell hb1; have hz1 := (hb1).size; (try simp at hz1); have hl1 : w1.heap.size < w1.heap.size + 1 := (by omega))
              | (go_at_call 19; refine (rvalid v _).mono ?_; rintro e w2 ⟨rfl, hb2⟩; rw [HK.out]; have own2 := ((HO.out.below hb1).alloc (.cells #[.int .i64 v.k, .int .i64 v.n, .string v.s] 23)).below hb2; obtain ⟨hc2, hf2⟩ := bcell hb2; have hz2 := (hb2).size; (try simp at hz2))
              | (at_builtin; refine wpList_app (v := (.slice A4 acc.length c4)) rfl _ _ stV rfl rfl (own2) rfl (by simp) rfl (by simp [Value.oneCell']) (by omega) (by omega) ?_; intro v' w3 hown' hg' hat'))
            have hq := Q0.out
            have hq1 := Q1.out
            have hsz := HSZ.out
            have hbel2 : Below w.heap.size w w2 := by (repeat (first | (with_reducible exact Below.refl _ _) | (with_reducible assumption) | (with_reducible refine Below.drew ?_) | (with_reducible refine below_drewN ?_ _) | ((with_reducible refine Below.setCell ?_ ?_ _); rotate_left; (focus (first | (simp; done) | (simp; omega) | omega))) | ((with_reducible refine Below.alloc ?_ ?_ _); rotate_left; (focus (first | (simp; done) | (simp; omega) | omega))) | ((with_reducible apply below_step1); (focus (with_reducible assumption)))))
            refine ⟨⟨k + n, acc ++ [v], by go_num, by rw [← Lib.size_eq]; omega, OwnV.more hown', by simp; omega, below_app hbel2 own2 hg' (Nat.le_refl _) (by omega), ?_⟩, by simp [intOf]; omega⟩
            have := HS.out (by rw [HQ.out]; exact Q0.out) Q1.out
            rw [HX.out, HR.out, ← HSD.out, this, HQ.out, HSD.out, List.drop_drop]
end Go.Proofs.YtjlhapbahecpoaaDoor
