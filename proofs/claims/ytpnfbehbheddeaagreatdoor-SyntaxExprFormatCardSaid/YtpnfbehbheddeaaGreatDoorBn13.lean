/- Contracts of decimal, of the reference's digit and Number: strings of at most a hundred thousand bytes. -/
import Derived.Test.YtpnfbehbheddeaaGreatDoorBn02
import Derived.Test.YtpnfbehbheddeaaGreatDoorBn09
import Derived.Test.YtpnfbehbheddeaaGreatDoorBn12
namespace Go.Proofs.YtpnfbehbheddeaaGreatDoor
set_option maxRecDepth 100000
set_option maxHeartbeats 8000000
set_option linter.unusedVariables false
set_option linter.unusedSimpArgs false
open Go.RowKit
theorem indexByte_first : ∀ (l : List UInt8) (c : UInt8) (k : Nat), (∀ j, j < k → l[j]? ≠ some c) → l[k]? = some c → Lib.indexByte l c = k := by
  intro l
  induction l with
  | nil => intro c k _ h; simp at h
  | cons b l ih =>
    intro c k h1 h2
    cases k with
    | zero =>
      simp at h2
      subst h2
      simp [Lib.indexByte]
    | succ k =>
      have hb : ¬ b = c := fun e => h1 0 (by omega) (by simp [e])
      have := ih c k (fun j hj => by have := h1 (j + 1) (by omega); simpa using this) (by simpa using h2)
      have h3 : ¬ ((k : Int) = -1) := by omega
      simp [Lib.indexByte, hb, this, h3]
theorem indexByte_never : ∀ (l : List UInt8) (c : UInt8), (∀ j, j < l.length → l[j]? ≠ some c) → Lib.indexByte l c = -1 := by
  intro l
  induction l with
  | nil => intro c _; rfl
  | cons b l ih =>
    intro c h1
    have hb : ¬ b = c := fun e => h1 0 (by simp) (by simp [e])
    have := ih c (fun j hj => by have := h1 (j + 1) (by simp; omega); simpa using this)
    simp [Lib.indexByte, hb, this]
theorem digit_c (c : UInt8) (w : World) : Calls Tryz.prog 263 #[.int .u8 c.toNat] w fun e w' => e = .returned (.int .i64 (hexI c)) ∧ w = w' := by
  go_enter Tryz.func263, Tryz.ntmps263
  go_wp2_with fail
  go_loop [3] (fun i => ∃ k : Nat, k ≤ 16 ∧ i = .int .i64 k ∧ Hid (∀ j, j < k → hexL[j]? ≠ some c)) (fun i => 16 - (intOf i).toNat)
  case atStart => exact ⟨0, by omega, rfl, fun j hj => absurd hj (by omega)⟩
  case round =>
    obtain ⟨k, hk, rfl, hH⟩ := hrel
    by_cases hlt : k < 16
    · obtain ⟨d, hd⟩ : ∃ d, hexL[k]? = some d := ⟨_, List.getElem?_eq_getElem (show k < hexL.length from hlt)⟩
      have hix := run_idx (s := ⟨#[48, 49, 50, 51, 52, 53, 54, 55, 56, 57, 97, 98, 99, 100, 101, 102]⟩) (k := k) (c := d) hd
      have HD := Lib.hid hd
      have hk16 : (k : Int) < 16 := by omega
      clear hd
      by_cases q : d = c
      · have t1 : ((d.toNat : Int) == (c.toNat : Int)) = true := by simp [q]
        have HF := Lib.hid (indexByte_first hexL c k hH.out (q ▸ HD.out))
        clear q
        go_wp2_with fail
        go_ret
        exact ⟨ret_int HF.out.symm, rfl⟩
      · have t1 : ((d.toNat : Int) == (c.toNat : Int)) = false := by
          rw [beq_eq_false_iff_ne]
          intro h
          exact q (UInt8.toNat_inj.1 (by omega))
        have HQ := Lib.hid (show ∀ j, j < k + 1 → hexL[j]? ≠ some c from fun j hj => by
          rcases Nat.lt_succ_iff_lt_or_eq.1 hj with h | h
          · exact hH.out j h
          · subst h; rw [HD.out]; intro e; injection e with e; exact q e)
        clear q
        go_wp2_with fail
        exact ⟨⟨k + 1, by omega, by go_num, HQ⟩, by simp [intOf]; omega⟩
    · have hk16 : ¬ (k : Int) < 16 := by omega
      have HF := Lib.hid (indexByte_never hexL c (fun j hj => hH.out j (by have : hexL.length = 16 := rfl; omega)))
      go_wp2_with fail
      go_ret
      exact ⟨ret_int HF.out.symm, rfl⟩
theorem decB_of (d : List UInt8) (h : d.all isDig = true) : decB d = (d.length == 1 || (decide (1 < d.length) && d.head? != some 48)) := by
  unfold decB
  rw [h, Bool.true_and]
theorem decB_not {d : List UInt8} {k : Nat} {c : UInt8} (h : d[k]? = some c) (hc : isDig c = false) : decB d = false := by
  unfold decB
  rw [all_not_at isDig d k c h hc, Bool.false_and]
theorem head_at (d : List UInt8) : d.head? = d[0]? := by cases d <;> rfl
theorem decimal_c (s : ByteArray) (w : World) (hs : s.size ≤ 100000) : Calls Tryz.prog 236 #[.string s] w fun e w' => e = .returned (.bool (decB s.data.toList)) ∧ Below w.heap.size w w' := by
  have hcv := run_toBytes
  go_enter Tryz.func236, Tryz.ntmps236
  go_wp2_with fail
  clear hcv
  have hrd := rd_bytes w 5 s
  have hbel : Below w.heap.size w (Lib.bytesWorld w 5 s) := below_bytes (by (exact belQ)) (by simp) _ _
  generalize Lib.bytesWorld w 5 s = W at hrd hbel ⊢
  go_loop [8] (fun i => ∃ k : Nat, k ≤ s.size ∧ i = .int .i64 k ∧ Hid ((s.data.toList.take k).all isDig = true)) (fun i => s.size - (intOf i).toNat)
  case atStart => exact ⟨0, by omega, rfl, by show _ = true; simp⟩
  case round =>
    obtain ⟨k, hk, rfl, hH⟩ := hrel
    by_cases hlt : k < s.size
    · have hl : k < s.data.toList.length := by rw [← Lib.size_eq]; exact hlt
      obtain ⟨c, hc⟩ : ∃ c, s.data.toList[k]? = some c := ⟨_, List.getElem?_eq_getElem hl⟩
      have hx := hrd.byte hc
      simp only [Nat.zero_add] at hx
      have HC := Lib.hid hc
      clear hc hl
      cases hq : isDig c
      · have HN := Lib.hid (decB_not HC.out hq)
        by_cases q1 : c.toNat < 48
        · have t1 : (c.toNat : Int) < 48 := by omega
          clear q1 hq
          go_wp2_with fail
          go_ret
          exact ⟨ret_bool HN.out.symm, hbel⟩
        · have t1 : ¬ (c.toNat : Int) < 48 := by omega
          have t2 : 57 < (c.toNat : Int) := by
            simp [isDig] at hq
            omega
          clear q1 hq
          go_wp2_with fail
          go_ret
          exact ⟨ret_bool HN.out.symm, hbel⟩
      · have HQ := Lib.hid (show (s.data.toList.take (k + 1)).all isDig = true by rw [take_all_succ _ _ _ _ HC.out, hH.out, hq]; rfl)
        simp [isDig] at hq
        have t1 : ¬ (c.toNat : Int) < 48 := by omega
        have t2 : ¬ 57 < (c.toNat : Int) := by omega
        clear hq
        go_wp2_with fail
        exact ⟨⟨k + 1, by omega, by go_num, HQ⟩, by simp [intOf]; omega⟩
    · have hk1 : ¬ (k : Int) < (s.size : Int) := by omega
      have HA := Lib.hid (show decB s.data.toList = _ from decB_of _ (by have := hH.out; rwa [List.take_of_length_le (by rw [← Lib.size_eq]; omega)] at this))
      by_cases z1 : s.size = 1
      · have t1 : ((s.size : Int) == 1) = true := by simp; omega
        have HR := Lib.hid (show decB s.data.toList = true by rw [HA.out, ← Lib.size_eq, z1]; rfl)
        clear z1
        go_wp2_with fail
        go_ret
        exact ⟨ret_bool HR.out.symm, hbel⟩
      · have t1 : ((s.size : Int) == 1) = false := by simp; omega
        by_cases z2 : 1 < s.size
        · have t2 : 1 < (s.size : Int) := by omega
          have hl : 0 < s.data.toList.length := by rw [← Lib.size_eq]; omega
          obtain ⟨c, hc⟩ : ∃ c, s.data.toList[0]? = some c := ⟨_, List.getElem?_eq_getElem hl⟩
          have hix := run_idx hc
          simp only [Int.natCast_zero] at hix
          have HR := Lib.hid (show decB s.data.toList = ((c.toNat : Int) != 48) by
            rw [HA.out, ← Lib.size_eq, head_at, hc]
            have e1 : (s.size == 1) = false := by simp; omega
            have e2 : decide (1 < s.size) = true := by simpa using z2
            rw [e1, e2, Bool.false_or, Bool.true_and, Bool.eq_iff_iff, bne_iff_ne, bne_iff_ne]
            constructor
            · intro h h2; exact h (by rw [UInt8.toNat_inj.1 (show c.toNat = (48 : UInt8).toNat from by show c.toNat = 48; omega)])
            · intro h h2; injection h2 with h2; exact h (by rw [h2]; rfl))
          clear hc hl z1
          go_wp2_with fail
          go_ret
          exact ⟨ret_bool HR.out.symm, hbel⟩
        · have t2 : ¬ 1 < (s.size : Int) := by omega
          have HR := Lib.hid (show decB s.data.toList = false by
            rw [HA.out, ← Lib.size_eq]
            have e1 : (s.size == 1) = false := by simp; omega
            have e2 : decide (1 < s.size) = false := by simpa using z2
            rw [e1, e2]; rfl)
          clear z1
          go_wp2_with fail
          go_ret
          exact ⟨ret_bool HR.out.symm, hbel⟩
def numO (d : List UInt8) : Int × Bool := if decB d then (min (valF 0 d : Int) 4294967297, true) else (0, false)
theorem numO_not {d : List UInt8} (h : decB d = false) : numO d = (0, false) := by simp [numO, h]
theorem rnumber_c (s : ByteArray) (w : World) (hs : s.size ≤ 100000) : Calls Tryz.prog 232 #[.string s] w fun e w' => e = .returned (.tuple #[.int .i64 (numO s.data.toList).1, .bool (numO s.data.toList).2]) ∧ w = w' := by
  by_cases z0 : s.size = 0
  · have t0 : ((s.size : Int) == 0) = true := by rw [z0]; rfl
    have HR := Lib.hid (numO_not (show decB s.data.toList = false by rw [List.eq_nil_of_length_eq_zero (show s.data.toList.length = 0 by rw [← Lib.size_eq]; exact z0)]; rfl))
    clear z0
    go_enter Tryz.func232, Tryz.ntmps232
    go_wp2_with fail
    refine bodyPost_ret (by simp [results, Tryz.results232, go_sem]; rfl) rfl ?_
    rw [HR.out]
    exact ⟨rfl, rfl⟩
  have t0 : ((s.size : Int) == 0) = false := by rw [beq_eq_false_iff_ne]; omega
  have hl : 0 < s.data.toList.length := by rw [← Lib.size_eq]; omega
  obtain ⟨c, hc⟩ : ∃ c, s.data.toList[0]? = some c := ⟨_, List.getElem?_eq_getElem hl⟩
  have hix := run_idx hc
  simp only [Int.natCast_zero] at hix
  have HC := Lib.hid hc
  clear hc hl
  by_cases z1 : 1 < s.size ∧ c = 48
  · have t1 : 1 < (s.size : Int) := by omega
    have t2 : ((c.toNat : Int) == 48) = true := by rw [z1.2]; rfl
    have HR := Lib.hid (numO_not (show decB s.data.toList = false by
      unfold decB
      have e1 : (s.size == 1) = false := by simp; omega
      rw [← Lib.size_eq, e1, head_at, HC.out, z1.2]
      simp))
    clear z0 z1
    go_enter Tryz.func232, Tryz.ntmps232
    go_wp2_with fail
    refine bodyPost_ret (by simp [results, Tryz.results232, go_sem]; rfl) rfl ?_
    rw [HR.out]
    exact ⟨rfl, rfl⟩
  · have hlead : (s.data.toList.length == 1 || (decide (1 < s.data.toList.length) && s.data.toList.head? != some 48)) = true := by
      rw [← Lib.size_eq, head_at, HC.out]
      by_cases z2 : 1 < s.size
      · have : c ≠ 48 := fun e => z1 ⟨z2, e⟩
        simp [z2, this]
      · have : s.size = 1 := by omega
        simp [this]
    have HLD := Lib.hid hlead
    clear hlead
    have hgo : ∀ K : Prop, ((1 < (s.size : Int) → ((c.toNat : Int) == 48) = false) → K) → K := fun K h => h (fun h1 => by
      rw [beq_eq_false_iff_ne]
      intro h2
      exact z1 ⟨by omega, UInt8.toNat_inj.1 (show c.toNat = (48 : UInt8).toNat from by show c.toNat = 48; omega)⟩)
    refine hgo _ (fun hg => ?_)
    clear hgo z1 z0
    by_cases z2 : 1 < s.size
    · have t1 : 1 < (s.size : Int) := by omega
      have t2 := hg t1
      clear hg
      go_enter Tryz.func232, Tryz.ntmps232
      go_wp2_with fail
      go_loop [4, 5] (fun n i => ∃ k : Nat, k ≤ s.size ∧ i = .int .i64 k ∧ n = .int .i64 (min (valF 0 (s.data.toList.take k) : Int) 4294967297) ∧ Hid ((s.data.toList.take k).all isDig = true)) (fun _ i => s.size - (intOf i).toNat)
      case atStart => exact ⟨0, by omega, rfl, by simp [valF]; omega, by show _ = true; simp⟩
      case round =>
        obtain ⟨k, hk, rfl, rfl, hH⟩ := hrel
        generalize hN : min (valF 0 (s.data.toList.take k) : Int) 4294967297 = N
        have hN0 : 0 ≤ N := by omega
        have hN1 : N ≤ 4294967297 := by omega
        have HN := Lib.hid hN
        clear hN
        by_cases hlt : k < s.size
        · have hl : k < s.data.toList.length := by rw [← Lib.size_eq]; exact hlt
          obtain ⟨d, hd⟩ : ∃ c, s.data.toList[k]? = some c := ⟨_, List.getElem?_eq_getElem hl⟩
          have hiy := run_idx hd
          have HD := Lib.hid hd
          clear hd hl
          cases hq : isDig d
          · have HR := Lib.hid (numO_not (decB_not HD.out hq))
            by_cases q1 : d.toNat < 48
            · have u1 : (d.toNat : Int) < 48 := by omega
              clear q1 hq
              go_wp2_with fail
              refine bodyPost_ret (by simp [results, Tryz.results232, go_sem]; rfl) rfl ?_
              rw [HR.out]
              exact ⟨rfl, rfl⟩
            · have u1 : ¬ (d.toNat : Int) < 48 := by omega
              have u2 : 57 < (d.toNat : Int) := by
                simp [isDig] at hq
                omega
              clear q1 hq
              go_wp2_with fail
              refine bodyPost_ret (by simp [results, Tryz.results232, go_sem]; rfl) rfl ?_
              rw [HR.out]
              exact ⟨rfl, rfl⟩
          · have HQ := Lib.hid (show (s.data.toList.take (k + 1)).all isDig = true by rw [take_all_succ _ _ _ _ HD.out, hH.out, hq]; rfl)
            have HV := Lib.hid (show valF 0 (s.data.toList.take (k + 1)) = valF 0 (s.data.toList.take k) * 10 + (d.toNat - 48) by rw [List.take_add_one, HD.out]; exact valF_snoc _ _ _)
            simp [isDig] at hq
            have u1 : ¬ (d.toNat : Int) < 48 := by omega
            have u2 : ¬ 57 < (d.toNat : Int) := by omega
            have u3 : IntKind.u8.wrap ((d.toNat : Int) - 48) = (d.toNat : Int) - 48 := IntWalk.u8_in _ (by omega)
            have HE := Lib.hid (show min (valF 0 (s.data.toList.take (k + 1)) : Int) 4294967297 = min (N * 10 + ((d.toNat : Int) - 48)) 4294967297 by
              have h1 := HV.out
              have h2 := HN.out
              omega)
            have u4 : IntKind.i64.wrap (N * 10) = N * 10 := IntWalk.i64_in _ (by omega)
            have u5 : IntKind.i64.wrap (N * 10 + ((d.toNat : Int) - 48)) = N * 10 + ((d.toNat : Int) - 48) := IntWalk.i64_in _ (by omega)
            have u6 : IntKind.i64.wrap ((d.toNat : Int) - 48) = (d.toNat : Int) - 48 := IntWalk.i64_in _ (by omega)
            clear hq
            go_wp2_with fail
            exact ⟨⟨k + 1, by omega, by go_num, by rw [HE.out], HQ⟩, by simp [intOf]; omega⟩
        · have hk1 : ¬ (k : Int) < (s.size : Int) := by omega
          have HF := Lib.hid (show s.data.toList.take k = s.data.toList from List.take_of_length_le (by rw [← Lib.size_eq]; omega))
          have HR := Lib.hid (show numO s.data.toList = (N, true) by
            have h1 := hH.out
            have h2 := HN.out
            rw [HF.out] at h1 h2
            have h3 : decB s.data.toList = true := by rw [decB_of _ h1]; exact HLD.out
            unfold numO
            rw [if_pos h3, h2])
          go_wp2_with fail
          refine bodyPost_ret (by simp [results, Tryz.results232, go_sem]; rfl) rfl ?_
          rw [HR.out]
          exact ⟨rfl, rfl⟩
    · have t1 : ¬ 1 < (s.size : Int) := by omega
      clear hg
      go_enter Tryz.func232, Tryz.ntmps232
      go_wp2_with fail
      go_loop [4, 5] (fun n i => ∃ k : Nat, k ≤ s.size ∧ i = .int .i64 k ∧ n = .int .i64 (min (valF 0 (s.data.toList.take k) : Int) 4294967297) ∧ Hid ((s.data.toList.take k).all isDig = true)) (fun _ i => s.size - (intOf i).toNat)
      case atStart => exact ⟨0, by omega, rfl, by simp [valF]; omega, by show _ = true; simp⟩
      case round =>
        obtain ⟨k, hk, rfl, rfl, hH⟩ := hrel
        generalize hN : min (valF 0 (s.data.toList.take k) : Int) 4294967297 = N
        have hN0 : 0 ≤ N := by omega
        have hN1 : N ≤ 4294967297 := by omega
        have HN := Lib.hid hN
        clear hN
        by_cases hlt : k < s.size
        · have hl : k < s.data.toList.length := by rw [← Lib.size_eq]; exact hlt
          obtain ⟨d, hd⟩ : ∃ c, s.data.toList[k]? = some c := ⟨_, List.getElem?_eq_getElem hl⟩
          have hiy := run_idx hd
          have HD := Lib.hid hd
          clear hd hl
          cases hq : isDig d
          · have HR := Lib.hid (numO_not (decB_not HD.out hq))
            by_cases q1 : d.toNat < 48
            · have u1 : (d.toNat : Int) < 48 := by omega
              clear q1 hq
              go_wp2_with fail
              refine bodyPost_ret (by simp [results, Tryz.results232, go_sem]; rfl) rfl ?_
              rw [HR.out]
              exact ⟨rfl, rfl⟩
            · have u1 : ¬ (d.toNat : Int) < 48 := by omega
              have u2 : 57 < (d.toNat : Int) := by
                simp [isDig] at hq
                omega
              clear q1 hq
              go_wp2_with fail
              refine bodyPost_ret (by simp [results, Tryz.results232, go_sem]; rfl) rfl ?_
              rw [HR.out]
              exact ⟨rfl, rfl⟩
          · have HQ := Lib.hid (show (s.data.toList.take (k + 1)).all isDig = true by rw [take_all_succ _ _ _ _ HD.out, hH.out, hq]; rfl)
            have HV := Lib.hid (show valF 0 (s.data.toList.take (k + 1)) = valF 0 (s.data.toList.take k) * 10 + (d.toNat - 48) by rw [List.take_add_one, HD.out]; exact valF_snoc _ _ _)
            simp [isDig] at hq
            have u1 : ¬ (d.toNat : Int) < 48 := by omega
            have u2 : ¬ 57 < (d.toNat : Int) := by omega
            have u3 : IntKind.u8.wrap ((d.toNat : Int) - 48) = (d.toNat : Int) - 48 := IntWalk.u8_in _ (by omega)
            have HE := Lib.hid (show min (valF 0 (s.data.toList.take (k + 1)) : Int) 4294967297 = min (N * 10 + ((d.toNat : Int) - 48)) 4294967297 by
              have h1 := HV.out
              have h2 := HN.out
              omega)
            have u4 : IntKind.i64.wrap (N * 10) = N * 10 := IntWalk.i64_in _ (by omega)
            have u5 : IntKind.i64.wrap (N * 10 + ((d.toNat : Int) - 48)) = N * 10 + ((d.toNat : Int) - 48) := IntWalk.i64_in _ (by omega)
            have u6 : IntKind.i64.wrap ((d.toNat : Int) - 48) = (d.toNat : Int) - 48 := IntWalk.i64_in _ (by omega)
            clear hq
            go_wp2_with fail
            exact ⟨⟨k + 1, by omega, by go_num, by rw [HE.out], HQ⟩, by simp [intOf]; omega⟩
        · have hk1 : ¬ (k : Int) < (s.size : Int) := by omega
          have HF := Lib.hid (show s.data.toList.take k = s.data.toList from List.take_of_length_le (by rw [← Lib.size_eq]; omega))
          have HR := Lib.hid (show numO s.data.toList = (N, true) by
            have h1 := hH.out
            have h2 := HN.out
            rw [HF.out] at h1 h2
            have h3 : decB s.data.toList = true := by rw [decB_of _ h1]; exact HLD.out
            unfold numO
            rw [if_pos h3, h2])
          go_wp2_with fail
          refine bodyPost_ret (by simp [results, Tryz.results232, go_sem]; rfl) rfl ?_
          rw [HR.out]
          exact ⟨rfl, rfl⟩
end Go.Proofs.YtpnfbehbheddeaaGreatDoor
