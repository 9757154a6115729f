/- Contracts of signLength and skip of the program; isSign, sign and IsName of the reference. Strings of at most 2^40 bytes. -/
import Derived.Test.YtpnfbehbheddeaaGreatDoorBn12
import Derived.Test.YtpnfbehbheddeaaGreatDoorBn15
namespace Go.Proofs.YtpnfbehbheddeaaGreatDoor
set_option maxRecDepth 100000
set_option maxHeartbeats 8000000
set_option linter.unusedVariables false
set_option linter.unusedSimpArgs false
open Go.RowKit
theorem eqByte (c : UInt8) (n : Nat) (hn : n < 256) : ((c.toNat : Int) == (n : Int)) = (c == UInt8.ofNat n) := by
  rw [Bool.eq_iff_iff, beq_iff_eq, beq_iff_eq]
  constructor
  · intro h; apply UInt8.toNat_inj.1; rw [UInt8.toNat_ofNat', Nat.mod_eq_of_lt (by omega)]; omega
  · rintro rfl; rw [UInt8.toNat_ofNat', Nat.mod_eq_of_lt (by omega)]
theorem pre2_c (a b : UInt8) (s : ByteArray) (w : World) : Calls Tryz.prog 129 #[.string s, .string ⟨#[a, b]⟩] w fun e w' => e = .returned (.bool (decide (s.data.toList.take 2 = [a, b]))) ∧ w = w' :=
  (Tryz.strings_HasPrefix _ _ _).mono fun _ _ h => ⟨h.1.trans (ret_bool (prefix2 _ a b)), h.2.symm⟩
theorem signI_of (a : UInt8) : Lib.indexByte signL ((a.toNat : Int).toNat.toUInt8) = Lib.indexByte signL a := by
  congr 1
  simp
theorem signI_c (a : UInt8) (w : World) : Calls Tryz.prog 128 #[.string ⟨#[40, 41, 44, 46, 59, 43, 45, 42, 47, 61, 60]⟩, .int .u8 a.toNat] w fun e w' => e = .returned (.int .i64 (Lib.indexByte signL a)) ∧ w = w' :=
  (Tryz.strings_IndexByte _ _ _).mono fun _ _ h => ⟨h.1.trans (ret_int (signI_of a)), h.2.symm⟩
theorem xsignLength (s : ByteArray) (w : World) : Calls Tryz.prog 84 #[.string s] w fun e w' => e = .returned (.int .i64 (signLen s.data.toList : Int)) ∧ w = w' := by
  have h1 := fun w => pre2_c 43 43 s w
  have h2 := fun w => pre2_c 60 61 s w
  have HS := Lib.hid (show signLen s.data.toList = if s.data.toList.take 2 = [43, 43] ∨ s.data.toList.take 2 = [60, 61] then 2 else if s.data.toList ≠ [] ∧ signL.contains (s.data.toList.getD 0 0) = true then 1 else 0 from rfl)
  by_cases p1 : s.data.toList.take 2 = [43, 43]
  · have HR := Lib.hid (show signLen s.data.toList = 2 by rw [HS.out, if_pos (.inl p1)])
    rw [show decide (s.data.toList.take 2 = [43, 43]) = true by simpa using p1] at h1
    clear p1 h2
    go_enter Tryz.func84, Tryz.ntmps84
    go_wp2_with (go_at_call 129; refine (h1 _).mono ?_; rintro e w1 ⟨rfl, rfl⟩)
    go_ret
    exact ⟨ret_int (by rw [HR.out]; rfl), rfl⟩
  rw [show decide (s.data.toList.take 2 = [43, 43]) = false by simpa using p1] at h1
  by_cases p2 : s.data.toList.take 2 = [60, 61]
  · have HR := Lib.hid (show signLen s.data.toList = 2 by rw [HS.out, if_pos (.inr p2)])
    rw [show decide (s.data.toList.take 2 = [60, 61]) = true by simpa using p2] at h2
    clear p1 p2
    go_enter Tryz.func84, Tryz.ntmps84
    go_wp2_with fail
    refine (h1 _).mono ?_
    rintro e w1 ⟨rfl, rfl⟩
    go_wp2_with fail
    refine (h2 _).mono ?_
    rintro e w1 ⟨rfl, rfl⟩
    go_wp2_with fail
    go_ret
    exact ⟨ret_int (by rw [HR.out]; rfl), rfl⟩
  rw [show decide (s.data.toList.take 2 = [60, 61]) = false by simpa using p2] at h2
  have HT := Lib.hid (show signLen s.data.toList = if s.data.toList ≠ [] ∧ signL.contains (s.data.toList.getD 0 0) = true then 1 else 0 by rw [HS.out, if_neg (by rintro (h | h); exact p1 h; exact p2 h)])
  clear p1 p2
  by_cases p3 : s.data.toList = []
  · have te : s.toList.isEmpty = true := by rw [empty_iff]; simpa using p3
    have HR := Lib.hid (show signLen s.data.toList = 0 by rw [HT.out, if_neg (fun h => h.1 p3)])
    clear p3
    go_enter Tryz.func84, Tryz.ntmps84
    go_wp2_with fail
    refine (h1 _).mono ?_
    rintro e w1 ⟨rfl, rfl⟩
    go_wp2_with fail
    refine (h2 _).mono ?_
    rintro e w1 ⟨rfl, rfl⟩
    go_wp2_with fail
    go_ret
    exact ⟨ret_int (by rw [HR.out]; rfl), rfl⟩
  · have te : s.toList.isEmpty = false := by rw [empty_iff]; simpa using p3
    obtain ⟨c, hc⟩ : ∃ c, s.data.toList[0]? = some c := by
      cases h : s.data.toList with
      | nil => exact absurd h p3
      | cons c r => exact ⟨c, rfl⟩
    have hcd : s.data.toList.getD 0 0 = c := by rw [List.getD_eq_getElem?_getD, hc]; rfl
    have hix := run_idx hc
    simp only [Int.natCast_zero] at hix
    have hsz : 0 < s.size := by rw [Lib.size_eq]; exact (List.getElem?_eq_some_iff.1 hc).1
    have hsz2 : (0 : Int) < (s.size : Int) := by omega
    have hsc := sign_contains c
    have hI := fun w => signI_c c w
    have HC := Lib.hid hc
    clear hc
    generalize Lib.indexByte signL c = i at hsc hI
    by_cases hi : 0 ≤ i
    · have HR := Lib.hid (show signLen s.data.toList = 1 by rw [HT.out, if_pos ⟨p3, by rw [hcd, ← hsc]; simpa using hi⟩])
      clear p3 hcd hsc
      go_enter Tryz.func84, Tryz.ntmps84
      go_wp2_with fail
      refine (h1 _).mono ?_
      rintro e w1 ⟨rfl, rfl⟩
      go_wp2_with fail
      refine (h2 _).mono ?_
      rintro e w1 ⟨rfl, rfl⟩
      go_wp2_with fail
      refine (hI _).mono ?_
      rintro e w1 ⟨rfl, rfl⟩
      go_wp2_with fail
      go_ret
      exact ⟨ret_int (by rw [HR.out]; rfl), rfl⟩
    · have HR := Lib.hid (show signLen s.data.toList = 0 by rw [HT.out, if_neg (by rw [hcd, ← hsc]; rintro ⟨_, h⟩; exact hi (by simpa using h))])
      clear p3 hcd hsc
      go_enter Tryz.func84, Tryz.ntmps84
      go_wp2_with fail
      refine (h1 _).mono ?_
      rintro e w1 ⟨rfl, rfl⟩
      go_wp2_with fail
      refine (h2 _).mono ?_
      rintro e w1 ⟨rfl, rfl⟩
      go_wp2_with fail
      refine (hI _).mono ?_
      rintro e w1 ⟨rfl, rfl⟩
      go_wp2_with fail
      go_ret
      exact ⟨ret_int (by rw [HR.out]; rfl), rfl⟩
theorem not_word {s : ByteArray} (h : isSignB s.data.toList = false) (l : List UInt8) (hl : isSignB l = true) : (s.toList == l) = false := by
  rw [Lib.toList_data, beq_eq_false_iff_ne]
  rintro rfl
  rw [hl] at h
  cases h
theorem risSign (s : ByteArray) (w : World) : Calls Tryz.prog 125 #[.string s] w fun e w' => e = .returned (.bool (isSignB s.data.toList)) ∧ w = w' := by
  cases h : isSignB s.data.toList
  · have k1 := not_word h [40] rfl
    have k2 := not_word h [41] rfl
    have k3 := not_word h [44] rfl
    have k4 := not_word h [46] rfl
    have k5 := not_word h [59] rfl
    have k6 := not_word h [43] rfl
    have k7 := not_word h [45] rfl
    have k8 := not_word h [42] rfl
    have k9 := not_word h [47] rfl
    have k10 := not_word h [61] rfl
    have k11 := not_word h [60] rfl
    have k12 := not_word h [43, 43] rfl
    have k13 := not_word h [60, 61] rfl
    clear h
    go_enter Tryz.func125, Tryz.ntmps125
    go_wp2_with fail
    go_ret
    exact ⟨rfl, rfl⟩
  · have h' := h
    unfold isSignB signW at h'
    simp at h'
    rw [← Lib.toList_data] at h'
    clear h
    rcases h' with e | e | e | e | e | e | e | e | e | e | e | e | e
    all_goals go_enter Tryz.func125, Tryz.ntmps125
    all_goals go_wp2_with fail
    all_goals go_ret
    all_goals exact ⟨rfl, rfl⟩
theorem take_extract (s : ByteArray) (k : Nat) : (s.extract 0 k).data.toList = s.data.toList.take k := by
  rw [Lib.extract_data, List.drop_zero, Nat.sub_zero]
theorem mk_take (s : ByteArray) (k : Nat) : s.extract 0 k = ⟨(s.data.toList.take k).toArray⟩ := bytes_ext (by rw [take_extract])
theorem rsign (s : ByteArray) (w : World) : Calls Tryz.prog 234 #[.string s] w fun e w' => e = .returned (.int .i64 (signLen s.data.toList : Int)) ∧ w = w' := by
  have HS := Lib.hid (signLen_ref s.data.toList)
  rw [← Lib.size_eq] at HS
  have h2 := fun w => risSign (s.extract 0 2) w
  have h1 := fun w => risSign (s.extract 0 1) w
  simp only [take_extract] at h1 h2
  generalize isSignB (s.data.toList.take 2) = b2 at HS h2
  generalize isSignB (s.data.toList.take 1) = b1 at HS h1
  by_cases n2 : 2 ≤ s.size
  · have t2 : (2 : Int) ≤ (s.size : Int) := by omega
    have t1 : (1 : Int) ≤ (s.size : Int) := by omega
    cases b2
    · cases b1
      · have HR := Lib.hid (show signLen s.data.toList = 0 by rw [HS.out]; simp)
        go_enter Tryz.func234, Tryz.ntmps234
        go_wp2_with fail
        refine (h2 _).mono ?_
        rintro e w1 ⟨rfl, rfl⟩
        go_wp2_with fail
        refine (h1 _).mono ?_
        rintro e w1 ⟨rfl, rfl⟩
        go_wp2_with fail
        go_ret
        exact ⟨ret_int (by rw [HR.out]; rfl), rfl⟩
      · have HR := Lib.hid (show signLen s.data.toList = 1 by rw [HS.out, if_neg (by simp), if_pos ⟨by omega, rfl⟩])
        go_enter Tryz.func234, Tryz.ntmps234
        go_wp2_with fail
        refine (h2 _).mono ?_
        rintro e w1 ⟨rfl, rfl⟩
        go_wp2_with fail
        refine (h1 _).mono ?_
        rintro e w1 ⟨rfl, rfl⟩
        go_wp2_with fail
        go_ret
        exact ⟨ret_int (by rw [HR.out]; rfl), rfl⟩
    · have HR := Lib.hid (show signLen s.data.toList = 2 by rw [HS.out]; simp; omega)
      go_enter Tryz.func234, Tryz.ntmps234
      go_wp2_with fail
      refine (h2 _).mono ?_
      rintro e w1 ⟨rfl, rfl⟩
      go_wp2_with fail
      go_ret
      exact ⟨ret_int (by rw [HR.out]; rfl), rfl⟩
  · have t2 : ¬ (2 : Int) ≤ (s.size : Int) := by omega
    by_cases n1 : 1 ≤ s.size
    · have t1 : (1 : Int) ≤ (s.size : Int) := by omega
      cases b1
      · have HR := Lib.hid (show signLen s.data.toList = 0 by rw [HS.out]; simp; omega)
        go_enter Tryz.func234, Tryz.ntmps234
        go_wp2_with fail
        refine (h1 _).mono ?_
        rintro e w1 ⟨rfl, rfl⟩
        go_wp2_with fail
        go_ret
        exact ⟨ret_int (by rw [HR.out]; rfl), rfl⟩
      · have HR := Lib.hid (show signLen s.data.toList = 1 by rw [HS.out, if_neg (fun h => n2 h.1), if_pos ⟨n1, rfl⟩])
        go_enter Tryz.func234, Tryz.ntmps234
        go_wp2_with fail
        refine (h1 _).mono ?_
        rintro e w1 ⟨rfl, rfl⟩
        go_wp2_with fail
        go_ret
        exact ⟨ret_int (by rw [HR.out]; rfl), rfl⟩
    · have t1 : ¬ (1 : Int) ≤ (s.size : Int) := by omega
      have HR := Lib.hid (show signLen s.data.toList = 0 by rw [HS.out, if_neg (fun h => n2 h.1), if_neg (fun h => n1 h.1)])
      go_enter Tryz.func234, Tryz.ntmps234
      go_wp2_with fail
      go_ret
      exact ⟨ret_int (by rw [HR.out]; rfl), rfl⟩
def SkipR (s : List UInt8) (p0 : Nat) (cm : Bool) (p : Nat) : Prop := p0 + skipN false (s.drop p0) = p + skipN cm (s.drop p)
theorem SkipR.start (s : List UInt8) (p0 : Nat) : SkipR s p0 false p0 := rfl
theorem SkipR.go {s : List UInt8} {p0 p : Nat} {cm cm' : Bool} {c : UInt8} (h : SkipR s p0 cm p) (hc : s[p]? = some c) (h1 : skipN cm (c :: s.drop (p + 1)) = 1 + skipN cm' (s.drop (p + 1))) : SkipR s p0 cm' (p + 1) := by
  unfold SkipR at h ⊢
  rw [h, drop_at hc, h1]
  omega
theorem SkipR.nl {s : List UInt8} {p0 p : Nat} {cm : Bool} (h : SkipR s p0 cm p) (hc : s[p]? = some 10) : SkipR s p0 false (p + 1) := h.go hc (by rw [skipN, if_pos rfl])
theorem SkipR.ws {s : List UInt8} {p0 p : Nat} {cm : Bool} {c : UInt8} (h : SkipR s p0 cm p) (hc : s[p]? = some c) (h10 : c ≠ 10) (hw : c = 32 ∨ c = 9 ∨ c = 13) : SkipR s p0 cm (p + 1) := h.go hc (by rw [skipN, if_neg h10, if_pos hw])
theorem SkipR.hash {s : List UInt8} {p0 p : Nat} {cm : Bool} (h : SkipR s p0 cm p) (hc : s[p]? = some 35) : SkipR s p0 true (p + 1) := h.go hc (by rw [skipN, if_neg (by decide), if_neg (by decide), if_pos rfl])
theorem SkipR.in_ {s : List UInt8} {p0 p : Nat} {c : UInt8} (h : SkipR s p0 true p) (hc : s[p]? = some c) (h10 : c ≠ 10) (hw : ¬ (c = 32 ∨ c = 9 ∨ c = 13)) (h35 : c ≠ 35) : SkipR s p0 true (p + 1) := h.go hc (by rw [skipN, if_neg h10, if_neg hw, if_neg h35, if_pos rfl])
theorem SkipR.stop {s : List UInt8} {p0 p : Nat} {c : UInt8} (h : SkipR s p0 false p) (hc : s[p]? = some c) (h10 : c ≠ 10) (hw : ¬ (c = 32 ∨ c = 9 ∨ c = 13)) (h35 : c ≠ 35) : p0 + skipN false (s.drop p0) = p := by
  unfold SkipR at h
  rw [h, drop_at hc, skipN, if_neg h10, if_neg hw, if_neg h35]
  simp
theorem SkipR.over {s : List UInt8} {p0 p : Nat} {cm : Bool} (h : SkipR s p0 cm p) (hp : s.length ≤ p) : p0 + skipN false (s.drop p0) = p := by
  unfold SkipR at h
  rw [h, List.drop_of_length_le hp]
  simp [skipN]
def SkRel (s : ByteArray) (p0 : Nat) (v1 v5 : Value) : Prop := ∃ (p : Nat) (cm : Bool), p ≤ s.size ∧ v1 = .int .i64 (p : Int) ∧ v5 = .bool cm ∧ SkipR s.data.toList p0 cm p
theorem xskip (s : ByteArray) (p0 : Nat) (w : World) (hs : s.size ≤ 1099511627776) (hp0 : p0 ≤ s.size) : Calls Tryz.prog 41 #[.string s, .int .i64 (p0 : Int)] w fun e w' => e = .returned (.int .i64 ((p0 + skipN false (s.data.toList.drop p0) : Nat) : Int)) ∧ w = w' := by
  have HZ := Lib.hid (Lib.size_eq s)
  obtain ⟨X, hX⟩ : ∃ X, p0 + skipN false (s.data.toList.drop p0) = X := ⟨_, rfl⟩
  rw [hX]
  have HX := Lib.hid hX
  clear hX
  go_enter Tryz.func41, Tryz.ntmps41
  go_wp2_with fail
  go_loop [1, 5] (fun v1 v5 => SkRel s p0 v1 v5) (fun v1 _ => s.size - (intOf v1).toNat)
  case atStart => exact ⟨p0, false, hp0, rfl, rfl, SkipR.start _ _⟩
  case round =>
    obtain ⟨k, cm, hk, rfl, rfl, hR⟩ := hrel
    have HR := Lib.hid hR
    clear hR
    by_cases hlt : k < s.size
    · obtain ⟨c, hc⟩ : ∃ c, s.data.toList[k]? = some c := ⟨_, List.getElem?_eq_getElem (by rw [← HZ.out]; exact hlt)⟩
      have hix := run_idx hc
      have HC := Lib.hid hc
      have hk1 : (k : Int) < (s.size : Int) := by omega
      have hk0 : (0 : Int) ≤ (k : Int) := by omega
      have e10 := eqByte c 10 (by omega)
      have e32 := eqByte c 32 (by omega)
      have e9 := eqByte c 9 (by omega)
      have e13 := eqByte c 13 (by omega)
      have e35 := eqByte c 35 (by omega)
      simp only [Int.cast_ofNat_Int] at e10 e32 e9 e13 e35
      clear hc
      by_cases c10 : c = 10
      · subst c10
        have HE := Lib.hid (HR.out.nl HC.out)
        go_wp2_with fail
        go_round
        case rel => exact ⟨k + 1, false, by omega, by go_num, rfl, HE.out⟩
        case measure => simp [intOf]; omega
      have t10 : ((c.toNat : Int) == 10) = false := by rw [e10]; simpa using c10
      by_cases cw : c = 32 ∨ c = 9 ∨ c = 13
      · have HE := Lib.hid (HR.out.ws HC.out c10 cw)
        clear c10 e10
        rcases cw with rfl | rfl | rfl
        all_goals go_wp2_with fail
        all_goals go_round
        all_goals first
          | (case rel => exact ⟨k + 1, cm, by omega, by go_num, rfl, HE.out⟩)
          | (case measure => simp [intOf]; omega)
      have c32 : c ≠ 32 := fun h => cw (.inl h)
      have c9 : c ≠ 9 := fun h => cw (.inr (.inl h))
      have c13 : c ≠ 13 := fun h => cw (.inr (.inr h))
      have t32 : ((c.toNat : Int) == 32) = false := by rw [e32]; simpa using c32
      have t9 : ((c.toNat : Int) == 9) = false := by rw [e9]; simpa using c9
      have t13 : ((c.toNat : Int) == 13) = false := by rw [e13]; simpa using c13
      by_cases c35 : c = 35
      · subst c35
        have HE := Lib.hid (HR.out.hash HC.out)
        clear c10 cw c32 c9 c13 t32 t9 t13 t10 e10 e32 e9 e13 e35
        go_wp2_with fail
        go_round
        case rel => exact ⟨k + 1, true, by omega, by go_num, rfl, HE.out⟩
        case measure => simp [intOf]; omega
      have t35 : ((c.toNat : Int) == 35) = false := by rw [e35]; simpa using c35
      clear e10 e32 e9 e13 e35
      cases cm
      · have HE := Lib.hid (HR.out.stop HC.out c10 cw c35)
        clear c10 cw c32 c9 c13 c35
        go_wp2_with fail
        go_ret
        exact ⟨ret_int (by rw [← HX.out, HE.out]), rfl⟩
      · have HE := Lib.hid (HR.out.in_ HC.out c10 cw c35)
        clear c10 cw c32 c9 c13 c35
        go_wp2_with fail
        go_round
        case rel => exact ⟨k + 1, true, by omega, by go_num, rfl, HE.out⟩
        case measure => simp [intOf]; omega
    · have HE := Lib.hid (HR.out.over (by rw [← HZ.out]; omega))
      have hk1 : ¬ (k : Int) < (s.size : Int) := by omega
      go_wp2_with fail
      go_ret
      exact ⟨ret_int (by rw [← HX.out, HE.out]), rfl⟩
theorem isNameB_of {c : UInt8} {l : List UInt8} (h : l[0]? = some c) : isNameB l = (decide (l.length ≤ 16) && (isLet c && l.all inNm)) := by
  cases l with
  | nil => simp at h
  | cons d r => simp at h; subst h; exact isNameB_ref d r
theorem risName (s : ByteArray) (w : World) (hs : s.size ≤ 1099511627776) : Calls Tryz.prog 70 #[.string s] w fun e w' => e = .returned (.bool (isNameB s.data.toList)) ∧ w = w' := by
  have HZ := Lib.hid (Lib.size_eq s)
  by_cases z0 : s.size = 0
  · have t0 : ((s.size : Int) == 0) = true := by rw [z0]; rfl
    have HR := Lib.hid (isNameB_nil (s := s.data.toList) (List.eq_nil_of_length_eq_zero (by rw [← HZ.out]; exact z0)))
    clear z0
    go_enter Tryz.func70, Tryz.ntmps70
    go_wp2_with fail
    go_ret
    exact ⟨ret_bool HR.out.symm, rfl⟩
  have t0 : ((s.size : Int) == 0) = false := by rw [beq_eq_false_iff_ne]; omega
  obtain ⟨c, hc⟩ : ∃ c, s.data.toList[0]? = some c := ⟨_, List.getElem?_eq_getElem (by rw [← HZ.out]; omega)⟩
  have HN := Lib.hid (isNameB_of hc)
  rw [← HZ.out] at HN
  have hix0 := run_idx hc
  simp only [Int.natCast_zero] at hix0
  have hz1 : (0 : Int) < (s.size : Int) := by omega
  clear hc z0
  by_cases h16 : 16 < s.size
  · have t16 : (16 : Int) < (s.size : Int) := by omega
    have HR := Lib.hid (show isNameB s.data.toList = false by rw [HN.out, show decide (s.size ≤ 16) = false by simp; omega]; rfl)
    go_enter Tryz.func70, Tryz.ntmps70
    go_wp2_with fail
    go_ret
    exact ⟨ret_bool HR.out.symm, rfl⟩
  have t16 : ¬ (16 : Int) < (s.size : Int) := by omega
  have hL := fun w => rletter c w
  generalize isLet c = lc at hL HN
  cases lc
  · have HR := Lib.hid (show isNameB s.data.toList = false by rw [HN.out]; simp)
    go_enter Tryz.func70, Tryz.ntmps70
    go_wp2_with (go_at_call 121; refine (hL _).mono ?_; rintro e w1 ⟨rfl, rfl⟩)
    go_ret
    exact ⟨ret_bool HR.out.symm, rfl⟩
  have HA := Lib.hid (show isNameB s.data.toList = s.data.toList.all inNm by rw [HN.out, show decide (s.size ≤ 16) = true by simp; omega]; rfl)
  go_enter Tryz.func70, Tryz.ntmps70
  go_wp2_with (go_at_call 121; refine (hL _).mono ?_; rintro e w1 ⟨rfl, rfl⟩)
  go_loop [3] (fun i => ∃ k : Nat, k ≤ s.size ∧ i = .int .i64 k ∧ Hid ((s.data.toList.take k).all inNm = true)) (fun i => s.size - (intOf i).toNat)
  case atStart => exact ⟨0, Nat.zero_le _, rfl, by show _ = true; simp⟩
  case round =>
    obtain ⟨k, hk, rfl, hH⟩ := hrel
    by_cases hlt : k < s.size
    · obtain ⟨d, hd⟩ : ∃ c, s.data.toList[k]? = some c := ⟨_, List.getElem?_eq_getElem (by rw [← HZ.out]; exact hlt)⟩
      have hix := run_idx hd
      have HD := Lib.hid hd
      have hk1 : (k : Int) < (s.size : Int) := by omega
      have hk0 : (0 : Int) ≤ (k : Int) := by omega
      have hM := fun w => rinName d w
      cases hq : inNm d
      · rw [hq] at hM
        have HR := Lib.hid (show isNameB s.data.toList = false by rw [HA.out]; exact all_not_at inNm _ k d HD.out hq)
        clear hq hd
        go_wp2_with (go_at_call 122; refine (hM _).mono ?_; rintro e w1 ⟨rfl, rfl⟩)
        go_ret
        exact ⟨ret_bool HR.out.symm, rfl⟩
      · rw [hq] at hM
        have HE := Lib.hid (show (s.data.toList.take (k + 1)).all inNm = true by rw [take_all_succ _ _ _ _ HD.out, hH.out, hq]; rfl)
        clear hq hd
        go_wp2_with (go_at_call 122; refine (hM _).mono ?_; rintro e w1 ⟨rfl, rfl⟩)
        go_round
        case rel => exact ⟨k + 1, by omega, by go_num, HE⟩
        case measure => simp [intOf]; omega
    · have hk1 : ¬ (k : Int) < (s.size : Int) := by omega
      have HR := Lib.hid (show isNameB s.data.toList = true by
        rw [HA.out]
        have := hH.out
        rwa [List.take_of_length_le (by rw [← HZ.out]; omega)] at this)
      go_wp2_with fail
      go_ret
      exact ⟨ret_bool HR.out.symm, rfl⟩
end Go.Proofs.YtpnfbehbheddeaaGreatDoor
