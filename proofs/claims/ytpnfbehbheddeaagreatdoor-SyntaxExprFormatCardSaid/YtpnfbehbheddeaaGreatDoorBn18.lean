/- Contract of the reference's token: strings of at most 32768 bytes that are not empty. -/
import Derived.Test.YtpnfbehbheddeaaGreatDoorBn17
namespace Go.Proofs.YtpnfbehbheddeaaGreatDoor
set_option maxRecDepth 100000
set_option maxHeartbeats 8000000
set_option linter.unusedVariables false
set_option linter.unusedSimpArgs false
open Go.RowKit
theorem rtoken_name (s : ByteArray) (c : UInt8) (w : World) (hs : s.size ≤ 32768) (hc : s.data.toList[0]? = some c) (hl : isLet c = true) : Calls Tryz.prog 180 #[.string s] w (TkPost w (scNm s.data.toList)) := by
  have HZ := Lib.hid (Lib.size_eq s)
  have HN := Lib.hid (show nameLen s.data.toList = (s.data.toList.takeWhile inNm).length by
    cases h : s.data.toList with
    | nil => rw [h] at hc; cases hc
    | cons d r => rw [h] at hc; simp at hc; subst hc; exact nameLen_let hl)
  have hix0 := run_idx hc
  simp only [Int.natCast_zero] at hix0
  have h01 : (0 : Int) < (s.size : Int) := by have := HZ.out; have := (List.getElem?_eq_some_iff.1 hc).1; omega
  have hA := fun w => rletter c w
  rw [hl] at hA
  have HX := Lib.hid (show scNm s.data.toList = if 16 < nameLen s.data.toList then (Tk.zero, 0, 1) else (⟨1, s.data.toList.take (nameLen s.data.toList), 0, 0⟩, nameLen s.data.toList, 0) from rfl)
  generalize nameLen s.data.toList = n at HN HX
  have HM := Lib.hid (mk_take s n)
  clear hc hl
  go_enter Tryz.func180, Tryz.ntmps180
  go_wp2_with (go_at_call 121; refine (hA _).mono ?_; rintro e w1 ⟨rfl, rfl⟩)
  go_loop [5] (fun i => ∃ k : Nat, k ≤ s.size ∧ i = .int .i64 k ∧ Hid (allTo inNm s.data.toList k)) (fun i => s.size - (intOf i).toNat)
  case atStart => exact ⟨0, Nat.zero_le _, rfl, allTo.zero _ _⟩
  case round =>
    obtain ⟨k, hk, rfl, hH⟩ := hrel
    by_cases hgo : ∃ c, s.data.toList[k]? = some c ∧ inNm c = true
    · obtain ⟨d, hd, hi⟩ := hgo
      have hlt : k < s.size := by rw [HZ.out]; exact (List.getElem?_eq_some_iff.1 hd).1
      have hix := run_idx hd
      have hB := fun w => rinName d w
      rw [hi] at hB
      have HE := Lib.hid (hH.out.succ hd hi)
      have hk1 : (k : Int) < (s.size : Int) := by omega
      have hk0 : (0 : Int) ≤ (k : Int) := by omega
      clear hd hi
      go_wp2_with (go_at_call 122; refine (hB _).mono ?_; rintro e w1 ⟨rfl, rfl⟩)
      go_round
      case rel => exact ⟨k + 1, by omega, by go_num, HE⟩
      case measure => simp [intOf]; omega
    · have hkn : k = n := by
        rcases Nat.lt_or_ge k s.size with hlt | hge
        · obtain ⟨c, hc⟩ : ∃ c, s.data.toList[k]? = some c := ⟨_, List.getElem?_eq_getElem (by rw [← HZ.out]; exact hlt)⟩
          cases hd : inNm c
          · rw [HN.out, hH.out.stop hc hd]
          · exact absurd ⟨c, hc, hd⟩ hgo
        · obtain rfl : k = s.data.toList.length := by have := HZ.out; omega
          rw [HN.out, hH.out.end_]
      have HG := Lib.hid hgo
      clear hgo
      subst hkn
      have hk0 : (0 : Int) ≤ (k : Int) := by omega
      have hk2 : (k : Int) ≤ (s.size : Int) := by omega
      by_cases h16 : 16 < k
      · have t16 : (16 : Int) < (k : Int) := by omega
        have HR := Lib.hid (show scNm s.data.toList = (Tk.zero, 0, 1) by rw [HX.out, if_pos h16])
        rcases Nat.lt_or_ge k s.size with hlt | hge
        · obtain ⟨d, hd⟩ : ∃ c, s.data.toList[k]? = some c := ⟨_, List.getElem?_eq_getElem (by rw [← HZ.out]; exact hlt)⟩
          have hix := run_idx hd
          have hB := fun w => rinName d w
          rw [show inNm d = false by cases hi : inNm d; rfl; exact absurd ⟨d, hd, hi⟩ HG.out] at hB
          have hk1 : (k : Int) < (s.size : Int) := by omega
          clear hd
          go_wp2_with (go_at_call 122; refine (hB _).mono ?_; rintro e w1 ⟨rfl, rfl⟩)
          refine bodyPost_ret (by simp [results, Tryz.results180, go_sem]; rfl) rfl ?_
          unfold TkPost
          rw [HR.out]
          exact ⟨rfl, by (exact belQ)⟩
        · have hk1 : ¬ (k : Int) < (s.size : Int) := by omega
          go_wp2_with fail
          refine bodyPost_ret (by simp [results, Tryz.results180, go_sem]; rfl) rfl ?_
          unfold TkPost
          rw [HR.out]
          exact ⟨rfl, by (exact belQ)⟩
      · have t16 : ¬ (16 : Int) < (k : Int) := by omega
        have HR := Lib.hid (show scNm s.data.toList = (⟨1, s.data.toList.take k, 0, 0⟩, k, 0) by rw [HX.out, if_neg h16])
        rcases Nat.lt_or_ge k s.size with hlt | hge
        · obtain ⟨d, hd⟩ : ∃ c, s.data.toList[k]? = some c := ⟨_, List.getElem?_eq_getElem (by rw [← HZ.out]; exact hlt)⟩
          have hix := run_idx hd
          have hB := fun w => rinName d w
          rw [show inNm d = false by cases hi : inNm d; rfl; exact absurd ⟨d, hd, hi⟩ HG.out] at hB
          have hk1 : (k : Int) < (s.size : Int) := by omega
          clear hd
          go_wp2_with (go_at_call 122; refine (hB _).mono ?_; rintro e w1 ⟨rfl, rfl⟩)
          refine bodyPost_ret (by simp [results, Tryz.results180, go_sem]; rfl) rfl ?_
          unfold TkPost
          rw [HR.out, HM.out]
          exact ⟨rfl, by (exact belQ)⟩
        · have hk1 : ¬ (k : Int) < (s.size : Int) := by omega
          go_wp2_with fail
          refine bodyPost_ret (by simp [results, Tryz.results180, go_sem]; rfl) rfl ?_
          unfold TkPost
          rw [HR.out, HM.out]
          exact ⟨rfl, by (exact belQ)⟩
theorem scNu_ref (l : List UInt8) : scNu l = if (numO (l.takeWhile isDig)).2 = false then (Tk.zero, 0, 2) else if 4294967296 < (numO (l.takeWhile isDig)).1 then (Tk.zero, 0, 1) else (⟨2, [], (numO (l.takeWhile isDig)).1, 0⟩, (l.takeWhile isDig).length, 0) := by
  unfold scNu numO
  have hall := all_takeWhile (p := isDig) l
  generalize l.takeWhile isDig = d at hall
  have h45 : d.head? ≠ some 45 := by
    intro h
    cases d with
    | nil => cases h
    | cons c r =>
      simp at h
      subst h
      simp [isDig] at hall
  have e1 : digs d = d := by unfold digs; rw [if_neg h45]
  have e2 : negB d = false := by unfold negB; simpa using h45
  unfold pInt
  rw [e1, e2]
  cases hd : decB d
  · simp
  · rw [if_neg (show ¬ (true = false ∨ false = true ∧ valF 0 d = 0) by simp), if_pos rfl]
    by_cases hb : 4294967296 < valF 0 d
    · have hb2 : (4294967296 : Int) < min (valF 0 d : Int) 4294967297 := by omega
      simp [hb, hb2]
    · have hb2 : min (valF 0 d : Int) 4294967297 = (valF 0 d : Int) := by omega
      have hb3 : ¬ (4294967296 : Int) < (valF 0 d : Int) := by omega
      simp [hb, hb2, hb3]
theorem rtoken_num (s : ByteArray) (c : UInt8) (w : World) (hs : s.size ≤ 32768) (hc : s.data.toList[0]? = some c) (hl : isLet c = false) (hd : isDig c = true) : Calls Tryz.prog 180 #[.string s] w (TkPost w (scNu s.data.toList)) := by
  have HZ := Lib.hid (Lib.size_eq s)
  have hP := fun w => rnumber_c (s.extract 0 (s.data.toList.takeWhile isDig).length) w (by have := Lib.size_eq (s.extract 0 (s.data.toList.takeWhile isDig).length); rw [take_extract, List.length_take] at this; have := HZ.out; omega)
  simp only [take_extract, take_takeWhile] at hP
  have HX := Lib.hid (scNu_ref s.data.toList)
  generalize numO (s.data.toList.takeWhile isDig) = y at hP HX
  obtain ⟨n, hn⟩ : ∃ n, (s.data.toList.takeWhile isDig).length = n := ⟨_, rfl⟩
  rw [hn] at hP HX
  have HN := Lib.hid hn
  clear hn
  obtain ⟨x, ok⟩ := y
  simp only at HX
  have hix0 := run_idx hc
  simp only [Int.natCast_zero] at hix0
  have h01 : (0 : Int) < (s.size : Int) := by have := HZ.out; have := (List.getElem?_eq_some_iff.1 hc).1; omega
  have hA := fun w => rletter c w
  rw [hl] at hA
  have hD := fun w => rdecimal c w
  rw [hd] at hD
  clear hc hl hd
  go_enter Tryz.func180, Tryz.ntmps180
  go_wp2_with (first
    | (go_at_call 121; refine (hA _).mono ?_; rintro e w1 ⟨rfl, rfl⟩)
    | (go_at_call 179; refine (hD _).mono ?_; rintro e w1 ⟨rfl, rfl⟩))
  clear hD
  go_loop [5] (fun i => ∃ k : Nat, k ≤ s.size ∧ i = .int .i64 k ∧ Hid (allTo isDig s.data.toList k)) (fun i => s.size - (intOf i).toNat)
  case atStart => exact ⟨0, Nat.zero_le _, rfl, allTo.zero _ _⟩
  case round =>
    obtain ⟨k, hk, rfl, hH⟩ := hrel
    by_cases hgo : ∃ c, s.data.toList[k]? = some c ∧ isDig c = true
    · obtain ⟨c, hc, hd⟩ := hgo
      have hlt : k < s.size := by rw [HZ.out]; exact (List.getElem?_eq_some_iff.1 hc).1
      have hix := run_idx hc
      have hB := fun w => rdecimal c w
      rw [hd] at hB
      have HE := Lib.hid (hH.out.succ hc hd)
      have hk1 : (k : Int) < (s.size : Int) := by omega
      have hk0 : (0 : Int) ≤ (k : Int) := by omega
      clear hc hd
      go_wp2_with (go_at_call 179; refine (hB _).mono ?_; rintro e w1 ⟨rfl, rfl⟩)
      go_round
      case rel => exact ⟨k + 1, by omega, by go_num, HE⟩
      case measure => simp [intOf]; omega
    · have hkn : k = n := by
        rcases Nat.lt_or_ge k s.size with hlt | hge
        · obtain ⟨c, hc⟩ : ∃ c, s.data.toList[k]? = some c := ⟨_, List.getElem?_eq_getElem (by rw [← HZ.out]; exact hlt)⟩
          cases hd : isDig c
          · rw [← HN.out, hH.out.stop hc hd]
          · exact absurd ⟨c, hc, hd⟩ hgo
        · obtain rfl : k = s.data.toList.length := by have := HZ.out; omega
          rw [← HN.out, hH.out.end_]
      have HG := Lib.hid hgo
      clear hgo
      subst hkn
      have hk0 : (0 : Int) ≤ (k : Int) := by omega
      have hk2 : (k : Int) ≤ (s.size : Int) := by omega
      have key : ∃ (b1 b2 : Bool) (y : Tk × Nat × Int), ok = b1 ∧ (b1 = true → decide (4294967296 < x) = b2) ∧ scNu s.data.toList = y ∧ y = (if b1 = false then (Tk.zero, 0, 2) else if b2 = true then (Tk.zero, 0, 1) else (⟨2, [], x, 0⟩, k, 0)) := ⟨ok, decide (4294967296 < x), _, rfl, fun _ => rfl, HX.out, by simp⟩
      obtain ⟨b1, b2, y, rfl, hb2, hy, hy2⟩ := key
      have HY := Lib.hid hy
      clear hy
      rcases Nat.lt_or_ge k s.size with hlt | hge
      · obtain ⟨c, hc⟩ : ∃ c, s.data.toList[k]? = some c := ⟨_, List.getElem?_eq_getElem (by rw [← HZ.out]; exact hlt)⟩
        have hix := run_idx hc
        have hB := fun w => rdecimal c w
        rw [show isDig c = false by cases hd : isDig c; rfl; exact absurd ⟨c, hc, hd⟩ HG.out] at hB
        have hk1 : (k : Int) < (s.size : Int) := by omega
        clear hc
        cases ok
        · simp at hy2
          subst hy2
          go_wp2_with (first
            | (go_at_call 179; refine (hB _).mono ?_; rintro e w1 ⟨rfl, rfl⟩)
            | (go_at_call 232; refine (hP _).mono ?_; rintro e w1 ⟨rfl, rfl⟩))
          refine bodyPost_ret (by simp [results, Tryz.results180, go_sem]; rfl) rfl ?_
          unfold TkPost
          rw [HY.out]
          exact ⟨rfl, by (exact belQ)⟩
        · have hb3 := hb2 rfl
          clear hb2
          cases b2
          · have t4 : ¬ 4294967296 < x := by simpa using hb3
            simp at hy2
            subst hy2
            clear hb3
            go_wp2_with (first
              | (go_at_call 179; refine (hB _).mono ?_; rintro e w1 ⟨rfl, rfl⟩)
              | (go_at_call 232; refine (hP _).mono ?_; rintro e w1 ⟨rfl, rfl⟩))
            refine bodyPost_ret (by simp [results, Tryz.results180, go_sem]; rfl) rfl ?_
            unfold TkPost
            rw [HY.out]
            exact ⟨rfl, by (exact belQ)⟩
          · have t4 : 4294967296 < x := by simpa using hb3
            simp at hy2
            subst hy2
            clear hb3
            go_wp2_with (first
              | (go_at_call 179; refine (hB _).mono ?_; rintro e w1 ⟨rfl, rfl⟩)
              | (go_at_call 232; refine (hP _).mono ?_; rintro e w1 ⟨rfl, rfl⟩))
            refine bodyPost_ret (by simp [results, Tryz.results180, go_sem]; rfl) rfl ?_
            unfold TkPost
            rw [HY.out]
            exact ⟨rfl, by (exact belQ)⟩
      · have hk1 : ¬ (k : Int) < (s.size : Int) := by omega
        cases ok
        · simp at hy2
          subst hy2
          go_wp2_with (go_at_call 232; refine (hP _).mono ?_; rintro e w1 ⟨rfl, rfl⟩)
          refine bodyPost_ret (by simp [results, Tryz.results180, go_sem]; rfl) rfl ?_
          unfold TkPost
          rw [HY.out]
          exact ⟨rfl, by (exact belQ)⟩
        · have hb3 := hb2 rfl
          clear hb2
          cases b2
          · have t4 : ¬ 4294967296 < x := by simpa using hb3
            simp at hy2
            subst hy2
            clear hb3
            go_wp2_with (go_at_call 232; refine (hP _).mono ?_; rintro e w1 ⟨rfl, rfl⟩)
            refine bodyPost_ret (by simp [results, Tryz.results180, go_sem]; rfl) rfl ?_
            unfold TkPost
            rw [HY.out]
            exact ⟨rfl, by (exact belQ)⟩
          · have t4 : 4294967296 < x := by simpa using hb3
            simp at hy2
            subst hy2
            clear hb3
            go_wp2_with (go_at_call 232; refine (hP _).mono ?_; rintro e w1 ⟨rfl, rfl⟩)
            refine bodyPost_ret (by simp [results, Tryz.results180, go_sem]; rfl) rfl ?_
            unfold TkPost
            rw [HY.out]
            exact ⟨rfl, by (exact belQ)⟩
theorem scTx_ref {l : List UInt8} (h0 : l[0]? = some 34) : scTx l = if (unqO l).2 = 0 then (Tk.zero, 0, 2) else if 32 < (unqO l).1.length then (Tk.zero, 0, 1) else (⟨3, (unqO l).1, 0, 0⟩, (unqO l).2, 0) := by
  have h : l.head? = some 34 := by rw [head_at]; exact h0
  unfold scTx unqO
  rw [if_pos h]
  cases unqR (l.drop 1) with
  | none => rfl
  | some x => obtain ⟨t, k⟩ := x; simp
theorem unqO_le (l : List UInt8) : (unqO l).1.length ≤ l.length := by
  unfold unqO
  split
  · cases h : unqR (l.drop 1) with
    | none => simp
    | some x =>
      obtain ⟨t, k⟩ := x
      have := unqR_last _ (l.drop 1) (Nat.le_refl _) t k h
      simp only [List.length_drop] at this
      simp only
      omega
  · simp
theorem rtoken_c (s : ByteArray) (w : World) (hs : s.size ≤ 32768) (h0 : 0 < s.size) : Calls Tryz.prog 180 #[.string s] w (TkPost w (tokO s.data.toList)) := by
  have HZ := Lib.hid (Lib.size_eq s)
  obtain ⟨c, hc⟩ : ∃ c, s.data.toList[0]? = some c := ⟨_, List.getElem?_eq_getElem (by rw [← HZ.out]; exact h0)⟩
  have HT := Lib.hid (tokO_at hc)
  cases hl : isLet c
  case true =>
    rw [HT.out, hl, if_pos rfl]
    exact rtoken_name s c w hs hc hl
  cases hd : isDig c
  case true =>
    rw [HT.out, hl, hd, if_neg (by simp), if_pos rfl]
    exact rtoken_num s c w hs hc hl hd
  have hix := run_idx hc
  simp only [Int.natCast_zero] at hix
  have h01 : (0 : Int) < (s.size : Int) := by omega
  have hA := fun w => rletter c w
  have hB := fun w => rdecimal c w
  have e34 := eqByte c 34 (by omega)
  simp only [Int.cast_ofNat_Int] at e34
  have HC := Lib.hid hc
  rw [hl] at hA
  rw [hd] at hB
  clear hc
  by_cases h34 : c = 34
  · have hR : tokO s.data.toList = scTx s.data.toList := by rw [HT.out, hl, hd, if_neg (by simp), if_neg (by simp), if_pos h34]
    rw [hR, scTx_ref (h34 ▸ HC.out)]
    have hX := fun w1 => unquote_c s w1 (by omega)
    have t34 : ((c.toNat : Int) == 34) = true := by rw [e34]; simpa using h34
    have hle := unqO_le s.data.toList
    generalize unqO s.data.toList = y at hX hle
    obtain ⟨tx, n⟩ := y
    unfold UqPost at hX
    simp only at hX hle
    have hz : (⟨tx.toArray⟩ : ByteArray).size = tx.length := by rw [Lib.size_eq]
    have HZT := Lib.hid hz
    clear hl hd h34 e34 hR hz
    by_cases hn : n = 0
    · have tn : ((n : Int) == 0) = true := by rw [beq_iff_eq]; omega
      rw [if_pos (show (tx, n).2 = 0 from hn)]
      clear hn
      go_enter Tryz.func180, Tryz.ntmps180
      go_wp2_with (first
        | (go_at_call 121; refine (hA _).mono ?_; rintro e w1 ⟨rfl, rfl⟩)
        | (go_at_call 179; refine (hB _).mono ?_; rintro e w1 ⟨rfl, rfl⟩)
        | (go_at_call 233; refine (hX _).mono ?_; rintro e w1 ⟨rfl, hb1⟩; obtain ⟨hc1, hf1⟩ := bcell hb1; have hz1 := (hb1).size; (try simp at hz1); have hl10 : w.heap.size < w1.heap.size := (by omega)))
      refine bodyPost_ret (by simp [results, Tryz.results180, go_sem, *]; rfl) rfl ?_
      exact ⟨rfl, by (exact belQ)⟩
    · have tn : ((n : Int) == 0) = false := by rw [beq_eq_false_iff_ne]; omega
      rw [if_neg (show ¬ (tx, n).2 = 0 from hn)]
      by_cases h32 : 32 < tx.length
      · rw [if_pos (show 32 < (tx, n).1.length from h32)]
        have t32 : (32 : Int) < ((⟨tx.toArray⟩ : ByteArray).size : Int) := by have := HZT.out; omega
        clear hn h32
        generalize (⟨tx.toArray⟩ : ByteArray) = ts at hX t32
        go_enter Tryz.func180, Tryz.ntmps180
        go_wp2_with (first
          | (go_at_call 121; refine (hA _).mono ?_; rintro e w1 ⟨rfl, rfl⟩)
          | (go_at_call 179; refine (hB _).mono ?_; rintro e w1 ⟨rfl, rfl⟩)
          | (go_at_call 233; refine (hX _).mono ?_; rintro e w1 ⟨rfl, hb1⟩; obtain ⟨hc1, hf1⟩ := bcell hb1; have hz1 := (hb1).size; (try simp at hz1); have hl10 : w.heap.size < w1.heap.size := (by omega)))
        refine bodyPost_ret (by simp [results, Tryz.results180, go_sem, *]; rfl) rfl ?_
        exact ⟨rfl, by (exact belQ)⟩
      · rw [if_neg (show ¬ 32 < (tx, n).1.length from h32)]
        have t32 : ¬ (32 : Int) < ((⟨tx.toArray⟩ : ByteArray).size : Int) := by have := HZT.out; omega
        unfold TkPost
        simp only
        clear hn h32
        generalize (⟨tx.toArray⟩ : ByteArray) = ts at hX t32
        go_enter Tryz.func180, Tryz.ntmps180
        go_wp2_with (first
          | (go_at_call 121; refine (hA _).mono ?_; rintro e w1 ⟨rfl, rfl⟩)
          | (go_at_call 179; refine (hB _).mono ?_; rintro e w1 ⟨rfl, rfl⟩)
          | (go_at_call 233; refine (hX _).mono ?_; rintro e w1 ⟨rfl, hb1⟩; obtain ⟨hc1, hf1⟩ := bcell hb1; have hz1 := (hb1).size; (try simp at hz1); have hl10 : w.heap.size < w1.heap.size := (by omega)))
        refine bodyPost_ret (by simp [results, Tryz.results180, go_sem, *]; rfl) rfl ?_
        exact ⟨rfl, by (exact belQ)⟩
  · have HR := Lib.hid (show tokO s.data.toList = scSg s.data.toList by rw [HT.out, hl, hd, if_neg (by simp), if_neg (by simp), if_neg h34])
    have t34 : ((c.toNat : Int) == 34) = false := by rw [e34]; simpa using h34
    have hX := fun w => rsign s w
    have hle := signLen_le s.data.toList
    rw [← HZ.out] at hle
    have HX := Lib.hid (show scSg s.data.toList = if signLen s.data.toList = 0 then (Tk.zero, 0, 2) else (⟨4, s.data.toList.take (signLen s.data.toList), 0, 0⟩, signLen s.data.toList, 0) from rfl)
    rw [HR.out]
    generalize signLen s.data.toList = n at hX hle HX
    clear hl hd h34 e34
    by_cases hn : n = 0
    · have tn : ((n : Int) == 0) = true := by rw [beq_iff_eq]; omega
      have HR2 := Lib.hid (show scSg s.data.toList = (Tk.zero, 0, 2) by rw [HX.out, if_pos hn])
      rw [HR2.out]
      clear hn
      go_enter Tryz.func180, Tryz.ntmps180
      go_wp2_with (first
        | (go_at_call 121; refine (hA _).mono ?_; rintro e w1 ⟨rfl, rfl⟩)
        | (go_at_call 179; refine (hB _).mono ?_; rintro e w1 ⟨rfl, rfl⟩)
        | (go_at_call 234; refine (hX _).mono ?_; rintro e w1 ⟨rfl, rfl⟩))
      refine bodyPost_ret (by simp [results, Tryz.results180, go_sem]; rfl) rfl ?_
      exact ⟨rfl, by (exact belQ)⟩
    · have tn : ((n : Int) == 0) = false := by rw [beq_eq_false_iff_ne]; omega
      have HR2 := Lib.hid (show scSg s.data.toList = (⟨4, s.data.toList.take n, 0, 0⟩, n, 0) by rw [HX.out, if_neg hn])
      have HM := Lib.hid (mk_take s n)
      have hn0 : (0 : Int) ≤ (n : Int) := by omega
      have hn1 : (n : Int) ≤ (s.size : Int) := by omega
      rw [HR2.out]
      clear hn
      go_enter Tryz.func180, Tryz.ntmps180
      go_wp2_with (first
        | (go_at_call 121; refine (hA _).mono ?_; rintro e w1 ⟨rfl, rfl⟩)
        | (go_at_call 179; refine (hB _).mono ?_; rintro e w1 ⟨rfl, rfl⟩)
        | (go_at_call 234; refine (hX _).mono ?_; rintro e w1 ⟨rfl, rfl⟩))
      refine bodyPost_ret (by simp [results, Tryz.results180, go_sem]; rfl) rfl ?_
      unfold TkPost
      rw [HM.out]
      exact ⟨rfl, by (exact belQ)⟩
end Go.Proofs.YtpnfbehbheddeaaGreatDoor
