/- Contracts of the program's scanName, scanNumber, scanText and scanToken: strings of at most 32768 bytes; where the variable ErrRange can be read. -/
import Derived.Test.YtpnfbehbheddeaaGreatDoorBn16
namespace Go.Proofs.YtpnfbehbheddeaaGreatDoor
set_option maxRecDepth 100000
set_option maxHeartbeats 8000000
set_option linter.unusedVariables false
set_option linter.unusedSimpArgs false
open Go.RowKit
def scNm (l : List UInt8) : Tk × Nat × Int := if 16 < nameLen l then (Tk.zero, 0, 1) else (⟨1, l.take (nameLen l), 0, 0⟩, nameLen l, 0)
def scNu (l : List UInt8) : Tk × Nat × Int := if (pInt (l.takeWhile isDig)).2 ≠ 0 then (Tk.zero, 0, (pInt (l.takeWhile isDig)).2) else (⟨2, [], (pInt (l.takeWhile isDig)).1.n, 0⟩, (l.takeWhile isDig).length, 0)
def scTx (l : List UInt8) : Tk × Nat × Int := match unqR (l.drop 1) with
  | none => (Tk.zero, 0, 2)
  | some (t, k) => if 32 < t.length then (Tk.zero, 0, 1) else (⟨3, t, 0, 0⟩, k + 1, 0)
def scSg (l : List UInt8) : Tk × Nat × Int := if signLen l = 0 then (Tk.zero, 0, 2) else (⟨4, l.take (signLen l), 0, 0⟩, signLen l, 0)
theorem tokO_eq (l : List UInt8) : tokO l = if isLet (l.getD 0 0) then scNm l else if isDig (l.getD 0 0) then scNu l else if l.getD 0 0 = 34 then scTx l else scSg l := rfl
theorem tokO_at {l : List UInt8} {c : UInt8} (h : l[0]? = some c) : tokO l = if isLet c then scNm l else if isDig c then scNu l else if c = 34 then scTx l else scSg l := by
  have e : l.getD 0 0 = c := by rw [List.getD_eq_getElem?_getD, h]; rfl
  rw [tokO_eq, e]
def TkPost (w : World) (x : Tk × Nat × Int) (e : Ending) (w' : World) : Prop := e = .returned (.tuple #[.agg #[.int .i64 ((x.1)).kind, .string ⟨((x.1)).text.toArray⟩, .int .i64 ((x.1)).int, .int .i64 ((x.1)).pos], .int .i64 (x.2.1 : Int), .int .i64 x.2.2]) ∧ Below w.heap.size w w'
theorem xscanName (s : ByteArray) (w : World) (hs : s.size ≤ 32768) : Calls Tryz.prog 80 #[.string s] w (TkPost w (scNm s.data.toList)) := by
  have hL := fun w => xnameLength s w (by omega)
  have hle := nameLen_le s.data.toList
  rw [← Lib.size_eq] at hle
  have HX := Lib.hid (show scNm s.data.toList = if 16 < nameLen s.data.toList then (Tk.zero, 0, 1) else (⟨1, s.data.toList.take (nameLen s.data.toList), 0, 0⟩, nameLen s.data.toList, 0) from rfl)
  generalize nameLen s.data.toList = n at hL hle HX
  by_cases h16 : 16 < n
  · have t16 : (16 : Int) < (n : Int) := by omega
    have HR := Lib.hid (show scNm s.data.toList = (Tk.zero, 0, 1) by rw [HX.out, if_pos h16])
    go_enter Tryz.func80, Tryz.ntmps80
    go_wp2_with (go_at_call 64; refine (hL _).mono ?_; rintro e w1 ⟨rfl, rfl⟩)
    refine bodyPost_ret (by simp [results, Tryz.results80, go_sem]; rfl) rfl ?_
    unfold TkPost
    rw [HR.out]
    exact ⟨rfl, by (exact belQ)⟩
  · have t16 : ¬ (16 : Int) < (n : Int) := by omega
    have HR := Lib.hid (show scNm s.data.toList = (⟨1, s.data.toList.take n, 0, 0⟩, n, 0) by rw [HX.out, if_neg h16])
    have HM := Lib.hid (mk_take s n)
    have hn0 : (0 : Int) ≤ (n : Int) := by omega
    have hn1 : (n : Int) ≤ (s.size : Int) := by omega
    go_enter Tryz.func80, Tryz.ntmps80
    go_wp2_with (go_at_call 64; refine (hL _).mono ?_; rintro e w1 ⟨rfl, rfl⟩)
    refine bodyPost_ret (by simp [results, Tryz.results80, go_sem]; rfl) rfl ?_
    unfold TkPost
    rw [HR.out, HM.out]
    exact ⟨rfl, by (exact belQ)⟩
theorem parse_digs {l : List UInt8} : parseO (l.takeWhile isDig) = pInt (l.takeWhile isDig) := by
  refine parse_digits _ (fun c h => .inl ?_)
  have := all_takeWhile (p := isDig) l
  refine List.all_eq_true.1 this c ?_
  cases hl : l.takeWhile isDig with
  | nil => rw [hl] at h; cases h
  | cons d r => rw [hl] at h; simp at h; subst h; simp
theorem xscanNumber (s : ByteArray) (w : World) (hs : s.size ≤ 32768) (hE : GE w) : Calls Tryz.prog 82 #[.string s] w (TkPost w (scNu s.data.toList)) := by
  have HZ := Lib.hid (Lib.size_eq s)
  have hP := fun w h => vparse (s.extract 0 (s.data.toList.takeWhile isDig).length) w (by have := Lib.size_eq (s.extract 0 (s.data.toList.takeWhile isDig).length); rw [take_extract, List.length_take] at this; have := HZ.out; omega) h
  simp only [take_extract, take_takeWhile, parse_digs] at hP
  have HX := Lib.hid (show scNu s.data.toList = if (pInt (s.data.toList.takeWhile isDig)).2 ≠ 0 then (Tk.zero, 0, (pInt (s.data.toList.takeWhile isDig)).2) else (⟨2, [], (pInt (s.data.toList.takeWhile isDig)).1.n, 0⟩, (s.data.toList.takeWhile isDig).length, 0) from rfl)
  generalize pInt (s.data.toList.takeWhile isDig) = y at hP HX
  obtain ⟨n, hn⟩ : ∃ n, (s.data.toList.takeWhile isDig).length = n := ⟨_, rfl⟩
  rw [hn] at hP HX
  have HN := Lib.hid hn
  clear hn
  obtain ⟨v, ec⟩ := y
  simp only at HX
  go_enter Tryz.func82, Tryz.ntmps82
  go_wp2_with fail
  go_loop [5] (fun i => ∃ k : Nat, k ≤ s.size ∧ i = .int .i64 k ∧ Hid (allTo isDig s.data.toList k)) (fun i => s.size - (intOf i).toNat)
  case atStart => exact ⟨0, Nat.zero_le _, rfl, allTo.zero _ _⟩
  case round =>
    obtain ⟨k, hk, rfl, hH⟩ := hrel
    by_cases hgo : ∃ c, s.data.toList[k]? = some c ∧ isDig c = true
    · obtain ⟨c, hc, hd⟩ := hgo
      have hlt : k < s.size := by rw [HZ.out]; exact (List.getElem?_eq_some_iff.1 hc).1
      have hix := run_idx hc
      have hB := fun w => xdigit c w
      rw [hd] at hB
      have HE := Lib.hid (hH.out.succ hc hd)
      have hk1 : (k : Int) < (s.size : Int) := by omega
      have hk0 : (0 : Int) ≤ (k : Int) := by omega
      clear hc hd
      go_wp2_with (go_at_call 81; refine (hB _).mono ?_; rintro e w1 ⟨rfl, rfl⟩)
      go_round
      case rel => exact ⟨k + 1, by omega, by go_num, HE⟩
      case measure => simp [intOf]; omega
    · have hkn : k = n := by
        rcases Nat.lt_or_ge k s.size with hlt | hge
        · obtain ⟨c, hc⟩ : ∃ c, s.data.toList[k]? = some c := ⟨_, List.getElem?_eq_getElem (by rw [← HZ.out]; exact hlt)⟩
          cases hd : isDig c
          · rw [← HN.out, hH.out.stop hc hd]
          · exact absurd ⟨c, hc, hd⟩ hgo
        · obtain rfl : k = s.data.toList.length := by have := HZ.out; omega
          rw [← HN.out, hH.out.end_]
      have HG := Lib.hid hgo
      clear hgo
      subst hkn
      have hk0 : (0 : Int) ≤ (k : Int) := by omega
      have hk2 : (k : Int) ≤ (s.size : Int) := by omega
      have hP2 := fun w1 hb => hP w1 (GE.below hE hb)
      clear hP
      by_cases he : ec = 0
      · subst he
        have HR := Lib.hid (show scNu s.data.toList = (⟨2, [], v.n, 0⟩, k, 0) by rw [HX.out, if_neg (by simp)])
        rcases Nat.lt_or_ge k s.size with hlt | hge
        · obtain ⟨c, hc⟩ : ∃ c, s.data.toList[k]? = some c := ⟨_, List.getElem?_eq_getElem (by rw [← HZ.out]; exact hlt)⟩
          have hix := run_idx hc
          have hB := fun w => xdigit c w
          rw [show isDig c = false by cases hd : isDig c; rfl; exact absurd ⟨c, hc, hd⟩ HG.out] at hB
          have hk1 : (k : Int) < (s.size : Int) := by omega
          clear hc
          go_wp2_with (first
            | (go_at_call 81; refine (hB _).mono ?_; rintro e w1 ⟨rfl, rfl⟩)
            | (go_at_call 127; refine (hP2 _ (by (exact belQ))).mono ?_; rintro e w1 ⟨rfl, hb1⟩; obtain ⟨hc1, hf1⟩ := bcell hb1; have hz1 := (hb1).size; (try simp at hz1); have hl10 : w.heap.size < w1.heap.size := (by omega)))
          refine bodyPost_ret (by simp [results, Tryz.results82, go_sem, *]; rfl) rfl ?_
          unfold TkPost
          rw [HR.out]
          exact ⟨rfl, by (exact belQ)⟩
        · have hk1 : ¬ (k : Int) < (s.size : Int) := by omega
          go_wp2_with (go_at_call 127; refine (hP2 _ (by (exact belQ))).mono ?_; rintro e w1 ⟨rfl, hb1⟩; obtain ⟨hc1, hf1⟩ := bcell hb1; have hz1 := (hb1).size; (try simp at hz1); have hl10 : w.heap.size < w1.heap.size := (by omega))
          refine bodyPost_ret (by simp [results, Tryz.results82, go_sem, *]; rfl) rfl ?_
          unfold TkPost
          rw [HR.out]
          exact ⟨rfl, by (exact belQ)⟩
      · have te : (ec != 0) = true := by rw [bne_iff_ne]; exact he
        have HR := Lib.hid (show scNu s.data.toList = (Tk.zero, 0, ec) by rw [HX.out, if_pos he])
        clear he
        rcases Nat.lt_or_ge k s.size with hlt | hge
        · obtain ⟨c, hc⟩ : ∃ c, s.data.toList[k]? = some c := ⟨_, List.getElem?_eq_getElem (by rw [← HZ.out]; exact hlt)⟩
          have hix := run_idx hc
          have hB := fun w => xdigit c w
          rw [show isDig c = false by cases hd : isDig c; rfl; exact absurd ⟨c, hc, hd⟩ HG.out] at hB
          have hk1 : (k : Int) < (s.size : Int) := by omega
          clear hc
          go_wp2_with (first
            | (go_at_call 81; refine (hB _).mono ?_; rintro e w1 ⟨rfl, rfl⟩)
            | (go_at_call 127; refine (hP2 _ (by (exact belQ))).mono ?_; rintro e w1 ⟨rfl, hb1⟩; obtain ⟨hc1, hf1⟩ := bcell hb1; have hz1 := (hb1).size; (try simp at hz1); have hl10 : w.heap.size < w1.heap.size := (by omega)))
          refine bodyPost_ret (by simp [results, Tryz.results82, go_sem, *]; rfl) rfl ?_
          unfold TkPost
          rw [HR.out]
          exact ⟨rfl, by (exact belQ)⟩
        · have hk1 : ¬ (k : Int) < (s.size : Int) := by omega
          go_wp2_with (go_at_call 127; refine (hP2 _ (by (exact belQ))).mono ?_; rintro e w1 ⟨rfl, hb1⟩; obtain ⟨hc1, hf1⟩ := bcell hb1; have hz1 := (hb1).size; (try simp at hz1); have hl10 : w.heap.size < w1.heap.size := (by omega))
          refine bodyPost_ret (by simp [results, Tryz.results82, go_sem, *]; rfl) rfl ?_
          unfold TkPost
          rw [HR.out]
          exact ⟨rfl, by (exact belQ)⟩
theorem indexByte_cases (c : UInt8) : ∀ l : List UInt8, (Lib.indexByte l c = -1 ∧ ∀ x ∈ l, x ≠ c) ∨ ∃ p rest, l = p ++ c :: rest ∧ (∀ x ∈ p, x ≠ c) ∧ Lib.indexByte l c = p.length := by
  intro l
  induction l with
  | nil => exact .inl ⟨rfl, by simp⟩
  | cons b l ih =>
    by_cases hb : b = c
    · subst hb
      exact .inr ⟨[], l, rfl, by simp, by simp [Lib.indexByte]⟩
    · rcases ih with ⟨h1, h2⟩ | ⟨p, rest, h1, h2, h3⟩
      · refine .inl ⟨by simp [Lib.indexByte, hb, h1], ?_⟩
        intro x hx
        rcases List.mem_cons.1 hx with rfl | hx
        · exact hb
        · exact h2 x hx
      · refine .inr ⟨b :: p, rest, by rw [h1]; rfl, ?_, ?_⟩
        · intro x hx
          rcases List.mem_cons.1 hx with rfl | hx
          · exact hb
          · exact h2 x hx
        · have : ¬ ((p.length : Int) = -1) := by omega
          simp [Lib.indexByte, hb, h3, this]
theorem scTx_prog {l : List UInt8} (h0 : l[0]? = some 34) : (Lib.indexByte (l.drop 1) 34 = -1 ∧ scTx l = (Tk.zero, 0, 2)) ∨ ∃ m : Nat, Lib.indexByte (l.drop 1) 34 = m ∧ m + 2 ≤ l.length ∧ scTx l = if (parseO (l.take (m + 2))).2 ≠ 0 then (Tk.zero, 0, (parseO (l.take (m + 2))).2) else (⟨3, (parseO (l.take (m + 2))).1.s.data.toList, 0, 0⟩, m + 2, 0) := by
  cases l with
  | nil => simp at h0
  | cons c r =>
    simp at h0
    subst h0
    have hd : (34 :: r).drop 1 = r := rfl
    unfold scTx
    rw [hd]
    rcases indexByte_cases 34 r with ⟨h1, h2⟩ | ⟨p, rest, h1, h2, h3⟩
    · exact .inl ⟨h1, by rw [unqR_open _ r (Nat.le_refl _) h2]⟩
    · refine .inr ⟨p.length, h3, by rw [h1]; simp, ?_⟩
      obtain ⟨u1, u2⟩ := unqR_prefix _ p rest (Nat.le_refl _) h2
      have ht : (34 :: r).take (p.length + 2) = 34 :: (p ++ [34]) := by
        rw [h1, List.take_succ_cons]
        congr 1
        rw [show p ++ 34 :: rest = (p ++ [34]) ++ rest by simp, List.take_left' (by simp)]
      have hq : parseO (34 :: (p ++ [34])) = pText (34 :: (p ++ [34])) := by
        unfold parseO
        rw [if_neg (by intro e; injection e with e1 _; revert e1; decide), if_pos (by simp)]
      rw [ht, hq, h1, u1]
      unfold pText
      have hd2 : (34 :: (p ++ [34])).drop 1 = p ++ [34] := rfl
      rw [hd2]
      cases hu : unqR (p ++ [34]) with
      | none => simp
      | some x =>
        obtain ⟨t, k⟩ := x
        have hk := u2 t k hu
        subst hk
        have e : ¬ (p.length + 1 + 1 ≠ (34 :: (p ++ [34])).length) := by simp
        simp only
        rw [if_neg e]
        by_cases h32 : 32 < t.length
        · rw [if_pos h32, if_pos h32, if_pos (by decide)]
        · rw [if_neg h32, if_neg h32, if_neg (by simp)]
theorem sub_extract (s : ByteArray) (k : Nat) : (s.extract k s.size).data.toList = s.data.toList.drop k := drop_size s k
theorem idx34_c (s : ByteArray) (w : World) : Calls Tryz.prog 128 #[.string s, .int .u8 34] w fun e w' => e = .returned (.int .i64 (Lib.indexByte s.data.toList 34)) ∧ w = w' :=
  (Tryz.strings_IndexByte _ _ _).mono fun _ _ h => ⟨h.1.trans rfl, h.2.symm⟩
theorem xscanText (s : ByteArray) (w : World) (hs : s.size ≤ 32768) (h0 : s.data.toList[0]? = some 34) (hE : GE w) : Calls Tryz.prog 83 #[.string s] w (TkPost w (scTx s.data.toList)) := by
  have HZ := Lib.hid (Lib.size_eq s)
  have hI := fun w => idx34_c (s.extract 1 s.size) w
  have hs1 : (1 : Int) ≤ (s.size : Int) := by have := HZ.out; have := (List.getElem?_eq_some_iff.1 h0).1; omega
  simp only [sub_extract] at hI
  have hX := scTx_prog h0
  clear h0
  generalize Lib.indexByte (s.data.toList.drop 1) 34 = q at hI hX
  rcases hX with ⟨rfl, hX⟩ | ⟨m, rfl, hm, hX⟩
  · have HR := Lib.hid hX
    clear hX
    go_enter Tryz.func83, Tryz.ntmps83
    go_wp2_with (go_at_call 128; refine (hI _).mono ?_; rintro e w1 ⟨rfl, rfl⟩)
    refine bodyPost_ret (by simp [results, Tryz.results83, go_sem]; rfl) rfl ?_
    unfold TkPost
    rw [HR.out]
    exact ⟨rfl, by (exact belQ)⟩
  · have hP := fun w1 hb => vparse (s.extract 0 (m + 2)) w1 (by have := Lib.size_eq (s.extract 0 (m + 2)); rw [take_extract, List.length_take] at this; have := HZ.out; omega) (GE.below hE hb)
    simp only [take_extract] at hP
    rw [← HZ.out] at hm
    generalize parseO (s.data.toList.take (m + 2)) = y at hP hX
    obtain ⟨v, ec⟩ := y
    simp only at hX
    have hm0 : ¬ (m : Int) < 0 := by omega
    have hm1 : (0 : Int) ≤ (m : Int) + 2 := by omega
    have hm2 : (m : Int) + 2 ≤ (s.size : Int) := by omega
    have hm3 : ((m : Int) + 2).toNat = m + 2 := by omega
    by_cases he : ec = 0
    · subst he
      have HR := Lib.hid (show scTx s.data.toList = (⟨3, v.s.data.toList, 0, 0⟩, m + 2, 0) by rw [hX, if_neg (by simp)])
      clear hX
      go_enter Tryz.func83, Tryz.ntmps83
      go_wp2_with (first
        | (go_at_call 128; refine (hI _).mono ?_; rintro e w1 ⟨rfl, rfl⟩)
        | (go_at_call 127; refine (hP _ (by (exact belQ))).mono ?_; rintro e w1 ⟨rfl, hb1⟩; obtain ⟨hc1, hf1⟩ := bcell hb1; have hz1 := (hb1).size; (try simp at hz1); have hl10 : w.heap.size < w1.heap.size := (by omega)))
      refine bodyPost_ret (by simp [results, Tryz.results83, go_sem, *]; rfl) rfl ?_
      unfold TkPost
      rw [HR.out]
      exact ⟨rfl, by (exact belQ)⟩
    · have te : (ec != 0) = true := by rw [bne_iff_ne]; exact he
      have HR := Lib.hid (show scTx s.data.toList = (Tk.zero, 0, ec) by rw [hX, if_pos he])
      clear hX he
      go_enter Tryz.func83, Tryz.ntmps83
      go_wp2_with (first
        | (go_at_call 128; refine (hI _).mono ?_; rintro e w1 ⟨rfl, rfl⟩)
        | (go_at_call 127; refine (hP _ (by (exact belQ))).mono ?_; rintro e w1 ⟨rfl, hb1⟩; obtain ⟨hc1, hf1⟩ := bcell hb1; have hz1 := (hb1).size; (try simp at hz1); have hl10 : w.heap.size < w1.heap.size := (by omega)))
      refine bodyPost_ret (by simp [results, Tryz.results83, go_sem, *]; rfl) rfl ?_
      unfold TkPost
      rw [HR.out]
      exact ⟨rfl, by (exact belQ)⟩
theorem xscanToken (s : ByteArray) (w : World) (hs : s.size ≤ 32768) (h0 : 0 < s.size) (hE : GE w) : Calls Tryz.prog 42 #[.string s] w (TkPost w (tokO s.data.toList)) := by
  have HZ := Lib.hid (Lib.size_eq s)
  obtain ⟨c, hc⟩ : ∃ c, s.data.toList[0]? = some c := ⟨_, List.getElem?_eq_getElem (by rw [← HZ.out]; exact h0)⟩
  have HT := Lib.hid (tokO_at hc)
  have hix := run_idx hc
  simp only [Int.natCast_zero] at hix
  have h01 : (0 : Int) < (s.size : Int) := by omega
  have hA := fun w => xletter c w
  have hB := fun w => xdigit c w
  have e34 := eqByte c 34 (by omega)
  simp only [Int.cast_ofNat_Int] at e34
  have HC := Lib.hid hc
  clear hc
  cases hl : isLet c
  · rw [hl] at hA
    cases hd : isDig c
    · rw [hd] at hB
      by_cases h34 : c = 34
      · have HR := Lib.hid (show tokO s.data.toList = scTx s.data.toList by rw [HT.out, hl, hd, if_neg (by simp), if_neg (by simp), if_pos h34])
        have hX := fun w1 hb => xscanText s w1 hs (h34 ▸ HC.out) (GE.below hE hb)
        have t34 : ((c.toNat : Int) == 34) = true := by rw [e34]; simpa using h34
        rw [HR.out]
        generalize scTx s.data.toList = y at hX
        clear hl hd h34 e34
        go_enter Tryz.func42, Tryz.ntmps42
        go_wp2_with (first
          | (go_at_call 79; refine (hA _).mono ?_; rintro e w1 ⟨rfl, rfl⟩)
          | (go_at_call 81; refine (hB _).mono ?_; rintro e w1 ⟨rfl, rfl⟩)
          | (go_at_call 83; refine (hX _ (by (exact belQ))).mono ?_; rintro e w1 ⟨rfl, hb1⟩; obtain ⟨hc1, hf1⟩ := bcell hb1; have hz1 := (hb1).size; (try simp at hz1); have hl10 : w.heap.size < w1.heap.size := (by omega)))
        refine bodyPost_ret (by simp [results, Tryz.results42, go_sem, *]; rfl) rfl ?_
        exact ⟨rfl, by (exact belQ)⟩
      · have HR := Lib.hid (show tokO s.data.toList = scSg s.data.toList by rw [HT.out, hl, hd, if_neg (by simp), if_neg (by simp), if_neg h34])
        have t34 : ((c.toNat : Int) == 34) = false := by rw [e34]; simpa using h34
        have hX := fun w => xsignLength s w
        have hle := signLen_le s.data.toList
        rw [← HZ.out] at hle
        have HX := Lib.hid (show scSg s.data.toList = if signLen s.data.toList = 0 then (Tk.zero, 0, 2) else (⟨4, s.data.toList.take (signLen s.data.toList), 0, 0⟩, signLen s.data.toList, 0) from rfl)
        rw [HR.out]
        generalize signLen s.data.toList = n at hX hle HX
        clear hl hd h34 e34
        by_cases hn : n = 0
        · have tn : ((n : Int) == 0) = true := by rw [beq_iff_eq]; omega
          have HR2 := Lib.hid (show scSg s.data.toList = (Tk.zero, 0, 2) by rw [HX.out, if_pos hn])
          rw [HR2.out]
          clear hn
          go_enter Tryz.func42, Tryz.ntmps42
          go_wp2_with (first
            | (go_at_call 79; refine (hA _).mono ?_; rintro e w1 ⟨rfl, rfl⟩)
            | (go_at_call 81; refine (hB _).mono ?_; rintro e w1 ⟨rfl, rfl⟩)
            | (go_at_call 84; refine (hX _).mono ?_; rintro e w1 ⟨rfl, rfl⟩))
          refine bodyPost_ret (by simp [results, Tryz.results42, go_sem]; rfl) rfl ?_
          exact ⟨rfl, by (exact belQ)⟩
        · have tn : ((n : Int) == 0) = false := by rw [beq_eq_false_iff_ne]; omega
          have HR2 := Lib.hid (show scSg s.data.toList = (⟨4, s.data.toList.take n, 0, 0⟩, n, 0) by rw [HX.out, if_neg hn])
          have HM := Lib.hid (mk_take s n)
          have hn0 : (0 : Int) ≤ (n : Int) := by omega
          have hn1 : (n : Int) ≤ (s.size : Int) := by omega
          rw [HR2.out]
          clear hn
          go_enter Tryz.func42, Tryz.ntmps42
          go_wp2_with (first
            | (go_at_call 79; refine (hA _).mono ?_; rintro e w1 ⟨rfl, rfl⟩)
            | (go_at_call 81; refine (hB _).mono ?_; rintro e w1 ⟨rfl, rfl⟩)
            | (go_at_call 84; refine (hX _).mono ?_; rintro e w1 ⟨rfl, rfl⟩))
          refine bodyPost_ret (by simp [results, Tryz.results42, go_sem]; rfl) rfl ?_
          unfold TkPost
          rw [HM.out]
          exact ⟨rfl, by (exact belQ)⟩
    · rw [hd] at hB
      have HR := Lib.hid (show tokO s.data.toList = scNu s.data.toList by rw [HT.out, hl, hd, if_neg (by simp), if_pos rfl])
      have hX := fun w1 hb => xscanNumber s w1 hs (GE.below hE hb)
      rw [HR.out]
      generalize scNu s.data.toList = y at hX
      clear hl hd e34
      go_enter Tryz.func42, Tryz.ntmps42
      go_wp2_with (first
        | (go_at_call 79; refine (hA _).mono ?_; rintro e w1 ⟨rfl, rfl⟩)
        | (go_at_call 81; refine (hB _).mono ?_; rintro e w1 ⟨rfl, rfl⟩)
        | (go_at_call 82; refine (hX _ (by (exact belQ))).mono ?_; rintro e w1 ⟨rfl, hb1⟩; obtain ⟨hc1, hf1⟩ := bcell hb1; have hz1 := (hb1).size; (try simp at hz1); have hl10 : w.heap.size < w1.heap.size := (by omega)))
      refine bodyPost_ret (by simp [results, Tryz.results42, go_sem, *]; rfl) rfl ?_
      exact ⟨rfl, by (exact belQ)⟩
  · rw [hl] at hA
    have HR := Lib.hid (show tokO s.data.toList = scNm s.data.toList by rw [HT.out, hl, if_pos rfl])
    have hX := fun w => xscanName s w hs
    rw [HR.out]
    generalize scNm s.data.toList = y at hX
    clear hl e34
    go_enter Tryz.func42, Tryz.ntmps42
    go_wp2_with (first
      | (go_at_call 79; refine (hA _).mono ?_; rintro e w1 ⟨rfl, rfl⟩)
      | (go_at_call 80; refine (hX _).mono ?_; rintro e w1 ⟨rfl, hb1⟩; obtain ⟨hc1, hf1⟩ := bcell hb1; have hz1 := (hb1).size; (try simp at hz1); have hl10 : w.heap.size < w1.heap.size := (by omega)))
    refine bodyPost_ret (by simp [results, Tryz.results42, go_sem, *]; rfl) rfl ?_
    exact ⟨rfl, by (exact belQ)⟩
end Go.Proofs.YtpnfbehbheddeaaGreatDoor
