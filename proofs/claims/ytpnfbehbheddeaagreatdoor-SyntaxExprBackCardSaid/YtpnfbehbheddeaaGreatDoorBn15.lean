/- Contracts of parseInt and Parse: strings of at most a hundred thousand bytes; where the variable ErrRange can be read. Contracts of signLength and skip of the program; isSign, sign and IsName of the reference. Strings of at most 2^40 bytes. -/
import Derived.Test.YtpnfbehbheddeaaGreatDoorBn14
import Derived.Deep.CutRange
import Derived.Test.YtpnfbehbheddeaaGreatDoorShelf
import Derived.Test.YtpnfbehbheddeaaGreatDoorBn13
namespace Go.Proofs.YtpnfbehbheddeaaGreatDoor
set_option maxRecDepth 100000
set_option maxHeartbeats 8000000
set_option linter.unusedVariables false
set_option linter.unusedSimpArgs false
open Go.RowKit
def GE (w : World) : Prop := 5 < w.heap.size ∧ ∃ ev, w.cell? ⟨5, 0, none⟩ = some ev ∧ (ev = .nilIface ∨ ∃ te pe, ev = .iface te pe)
theorem GE.below {w w' : World} (h : GE w) (hb : Below w.heap.size w w') : GE w' := by
  obtain ⟨h1, ev, h2, h3⟩ := h
  exact ⟨Nat.lt_of_lt_of_le h1 hb.size, ev, (hb.cell (p := ⟨5, 0, none⟩) h1).trans h2, h3⟩
theorem trim_digs (l : List UInt8) : Lib.trimPrefix l [45] = digs l := by
  unfold Lib.trimPrefix Lib.hasPrefix digs
  cases l with
  | nil => simp
  | cons c r =>
    by_cases h : c = 45
    · subst h; simp
    · have : ¬ 45 = c := fun e => h e.symm
      simp [h, this]
theorem trim_c (s : ByteArray) (w : World) : Calls Tryz.prog 235 #[.string s, .string ⟨#[45]⟩] w fun e w' => e = .returned (.string ⟨(digs s.data.toList).toArray⟩) ∧ w = w' :=
  (Tryz.strings_TrimPrefix _ _ _).mono fun _ _ h => ⟨h.1.trans (ret_str (by rw [trim_digs])), h.2.symm⟩
theorem pre_34 (l : List UInt8) : Lib.hasPrefix l [34] = (l.head? == some 34) := by
  unfold Lib.hasPrefix
  cases l with
  | nil => simp
  | cons c r =>
    show ((34 : UInt8) == c && List.isPrefixOf [] r) = (some c == some 34)
    rw [Bool.eq_iff_iff]
    simp
    exact ⟨fun h => h.symm, fun h => h.symm⟩
theorem okInt (N : Int) (U : Nat) (h : N = U ∨ N = -(U : Int)) : (V.mk 1 N ⟨#[]⟩).ok = decide (¬ 4294967296 < U) := by
  have e : (V.mk 1 N ⟨#[]⟩).ok = (decide (-4294967296 ≤ N) && decide (N ≤ 4294967296)) := by
    have : (⟨#[]⟩ : ByteArray).size = 0 := rfl
    simp [V.ok, this]
  rw [e, Bool.eq_iff_iff]
  simp
  omega
theorem pre_c (s : ByteArray) (w : World) : Calls Tryz.prog 129 #[.string s, .string ⟨#[34]⟩] w fun e w' => e = .returned (.bool (s.data.toList.head? == some 34)) ∧ w = w' :=
  (Tryz.strings_HasPrefix _ _ _).mono fun _ _ h => ⟨h.1.trans (ret_bool (by rw [pre_34])), h.2.symm⟩
theorem below_conv {w w' : World} (h : w' = w ∨ ∃ t, w' = Lib.bytesWorld w 5 t) : Below w.heap.size w w' := by
  rcases h with rfl | ⟨t, rfl⟩
  · exact Below.refl _ _
  · exact below_bytes (Below.refl _ _) (Nat.le_refl _) _ _
theorem digs_size (s : ByteArray) : (⟨(digs s.data.toList).toArray⟩ : ByteArray).size ≤ s.size := by
  rw [Lib.size_eq, Lib.size_eq]
  simp only
  unfold digs
  split <;> simp
theorem minus_zero (l : List UInt8) (h : decB (digs l) = true) : (l == [45, 48]) = (negB l && decide (valF 0 (digs l) = 0)) := by
  rw [Bool.eq_iff_iff, beq_iff_eq, Bool.and_eq_true, decide_eq_true_eq, decB_zero h]
  constructor
  · rintro rfl; exact ⟨rfl, rfl⟩
  · rintro ⟨h1, h2⟩
    cases l with
    | nil => simp [negB] at h1
    | cons c r =>
      simp [negB] at h1
      subst h1
      simp [digs] at h2
      rw [h2]
theorem parseInt_c (s : ByteArray) (w : World) (hs : s.size ≤ 100000) (hE : GE w) : Calls Tryz.prog 183 #[.string s] w (VePost w (pInt s.data.toList)) := by
  have hD := fun w => decimal_c ⟨(digs s.data.toList).toArray⟩ w (by have := digs_size s; omega)
  have hT := trim_c s
  rw [show (⟨(digs s.data.toList).toArray⟩ : ByteArray).data.toList = digs s.data.toList from rfl] at hD
  generalize (⟨(digs s.data.toList).toArray⟩ : ByteArray) = ds at hD hT
  cases hd : decB (digs s.data.toList)
  · have HR := Lib.hid (show pInt s.data.toList = (V.null, 2) by unfold pInt; rw [if_pos (.inl hd)])
    have HD := Lib.hid hd
    clear hd
    go_enter Tryz.func183, Tryz.ntmps183
    go_wp2_with (first
      | (go_at_call 235; refine (hT _).mono ?_; rintro e w1 ⟨rfl, rfl⟩)
      | (go_at_call 236; refine (hD _).mono ?_; rintro e w2 ⟨rfl, hb2⟩; rw [HD.out]; obtain ⟨hc2, hf2⟩ := bcell hb2; have hz2 := (hb2).size; (try simp at hz2)))
    refine bodyPost_ret (by simp [results, Tryz.results183, go_sem, hc2]; rfl) rfl ?_
    unfold VePost
    rw [HR.out]
    exact ⟨rfl, by (exact belQ)⟩
  have HD := Lib.hid hd
  have hz := minus_zero s.data.toList hd
  cases hm : (negB s.data.toList && decide (valF 0 (digs s.data.toList) = 0))
  case true =>
    have hes' : (s.toList == [45, 48]) = true := by rw [Lib.toList_data]; exact hz.trans hm
    have HR := Lib.hid (show pInt s.data.toList = (V.null, 2) by unfold pInt; rw [if_pos (.inr (by simpa using hm))])
    clear hd hz hm
    go_enter Tryz.func183, Tryz.ntmps183
    go_wp2_with (first
      | (go_at_call 235; refine (hT _).mono ?_; rintro e w1 ⟨rfl, rfl⟩)
      | (go_at_call 236; refine (hD _).mono ?_; rintro e w2 ⟨rfl, hb2⟩; rw [HD.out]; obtain ⟨hc2, hf2⟩ := bcell hb2; have hz2 := (hb2).size; (try simp at hz2)))
    refine bodyPost_ret (by simp [results, Tryz.results183, go_sem, hc2]; rfl) rfl ?_
    unfold VePost
    rw [HR.out]
    exact ⟨rfl, by (exact belQ)⟩
  case false =>
    have hes' : (s.toList == [45, 48]) = false := by rw [Lib.toList_data]; exact hz.trans hm
    have HM := Lib.hid hm
    have hpi := parseIntB_dig hd
    have hpv : pInt s.data.toList = if 4294967296 < valF 0 (digs s.data.toList) then (V.null, 1) else (⟨1, if negB s.data.toList then -(valF 0 (digs s.data.toList) : Int) else valF 0 (digs s.data.toList), ⟨#[]⟩⟩, 0) := by
      unfold pInt
      rw [if_neg]
      rintro (h | ⟨h1, h2⟩)
      · rw [hd] at h; cases h
      · rw [h1, h2] at hm; simp at hm
    generalize hN : (if negB s.data.toList then -(valF 0 (digs s.data.toList) : Int) else (valF 0 (digs s.data.toList) : Int)) = N at hpi hpv
    generalize hU : valF 0 (digs s.data.toList) = U at hpi hpv hN
    have hNU : N = U ∨ N = -(U : Int) := by rw [← hN]; split <;> simp
    have HP := Lib.hid hpv
    clear hd hz hm hN hU hpv
    rcases hpi with hpi | ⟨hpi, hbig⟩
    · have HI := Lib.hid hpi
      clear hpi
      have hok := okInt N U hNU
      cases hbk : decide (¬ 4294967296 < U)
      · have HR := Lib.hid (show pInt s.data.toList = (V.null, 1) by rw [HP.out, if_pos (by simpa using hbk)])
        have HK := Lib.hid (hok.trans hbk)
        clear hok hbk
        go_enter Tryz.func183, Tryz.ntmps183
        go_wp2_with (first
          | (go_at_call 235; refine (hT _).mono ?_; rintro e w1 ⟨rfl, rfl⟩)
          | (go_at_call 236; refine (hD _).mono ?_; rintro e w2 ⟨rfl, hb2⟩; rw [HD.out]; obtain ⟨hc2, hf2⟩ := bcell hb2; have hz2 := (hb2).size; (try simp at hz2); have hl20 : w.heap.size < w2.heap.size := (by omega))
          | (go_at_call 237; refine (Tryz.strconv_ParseInt_10_at64_ok s (by omega) N HI.out _).mono ?_; rintro e w3 ⟨rfl, hb3'⟩; have hb3 := below_conv hb3'; clear hb3'; obtain ⟨hc3, hf3⟩ := bcell hb3; have hz3 := (hb3).size; (try simp at hz3); have hl30 : w.heap.size < w3.heap.size := (by omega))
          | (go_at_call 156; refine (vvalid ⟨1, N, ⟨#[]⟩⟩ _).mono ?_; rintro e w4 ⟨rfl, hb4⟩; rw [HK.out]; obtain ⟨hc4, hf4⟩ := bcell hb4; have hz4 := (hb4).size; (try simp at hz4); have hl40 : w.heap.size < w4.heap.size := (by omega)))
        have l4 : w.heap.size < w3.heap.size + 1 := by omega
        have l5 : w.heap.size < w.heap.size + 1 := by omega
        refine bodyPost_ret (by simp [results, Tryz.results183, go_sem, hc4, hc3, hc2, hl20, hl30, l4, l5]; rfl) rfl ?_
        unfold VePost
        rw [HR.out]
        exact ⟨rfl, by (exact belQ)⟩
      · have HR := Lib.hid (show pInt s.data.toList = (⟨1, N, ⟨#[]⟩⟩, 0) by rw [HP.out, if_neg (by simpa using hbk)])
        have HK := Lib.hid (hok.trans hbk)
        clear hok hbk
        go_enter Tryz.func183, Tryz.ntmps183
        go_wp2_with (first
          | (go_at_call 235; refine (hT _).mono ?_; rintro e w1 ⟨rfl, rfl⟩)
          | (go_at_call 236; refine (hD _).mono ?_; rintro e w2 ⟨rfl, hb2⟩; rw [HD.out]; obtain ⟨hc2, hf2⟩ := bcell hb2; have hz2 := (hb2).size; (try simp at hz2); have hl20 : w.heap.size < w2.heap.size := (by omega))
          | (go_at_call 237; refine (Tryz.strconv_ParseInt_10_at64_ok s (by omega) N HI.out _).mono ?_; rintro e w3 ⟨rfl, hb3'⟩; have hb3 := below_conv hb3'; clear hb3'; obtain ⟨hc3, hf3⟩ := bcell hb3; have hz3 := (hb3).size; (try simp at hz3); have hl30 : w.heap.size < w3.heap.size := (by omega))
          | (go_at_call 156; refine (vvalid ⟨1, N, ⟨#[]⟩⟩ _).mono ?_; rintro e w4 ⟨rfl, hb4⟩; rw [HK.out]; obtain ⟨hc4, hf4⟩ := bcell hb4; have hz4 := (hb4).size; (try simp at hz4); have hl40 : w.heap.size < w4.heap.size := (by omega)))
        have l4 : w.heap.size < w3.heap.size + 1 := by omega
        have l5 : w.heap.size < w.heap.size + 1 := by omega
        refine bodyPost_ret (by simp [results, Tryz.results183, go_sem, hc4, hc3, hc2, hl20, hl30, l4, l5]; rfl) rfl ?_
        unfold VePost
        rw [HR.out]
        exact ⟨rfl, by (exact belQ)⟩
    · have HI := Lib.hid hpi
      have HR := Lib.hid (show pInt s.data.toList = (V.null, 1) by rw [HP.out, if_pos hbig])
      clear hpi
      go_enter Tryz.func183, Tryz.ntmps183
      go_wp2_with (first
          | (go_at_call 235; refine (hT _).mono ?_; rintro e w1 ⟨rfl, rfl⟩)
          | (go_at_call 236; refine (hD _).mono ?_; rintro e w2 ⟨rfl, hb2⟩; rw [HD.out]; obtain ⟨hc2, hf2⟩ := bcell hb2; have hz2 := (hb2).size; (try simp at hz2); have hl20 : w.heap.size < w2.heap.size := (by omega)))
      obtain ⟨_, ev, hev1, hev2⟩ : GE w2 := hE.below (by (exact belQ))
      refine (Tryz.strconv_ParseInt_10_at64_range s (by omega) HI.out ev _ hev1 hev2).mono ?_
      rintro e w3 ⟨N3, rfl, hN3, hblk3, hb3⟩
      clear hev1 hev2 hblk3
      obtain ⟨hc3, hf3⟩ := bcell hb3; have hz3 := (hb3).size; (try simp at hz3); have hl30 : w.heap.size < w3.heap.size := (by omega)
      go_wp2_with fail
      have l4 : w.heap.size < w3.heap.size + 1 := by omega
      have l5 : w.heap.size < w.heap.size + 1 := by omega
      refine bodyPost_ret (by simp [results, Tryz.results183, go_sem, hc3, hc2, hl20, hl30, l5]; rfl) rfl ?_
      unfold VePost
      rw [HR.out]
      exact ⟨rfl, by (exact belQ)⟩
theorem idle_Parse (w : World) : CallsD Tryz.prog 181 #[] .returning w fun e u' w' => e = .returned (.tuple #[]) ∧ u' = .returning ∧ w' = w := by
  refine callsD_of_wpS Tryz.func181 rfl fun c₀ cs hu => ?_
  apply wpS_region
  cases c₀
  simp_all [wpOpsS, go_sem, recoverD, Tryz.ntmps181, bodyPostS, results, Tryz.results181]
theorem vparse (s : ByteArray) (w : World) (hs : s.size ≤ 100000) (hE : GE w) : Calls Tryz.prog 127 #[.string s] w (VePost w (parseO s.data.toList)) := by
  have hmf : ∀ (fn : Fn) (first cap : Array Value) (w : World), (Instr.makeFunc fn first cap).run Tryz.prog w = .ok (.func fn first cap) w := fun _ _ _ _ => rfl
  by_cases h0 : s.data.toList = nullL
  · have t0 : (s.toList == [110, 117, 108, 108]) = true := by rw [Lib.toList_data, h0]; rfl
    have HR := Lib.hid (show parseO s.data.toList = (V.null, 0) by unfold parseO; rw [if_pos h0])
    clear h0
    go_enter_defers Tryz.func127, Tryz.ntmps127
    go_wp2_with fail
    refine leave_idle idle_Parse (by simp [go_sem]) (by simp [results, Tryz.results127, go_sem]; rfl) ?_
    unfold VePost
    rw [HR.out]
    exact ⟨rfl, by (exact belQ)⟩
  have t0 : (s.toList == [110, 117, 108, 108]) = false := by rw [Lib.toList_data, beq_eq_false_iff_ne]; exact h0
  have hP := pre_c s
  by_cases h1 : s.data.toList.head? = some 34
  · have HR := Lib.hid (show parseO s.data.toList = pText s.data.toList by unfold parseO; rw [if_neg h0, if_pos h1])
    have hx := parseText_c s
    have HH := Lib.hid (show (s.data.toList.head? == some 34) = true by simpa using h1)
    rw [HR.out]
    generalize pText s.data.toList = x at hx ⊢
    clear h0 h1
    go_enter_defers Tryz.func127, Tryz.ntmps127
    go_wp2_with (first
      | (go_at_call 129; refine (hP _).mono ?_; rintro e w1 ⟨rfl, rfl⟩; rw [HH.out])
      | (go_at_call 182; refine (hx _ hs).mono ?_; rintro e w2 ⟨rfl, hb2⟩; obtain ⟨hc2, hf2⟩ := bcell hb2; have hz2 := (hb2).size; (try simp at hz2)))
    refine leave_idle idle_Parse (by simp [go_sem]) (by simp [results, Tryz.results127, go_sem, hc2]; rfl) ?_
    exact ⟨rfl, by (exact belQ)⟩
  · have HR := Lib.hid (show parseO s.data.toList = pInt s.data.toList by unfold parseO; rw [if_neg h0, if_neg h1])
    have hx := parseInt_c s
    have HH := Lib.hid (show (s.data.toList.head? == some 34) = false by simpa using h1)
    rw [HR.out]
    generalize pInt s.data.toList = x at hx ⊢
    clear h0 h1
    go_enter_defers Tryz.func127, Tryz.ntmps127
    go_wp2_with (first
      | (go_at_call 129; refine (hP _).mono ?_; rintro e w1 ⟨rfl, rfl⟩; rw [HH.out])
      | (go_at_call 183; refine (hx _ hs (by exact hE.below (by (exact belQ)))).mono ?_; rintro e w2 ⟨rfl, hb2⟩; obtain ⟨hc2, hf2⟩ := bcell hb2; have hz2 := (hb2).size; (try simp at hz2)))
    refine leave_idle idle_Parse (by simp [go_sem]) (by simp [results, Tryz.results127, go_sem, hc2]; rfl) ?_
    exact ⟨rfl, by (exact belQ)⟩
theorem eqByte (c : UInt8) (n : Nat) (hn : n < 256) : ((c.toNat : Int) == (n : Int)) = (c == UInt8.ofNat n) := by
  rw [Bool.eq_iff_iff, beq_iff_eq, beq_iff_eq]
  constructor
  · intro h; apply UInt8.toNat_inj.1; rw [UInt8.toNat_ofNat', Nat.mod_eq_of_lt (by omega)]; omega
  · rintro rfl; rw [UInt8.toNat_ofNat', Nat.mod_eq_of_lt (by omega)]
theorem pre2_c (a b : UInt8) (s : ByteArray) (w : World) : Calls Tryz.prog 129 #[.string s, .string ⟨#[a, b]⟩] w fun e w' => e = .returned (.bool (decide (s.data.toList.take 2 = [a, b]))) ∧ w = w' :=
  (Tryz.strings_HasPrefix _ _ _).mono fun _ _ h => ⟨h.1.trans (ret_bool (prefix2 _ a b)), h.2.symm⟩
theorem signI_of (a : UInt8) : Lib.indexByte signL ((a.toNat : Int).toNat.toUInt8) = Lib.indexByte signL a := by
  congr 1
  simp
theorem signI_c (a : UInt8) (w : World) : Calls Tryz.prog 128 #[.string ⟨#[40, 41, 44, 46, 59, 43, 45, 42, 47, 61, 60]⟩, .int .u8 a.toNat] w fun e w' => e = .returned (.int .i64 (Lib.indexByte signL a)) ∧ w = w' :=
  (Tryz.strings_IndexByte _ _ _).mono fun _ _ h => ⟨h.1.trans (ret_int (signI_of a)), h.2.symm⟩
theorem xsignLength (s : ByteArray) (w : World) : Calls Tryz.prog 84 #[.string s] w fun e w' => e = .returned (.int .i64 (signLen s.data.toList : Int)) ∧ w = w' := by
  have h1 := fun w => pre2_c 43 43 s w
  have h2 := fun w => pre2_c 60 61 s w
  have HS := Lib.hid (show signLen s.data.toList = if s.data.toList.take 2 = [43, 43] ∨ s.data.toList.take 2 = [60, 61] then 2 else if s.data.toList ≠ [] ∧ signL.contains (s.data.toList.getD 0 0) = true then 1 else 0 from rfl)
  by_cases p1 : s.data.toList.take 2 = [43, 43]
  · have HR := Lib.hid (show signLen s.data.toList = 2 by rw [HS.out, if_pos (.inl p1)])
    rw [show decide (s.data.toList.take 2 = [43, 43]) = true by simpa using p1] at h1
    clear p1 h2
    go_enter Tryz.func84, Tryz.ntmps84
    go_wp2_with (go_at_call 129; refine (h1 _).mono ?_; rintro e w1 ⟨rfl, rfl⟩)
    go_ret
    exact ⟨ret_int (by rw [HR.out]; rfl), rfl⟩
  rw [show decide (s.data.toList.take 2 = [43, 43]) = false by simpa using p1] at h1
  by_cases p2 : s.data.toList.take 2 = [60, 61]
  · have HR := Lib.hid (show signLen s.data.toList = 2 by rw [HS.out, if_pos (.inr p2)])
    rw [show decide (s.data.toList.take 2 = [60, 61]) = true by simpa using p2] at h2
    clear p1 p2
    go_enter Tryz.func84, Tryz.ntmps84
    go_wp2_with fail
    refine (h1 _).mono ?_
    rintro e w1 ⟨rfl, rfl⟩
    go_wp2_with fail
    refine (h2 _).mono ?_
    rintro e w1 ⟨rfl, rfl⟩
    go_wp2_with fail
    go_ret
    exact ⟨ret_int (by rw [HR.out]; rfl), rfl⟩
  rw [show decide (s.data.toList.take 2 = [60, 61]) = false by simpa using p2] at h2
  have HT := Lib.hid (show signLen s.data.toList = if s.data.toList ≠ [] ∧ signL.contains (s.data.toList.getD 0 0) = true then 1 else 0 by rw [HS.out, if_neg (by rintro (h | h); exact p1 h; exact p2 h)])
  clear p1 p2
  by_cases p3 : s.data.toList = []
  · have te : s.toList.isEmpty = true := by rw [empty_iff]; simpa using p3
    have HR := Lib.hid (show signLen s.data.toList = 0 by rw [HT.out, if_neg (fun h => h.1 p3)])
    clear p3
    go_enter Tryz.func84, Tryz.ntmps84
    go_wp2_with fail
    refine (h1 _).mono ?_
    rintro e w1 ⟨rfl, rfl⟩
    go_wp2_with fail
    refine (h2 _).mono ?_
    rintro e w1 ⟨rfl, rfl⟩
    go_wp2_with fail
    go_ret
    exact ⟨ret_int (by rw [HR.out]; rfl), rfl⟩
  · have te : s.toList.isEmpty = false := by rw [empty_iff]; simpa using p3
    obtain ⟨c, hc⟩ : ∃ c, s.data.toList[0]? = some c := by
      cases h : s.data.toList with
      | nil => exact absurd h p3
      | cons c r => exact ⟨c, rfl⟩
    have hcd : s.data.toList.getD 0 0 = c := by rw [List.getD_eq_getElem?_getD, hc]; rfl
    have hix := run_idx hc
    simp only [Int.natCast_zero] at hix
    have hsz : 0 < s.size := by rw [Lib.size_eq]; exact (List.getElem?_eq_some_iff.1 hc).1
    have hsz2 : (0 : Int) < (s.size : Int) := by omega
    have hsc := sign_contains c
    have hI := fun w => signI_c c w
    have HC := Lib.hid hc
    clear hc
    generalize Lib.indexByte signL c = i at hsc hI
    by_cases hi : 0 ≤ i
    · have HR := Lib.hid (show signLen s.data.toList = 1 by rw [HT.out, if_pos ⟨p3, by rw [hcd, ← hsc]; simpa using hi⟩])
      clear p3 hcd hsc
      go_enter Tryz.func84, Tryz.ntmps84
      go_wp2_with fail
      refine (h1 _).mono ?_
      rintro e w1 ⟨rfl, rfl⟩
      go_wp2_with fail
      refine (h2 _).mono ?_
      rintro e w1 ⟨rfl, rfl⟩
      go_wp2_with fail
      refine (hI _).mono ?_
      rintro e w1 ⟨rfl, rfl⟩
      go_wp2_with fail
      go_ret
      exact ⟨ret_int (by rw [HR.out]; rfl), rfl⟩
    · have HR := Lib.hid (show signLen s.data.toList = 0 by rw [HT.out, if_neg (by rw [hcd, ← hsc]; rintro ⟨_, h⟩; exact hi (by simpa using h))])
      clear p3 hcd hsc
      go_enter Tryz.func84, Tryz.ntmps84
      go_wp2_with fail
      refine (h1 _).mono ?_
      rintro e w1 ⟨rfl, rfl⟩
      go_wp2_with fail
      refine (h2 _).mono ?_
      rintro e w1 ⟨rfl, rfl⟩
      go_wp2_with fail
      refine (hI _).mono ?_
      rintro e w1 ⟨rfl, rfl⟩
      go_wp2_with fail
      go_ret
      exact ⟨ret_int (by rw [HR.out]; rfl), rfl⟩
theorem take_extract (s : ByteArray) (k : Nat) : (s.extract 0 k).data.toList = s.data.toList.take k := by
  rw [Lib.extract_data, List.drop_zero, Nat.sub_zero]
theorem mk_take (s : ByteArray) (k : Nat) : s.extract 0 k = ⟨(s.data.toList.take k).toArray⟩ := bytes_ext (by rw [take_extract])
def SkipR (s : List UInt8) (p0 : Nat) (cm : Bool) (p : Nat) : Prop := p0 + skipN false (s.drop p0) = p + skipN cm (s.drop p)
theorem SkipR.start (s : List UInt8) (p0 : Nat) : SkipR s p0 false p0 := rfl
theorem SkipR.go {s : List UInt8} {p0 p : Nat} {cm cm' : Bool} {c : UInt8} (h : SkipR s p0 cm p) (hc : s[p]? = some c) (h1 : skipN cm (c :: s.drop (p + 1)) = 1 + skipN cm' (s.drop (p + 1))) : SkipR s p0 cm' (p + 1) := by
  unfold SkipR at h ⊢
  rw [h, drop_at hc, h1]
  omega
theorem SkipR.nl {s : List UInt8} {p0 p : Nat} {cm : Bool} (h : SkipR s p0 cm p) (hc : s[p]? = some 10) : SkipR s p0 false (p + 1) := h.go hc (by rw [skipN, if_pos rfl])
theorem SkipR.ws {s : List UInt8} {p0 p : Nat} {cm : Bool} {c : UInt8} (h : SkipR s p0 cm p) (hc : s[p]? = some c) (h10 : c ≠ 10) (hw : c = 32 ∨ c = 9 ∨ c = 13) : SkipR s p0 cm (p + 1) := h.go hc (by rw [skipN, if_neg h10, if_pos hw])
theorem SkipR.hash {s : List UInt8} {p0 p : Nat} {cm : Bool} (h : SkipR s p0 cm p) (hc : s[p]? = some 35) : SkipR s p0 true (p + 1) := h.go hc (by rw [skipN, if_neg (by decide), if_neg (by decide), if_pos rfl])
theorem SkipR.in_ {s : List UInt8} {p0 p : Nat} {c : UInt8} (h : SkipR s p0 true p) (hc : s[p]? = some c) (h10 : c ≠ 10) (hw : ¬ (c = 32 ∨ c = 9 ∨ c = 13)) (h35 : c ≠ 35) : SkipR s p0 true (p + 1) := h.go hc (by rw [skipN, if_neg h10, if_neg hw, if_neg h35, if_pos rfl])
theorem SkipR.stop {s : List UInt8} {p0 p : Nat} {c : UInt8} (h : SkipR s p0 false p) (hc : s[p]? = some c) (h10 : c ≠ 10) (hw : ¬ (c = 32 ∨ c = 9 ∨ c = 13)) (h35 : c ≠ 35) : p0 + skipN false (s.drop p0) = p := by
  unfold SkipR at h
  rw [h, drop_at hc, skipN, if_neg h10, if_neg hw, if_neg h35]
  simp
theorem SkipR.over {s : List UInt8} {p0 p : Nat} {cm : Bool} (h : SkipR s p0 cm p) (hp : s.length ≤ p) : p0 + skipN false (s.drop p0) = p := by
  unfold SkipR at h
  rw [h, List.drop_of_length_le hp]
  simp [skipN]
def SkRel (s : ByteArray) (p0 : Nat) (v1 v5 : Value) : Prop := ∃ (p : Nat) (cm : Bool), p ≤ s.size ∧ v1 = .int .i64 (p : Int) ∧ v5 = .bool cm ∧ SkipR s.data.toList p0 cm p
theorem xskip (s : ByteArray) (p0 : Nat) (w : World) (hs : s.size ≤ 1099511627776) (hp0 : p0 ≤ s.size) : Calls Tryz.prog 41 #[.string s, .int .i64 (p0 : Int)] w fun e w' => e = .returned (.int .i64 ((p0 + skipN false (s.data.toList.drop p0) : Nat) : Int)) ∧ w = w' := by
  have HZ := Lib.hid (Lib.size_eq s)
  obtain ⟨X, hX⟩ : ∃ X, p0 + skipN false (s.data.toList.drop p0) = X := ⟨_, rfl⟩
  rw [hX]
  have HX := Lib.hid hX
  clear hX
  go_enter Tryz.func41, Tryz.ntmps41
  go_wp2_with fail
  go_loop [1, 5] (fun v1 v5 => SkRel s p0 v1 v5) (fun v1 _ => s.size - (intOf v1).toNat)
  case atStart => exact ⟨p0, false, hp0, rfl, rfl, SkipR.start _ _⟩
  case round =>
    obtain ⟨k, cm, hk, rfl, rfl, hR⟩ := hrel
    have HR := Lib.hid hR
    clear hR
    by_cases hlt : k < s.size
    · obtain ⟨c, hc⟩ : ∃ c, s.data.toList[k]? = some c := ⟨_, List.getElem?_eq_getElem (by rw [← HZ.out]; exact hlt)⟩
      have hix := run_idx hc
      have HC := Lib.hid hc
      have hk1 : (k : Int) < (s.size : Int) := by omega
      have hk0 : (0 : Int) ≤ (k : Int) := by omega
      have e10 := eqByte c 10 (by omega)
      have e32 := eqByte c 32 (by omega)
      have e9 := eqByte c 9 (by omega)
      have e13 := eqByte c 13 (by omega)
      have e35 := eqByte c 35 (by omega)
      simp only [Int.cast_ofNat_Int] at e10 e32 e9 e13 e35
      clear hc
      by_cases c10 : c = 10
      · subst c10
        have HE := Lib.hid (HR.out.nl HC.out)
        go_wp2_with fail
        go_round
        case rel => exact ⟨k + 1, false, by omega, by go_num, rfl, HE.out⟩
        case measure => simp [intOf]; omega
      have t10 : ((c.toNat : Int) == 10) = false := by rw [e10]; simpa using c10
      by_cases cw : c = 32 ∨ c = 9 ∨ c = 13
      · have HE := Lib.hid (HR.out.ws HC.out c10 cw)
        clear c10 e10
        rcases cw with rfl | rfl | rfl
        all_goals go_wp2_with fail
        all_goals go_round
        all_goals first
          | (case rel => exact ⟨k + 1, cm, by omega, by go_num, rfl, HE.out⟩)
          | (case measure => simp [intOf]; omega)
      have c32 : c ≠ 32 := fun h => cw (.inl h)
      have c9 : c ≠ 9 := fun h => cw (.inr (.inl h))
      have c13 : c ≠ 13 := fun h => cw (.inr (.inr h))
      have t32 : ((c.toNat : Int) == 32) = false := by rw [e32]; simpa using c32
      have t9 : ((c.toNat : Int) == 9) = false := by rw [e9]; simpa using c9
      have t13 : ((c.toNat : Int) == 13) = false := by rw [e13]; simpa using c13
      by_cases c35 : c = 35
      · subst c35
        have HE := Lib.hid (HR.out.hash HC.out)
        clear c10 cw c32 c9 c13 t32 t9 t13 t10 e10 e32 e9 e13 e35
        go_wp2_with fail
        go_round
        case rel => exact ⟨k + 1, true, by omega, by go_num, rfl, HE.out⟩
        case measure => simp [intOf]; omega
      have t35 : ((c.toNat : Int) == 35) = false := by rw [e35]; simpa using c35
      clear e10 e32 e9 e13 e35
      cases cm
      · have HE := Lib.hid (HR.out.stop HC.out c10 cw c35)
        clear c10 cw c32 c9 c13 c35
        go_wp2_with fail
        go_ret
        exact ⟨ret_int (by rw [← HX.out, HE.out]), rfl⟩
      · have HE := Lib.hid (HR.out.in_ HC.out c10 cw c35)
        clear c10 cw c32 c9 c13 c35
        go_wp2_with fail
        go_round
        case rel => exact ⟨k + 1, true, by omega, by go_num, rfl, HE.out⟩
        case measure => simp [intOf]; omega
    · have HE := Lib.hid (HR.out.over (by rw [← HZ.out]; omega))
      have hk1 : ¬ (k : Int) < (s.size : Int) := by omega
      go_wp2_with fail
      go_ret
      exact ⟨ret_int (by rw [← HX.out, HE.out]), rfl⟩
end Go.Proofs.YtpnfbehbheddeaaGreatDoor
