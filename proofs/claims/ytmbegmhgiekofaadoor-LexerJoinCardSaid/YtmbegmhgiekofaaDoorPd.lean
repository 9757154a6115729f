/- Contracts of parseInt and Parse: strings of at most a hundred thousand bytes; where the variable ErrRange can be read. -/
import Derived.Test.YtmbegmhgiekofaaDoorPc
import Derived.Test.YtmbegmhgiekofaaDoorShelf
namespace Go.Proofs.YtmbegmhgiekofaaDoor
open Go.RowKit

/-- The library's variable ErrRange holds an error, or nil. -/
def GE (w : World) : Prop := 5 < w.heap.size ∧ ∃ ev, w.cell? ⟨5, 0, none⟩ = some ev ∧ (ev = .nilIface ∨ ∃ te pe, ev = .iface te pe)
theorem GE.below {w w' : World} (h : GE w) (hb : Below w.heap.size w w') : GE w' := by
  obtain ⟨h1, ev, h2, h3⟩ := h
  exact ⟨Nat.lt_of_lt_of_le h1 hb.size, ev, (hb.cell (p := ⟨5, 0, none⟩) h1).trans h2, h3⟩
theorem trim_digs (l : List UInt8) : Lib.trimPrefix l [45] = digs l := by
  unfold Lib.trimPrefix Lib.hasPrefix digs
  cases l with
  | nil => simp
  | cons c r =>
    by_cases h : c = 45
    · subst h; simp
    · have : ¬ 45 = c := fun e => h e.symm
      simp [h, this]
theorem trim_c (s : ByteArray) (w : World) : Calls Tryd.prog 83 #[.string s, .string ⟨#[45]⟩] w fun e w' => e = .returned (.string ⟨(digs s.data.toList).toArray⟩) ∧ w = w' :=
  (Tryd.strings_TrimPrefix _ _ _).mono fun _ _ h => ⟨h.1.trans (ret_str (by rw [trim_digs])), h.2.symm⟩
theorem pre_34 (l : List UInt8) : Lib.hasPrefix l [34] = (l.head? == some 34) := by
  unfold Lib.hasPrefix
  cases l with
  | nil => simp
  | cons c r =>
    show ((34 : UInt8) == c && List.isPrefixOf [] r) = (some c == some 34)
    rw [Bool.eq_iff_iff]
    simp
    exact ⟨fun h => h.symm, fun h => h.symm⟩
theorem okInt (N : Int) (U : Nat) (h : N = U ∨ N = -(U : Int)) : (V.mk 1 N ⟨#[]⟩).ok = decide (¬ 4294967296 < U) := by
  have e : (V.mk 1 N ⟨#[]⟩).ok = (decide (-4294967296 ≤ N) && decide (N ≤ 4294967296)) := by
    have : (⟨#[]⟩ : ByteArray).size = 0 := rfl
    simp [V.ok, this]
  rw [e, Bool.eq_iff_iff]
  simp
  omega
theorem pre_c (s : ByteArray) (w : World) : Calls Tryd.prog 63 #[.string s, .string ⟨#[34]⟩] w fun e w' => e = .returned (.bool (s.data.toList.head? == some 34)) ∧ w = w' :=
  (Tryd.strings_HasPrefix _ _ _).mono fun _ _ h => ⟨h.1.trans (ret_bool (by rw [pre_34])), h.2.symm⟩
theorem run_eqS (s t : ByteArray) (w : World) : (binOp .eql 9 (.string s) (.string t)).run Tryd.prog w = .ok (.bool (s.data.toList == t.data.toList)) w := by
  simp [go_sem, Lib.toList_data]
theorem below_conv {w w' : World} (h : w' = w ∨ ∃ t, w' = Lib.bytesWorld w 5 t) : Below w.heap.size w w' := by
  rcases h with rfl | ⟨t, rfl⟩
  · exact Below.refl _ _
  · exact below_bytes (Below.refl _ _) (Nat.le_refl _) _ _
theorem digs_size (s : ByteArray) : (⟨(digs s.data.toList).toArray⟩ : ByteArray).size ≤ s.size := by
  rw [Lib.size_eq, Lib.size_eq]
  simp only
  unfold digs
  split <;> simp
theorem minus_zero (l : List UInt8) (h : decB (digs l) = true) : (l == [45, 48]) = (negB l && decide (valF 0 (digs l) = 0)) := by
  rw [Bool.eq_iff_iff, beq_iff_eq, Bool.and_eq_true, decide_eq_true_eq, decB_zero h]
  constructor
  · rintro rfl; exact ⟨rfl, rfl⟩
  · rintro ⟨h1, h2⟩
    cases l with
    | nil => simp [negB] at h1
    | cons c r =>
      simp [negB] at h1
      subst h1
      simp [digs] at h2
      rw [h2]
set_option maxRecDepth 100000 in
set_option maxHeartbeats 1000000 in
theorem parseInt_c (s : ByteArray) (w : World) (hs : s.size ≤ 100000) (hE : GE w) : Calls Tryd.prog 72 #[.string s] w (VePost w (pInt s.data.toList)) := by
  have hD := fun w => decimal_c ⟨(digs s.data.toList).toArray⟩ w (by have := digs_size s; omega)
  have hT := trim_c s
  rw [show (⟨(digs s.data.toList).toArray⟩ : ByteArray).data.toList = digs s.data.toList from rfl] at hD
  generalize (⟨(digs s.data.toList).toArray⟩ : ByteArray) = ds at hD hT
  cases hd : decB (digs s.data.toList)
  · have HR := Lib.hid (show pInt s.data.toList = (V.null, 2) by unfold pInt; rw [if_pos (.inl hd)])
    have HD := Lib.hid hd
    clear hd
    go_enter Tryd.func72, Tryd.ntmps72
    go_wp2_with (first
      | (go_at_call 83; refine (hT _).mono ?_; rintro e w1 ⟨rfl, rfl⟩)
      | (go_at_call 84; refine (hD _).mono ?_; rintro e w2 ⟨rfl, hb2⟩; rw [HD.out]; obtain ⟨hc2, hf2⟩ := bcell hb2; have hz2 := (hb2).size; (try simp at hz2)))
    refine bodyPost_ret (by simp [results, Tryd.results72, go_sem, hc2]; rfl) rfl ?_
    unfold VePost
    rw [HR.out]
    exact ⟨rfl, by (repeat (first | (with_reducible exact Below.refl _ _) | (with_reducible assumption) | (with_reducible refine Below.drew ?_) | (with_reducible refine below_drewN ?_ _) | ((with_reducible refine Below.setCell ?_ ?_ _); rotate_left; (focus (first | (simp; done) | (simp; omega) | omega))) | ((with_reducible refine Below.alloc ?_ ?_ _); rotate_left; (focus (first | (simp; done) | (simp; omega) | omega))) | ((with_reducible apply below_step1); (focus (with_reducible assumption)))))⟩
  have HD := Lib.hid hd
  have hz := minus_zero s.data.toList hd
  cases hm : (negB s.data.toList && decide (valF 0 (digs s.data.toList) = 0))
  case true =>
    have hes' : (s.toList == [45, 48]) = true := by rw [Lib.toList_data]; exact hz.trans hm
    have HR := Lib.hid (show pInt s.data.toList = (V.null, 2) by unfold pInt; rw [if_pos (.inr (by simpa using hm))])
    clear hd hz hm
    go_enter Tryd.func72, Tryd.ntmps72
    go_wp2_with (first
      | (go_at_call 83; refine (hT _).mono ?_; rintro e w1 ⟨rfl, rfl⟩)
      | (go_at_call 84; refine (hD _).mono ?_; rintro e w2 ⟨rfl, hb2⟩; rw [HD.out]; obtain ⟨hc2, hf2⟩ := bcell hb2; have hz2 := (hb2).size; (try simp at hz2)))
    refine bodyPost_ret (by simp [results, Tryd.results72, go_sem, hc2]; rfl) rfl ?_
    unfold VePost
    rw [HR.out]
    exact ⟨rfl, by (repeat (first | (with_reducible exact Below.refl _ _) | (with_reducible assumption) | (with_reducible refine Below.drew ?_) | (with_reducible refine below_drewN ?_ _) | ((with_reducible refine Below.setCell ?_ ?_ _); rotate_left; (focus (first | (simp; done) | (simp; omega) | omega))) | ((with_reducible refine Below.alloc ?_ ?_ _); rotate_left; (focus (first | (simp; done) | (simp; omega) | omega))) | ((with_reducible apply below_step1); (focus (with_reducible assumption)))))⟩
  case false =>
    have hes' : (s.toList == [45, 48]) = false := by rw [Lib.toList_data]; exact hz.trans hm
    have HM := Lib.hid hm
    have hpi := parseIntB_dig hd
    have hpv : pInt s.data.toList = if 4294967296 < valF 0 (digs s.data.toList) then (V.null, 1) else (⟨1, if negB s.data.toList then -(valF 0 (digs s.data.toList) : Int) else valF 0 (digs s.data.toList), ⟨#[]⟩⟩, 0) := by
      unfold pInt
      rw [if_neg]
      rintro (h | ⟨h1, h2⟩)
      · rw [hd] at h; cases h
      · rw [h1, h2] at hm; simp at hm
    generalize hN : (if negB s.data.toList then -(valF 0 (digs s.data.toList) : Int) else (valF 0 (digs s.data.toList) : Int)) = N at hpi hpv
    generalize hU : valF 0 (digs s.data.toList) = U at hpi hpv hN
    have hNU : N = U ∨ N = -(U : Int) := by rw [← hN]; split <;> simp
    have HP := Lib.hid hpv
    clear hd hz hm hN hU hpv
    rcases hpi with hpi | ⟨hpi, hbig⟩
    · have HI := Lib.hid hpi
      clear hpi
      have hok := okInt N U hNU
      cases hbk : decide (¬ 4294967296 < U)
      · have HR := Lib.hid (show pInt s.data.toList = (V.null, 1) by rw [HP.out, if_pos (by simpa using hbk)])
        have HK := Lib.hid (hok.trans hbk)
        clear hok hbk
        go_enter Tryd.func72, Tryd.ntmps72
        go_wp2_with (first
          | (go_at_call 83; refine (hT _).mono ?_; rintro e w1 ⟨rfl, rfl⟩)
          | (go_at_call 84; refine (hD _).mono ?_; rintro e w2 ⟨rfl, hb2⟩; rw [HD.out]; obtain ⟨hc2, hf2⟩ := bcell hb2; have hz2 := (hb2).size; (try simp at hz2); have hl20 : w.heap.size < w2.heap.size := (by omega))
          | (go_at_call 85; refine (Tryd.strconv_ParseInt_10_at64_ok s (by omega) N HI.out _).mono ?_; rintro e w3 ⟨rfl, hb3'⟩; have hb3 := below_conv hb3'; clear hb3'; obtain ⟨hc3, hf3⟩ := bcell hb3; have hz3 := (hb3).size; (try simp at hz3); have hl30 : w.heap.size < w3.heap.size := (by omega))
          | (go_at_call 79; refine (vvalid ⟨1, N, ⟨#[]⟩⟩ _).mono ?_; rintro e w4 ⟨rfl, hb4⟩; rw [HK.out]; obtain ⟨hc4, hf4⟩ := bcell hb4; have hz4 := (hb4).size; (try simp at hz4); have hl40 : w.heap.size < w4.heap.size := (by omega)))
        have l4 : w.heap.size < w3.heap.size + 1 := by omega
        have l5 : w.heap.size < w.heap.size + 1 := by omega
        refine bodyPost_ret (by simp [results, Tryd.results72, go_sem, hc4, hc3, hc2, hl20, hl30, l4, l5]; rfl) rfl ?_
        unfold VePost
        rw [HR.out]
        exact ⟨rfl, by (repeat (first | (with_reducible exact Below.refl _ _) | (with_reducible assumption) | (with_reducible refine Below.drew ?_) | (with_reducible refine below_drewN ?_ _) | ((with_reducible refine Below.setCell ?_ ?_ _); rotate_left; (focus (first | (simp; done) | (simp; omega) | omega))) | ((with_reducible refine Below.alloc ?_ ?_ _); rotate_left; (focus (first | (simp; done) | (simp; omega) | omega))) | ((with_reducible apply below_step1); (focus (with_reducible assumption)))))⟩
      · have HR := Lib.hid (show pInt s.data.toList = (⟨1, N, ⟨#[]⟩⟩, 0) by rw [HP.out, if_neg (by simpa using hbk)])
        have HK := Lib.hid (hok.trans hbk)
        clear hok hbk
        go_enter Tryd.func72, Tryd.ntmps72
        go_wp2_with (first
          | (go_at_call 83; refine (hT _).mono ?_; rintro e w1 ⟨rfl, rfl⟩)
          | (go_at_call 84; refine (hD _).mono ?_; rintro e w2 ⟨rfl, hb2⟩; rw [HD.out]; obtain ⟨hc2, hf2⟩ := bcell hb2; have hz2 := (hb2).size; (try simp at hz2); have hl20 : w.heap.size < w2.heap.size := (by omega))
          | (go_at_call 85; refine (Tryd.strconv_ParseInt_10_at64_ok s (by omega) N HI.out _).mono ?_; rintro e w3 ⟨rfl, hb3'⟩; have hb3 := below_conv hb3'; clear hb3'; obtain ⟨hc3, hf3⟩ := bcell hb3; have hz3 := (hb3).size; (try simp at hz3); have hl30 : w.heap.size < w3.heap.size := (by omega))
          | (go_at_call 79; refine (vvalid ⟨1, N, ⟨#[]⟩⟩ _).mono ?_; rintro e w4 ⟨rfl, hb4⟩; rw [HK.out]; obtain ⟨hc4, hf4⟩ := bcell hb4; have hz4 := (hb4).size; (try simp at hz4); have hl40 : w.heap.size < w4.heap.size := (by omega)))
        have l4 : w.heap.size < w3.heap.size + 1 := by omega
        have l5 : w.heap.size < w.heap.size + 1 := by omega
        refine bodyPost_ret (by simp [results, Tryd.results72, go_sem, hc4, hc3, hc2, hl20, hl30, l4, l5]; rfl) rfl ?_
        unfold VePost
        rw [HR.out]
        exact ⟨rfl, by (repeat (first | (with_reducible exact Below.refl _ _) | (with_reducible assumption) | (with_reducible refine Below.drew ?_) | (with_reducible refine below_drewN ?_ _) | ((with_reducible refine Below.setCell ?_ ?_ _); rotate_left; (focus (first | (simp; done) | (simp; omega) | omega))) | ((with_reducible refine Below.alloc ?_ ?_ _); rotate_left; (focus (first | (simp; done) | (simp; omega) | omega))) | ((with_reducible apply below_step1); (focus (with_reducible assumption)))))⟩
    · have HI := Lib.hid hpi
      have HR := Lib.hid (show pInt s.data.toList = (V.null, 1) by rw [HP.out, if_pos hbig])
      clear hpi
      go_enter Tryd.func72, Tryd.ntmps72
      go_wp2_with (first
          | (go_at_call 83; refine (hT _).mono ?_; rintro e w1 ⟨rfl, rfl⟩)
          | (go_at_call 84; refine (hD _).mono ?_; rintro e w2 ⟨rfl, hb2⟩; rw [HD.out]; obtain ⟨hc2, hf2⟩ := bcell hb2; have hz2 := (hb2).size; (try simp at hz2); have hl20 : w.heap.size < w2.heap.size := (by omega)))
      obtain ⟨_, ev, hev1, hev2⟩ : GE w2 := hE.below (by (repeat (first | (with_reducible exact Below.refl _ _) | (with_reducible assumption) | (with_reducible refine Below.drew ?_) | (with_reducible refine below_drewN ?_ _) | ((with_reducible refine Below.setCell ?_ ?_ _); rotate_left; (focus (first | (simp; done) | (simp; omega) | omega))) | ((with_reducible refine Below.alloc ?_ ?_ _); rotate_left; (focus (first | (simp; done) | (simp; omega) | omega))) | ((with_reducible apply below_step1); (focus (with_reducible assumption))))))
      refine (Tryd.strconv_ParseInt_10_at64_range s (by omega) HI.out ev _ hev1 hev2).mono ?_
      rintro e w3 ⟨N3, rfl, hN3, hblk3, hb3⟩
      clear hev1 hev2 hblk3
      obtain ⟨hc3, hf3⟩ := bcell hb3; have hz3 := (hb3).size; (try simp at hz3); have hl30 : w.heap.size < w3.heap.size := (by omega)
      go_wp2_with fail
      have l4 : w.heap.size < w3.heap.size + 1 := by omega
      have l5 : w.heap.size < w.heap.size + 1 := by omega
      refine bodyPost_ret (by simp [results, Tryd.results72, go_sem, hc3, hc2, hl20, hl30, l5]; rfl) rfl ?_
      unfold VePost
      rw [HR.out]
      exact ⟨rfl, by (repeat (first | (with_reducible exact Below.refl _ _) | (with_reducible assumption) | (with_reducible refine Below.drew ?_) | (with_reducible refine below_drewN ?_ _) | ((with_reducible refine Below.setCell ?_ ?_ _); rotate_left; (focus (first | (simp; done) | (simp; omega) | omega))) | ((with_reducible refine Below.alloc ?_ ?_ _); rotate_left; (focus (first | (simp; done) | (simp; omega) | omega))) | ((with_reducible apply below_step1); (focus (with_reducible assumption)))))⟩
theorem idle_Parse (w : World) : CallsD Tryd.prog 70 #[] .returning w fun e u' w' => e = .returned (.tuple #[]) ∧ u' = .returning ∧ w' = w := by
  refine callsD_of_wpS Tryd.func70 rfl fun c₀ cs hu => ?_
  apply wpS_region
  cases c₀
  simp_all [wpOpsS, go_sem, recoverD, Tryd.ntmps70, bodyPostS, results, Tryd.results70]
set_option maxRecDepth 100000 in
set_option maxHeartbeats 1000000 in
theorem vparse (s : ByteArray) (w : World) (hs : s.size ≤ 100000) (hE : GE w) : Calls Tryd.prog 61 #[.string s] w (VePost w (parseO s.data.toList)) := by
  have hmf : ∀ (fn : Fn) (first cap : Array Value) (w : World), (Instr.makeFunc fn first cap).run Tryd.prog w = .ok (.func fn first cap) w := fun _ _ _ _ => rfl
  by_cases h0 : s.data.toList = nullL
  · have t0 : (s.toList == [110, 117, 108, 108]) = true := by rw [Lib.toList_data, h0]; rfl
    have HR := Lib.hid (show parseO s.data.toList = (V.null, 0) by unfold parseO; rw [if_pos h0])
    clear h0
    go_enter_defers Tryd.func61, Tryd.ntmps61
    go_wp2_with fail
    refine leave_idle idle_Parse (by simp [go_sem]) (by simp [results, Tryd.results61, go_sem]; rfl) ?_
    unfold VePost
    rw [HR.out]
    exact ⟨rfl, by (repeat (first | (with_reducible exact Below.refl _ _) | (with_reducible assumption) | (with_reducible refine Below.drew ?_) | (with_reducible refine below_drewN ?_ _) | ((with_reducible refine Below.setCell ?_ ?_ _); rotate_left; (focus (first | (simp; done) | (simp; omega) | omega))) | ((with_reducible refine Below.alloc ?_ ?_ _); rotate_left; (focus (first | (simp; done) | (simp; omega) | omega))) | ((with_reducible apply below_step1); (focus (with_reducible assumption)))))⟩
  have t0 : (s.toList == [110, 117, 108, 108]) = false := by rw [Lib.toList_data, beq_eq_false_iff_ne]; exact h0
  have hP := pre_c s
  by_cases h1 : s.data.toList.head? = some 34
  · have HR := Lib.hid (show parseO s.data.toList = pText s.data.toList by unfold parseO; rw [if_neg h0, if_pos h1])
    have hx := parseText_c s
    have HH := Lib.hid (show (s.data.toList.head? == some 34) = true by simpa using h1)
    rw [HR.out]
    generalize pText s.data.toList = x at hx ⊢
    clear h0 h1
    go_enter_defers Tryd.func61, Tryd.ntmps61
    go_wp2_with (first
      | (go_at_call 63; refine (hP _).mono ?_; rintro e w1 ⟨rfl, rfl⟩; rw [HH.out])
      | (go_at_call 71; refine (hx _ hs).mono ?_; rintro e w2 ⟨rfl, hb2⟩; obtain ⟨hc2, hf2⟩ := bcell hb2; have hz2 := (hb2).size; (try simp at hz2)))
    refine leave_idle idle_Parse (by simp [go_sem]) (by simp [results, Tryd.results61, go_sem, hc2]; rfl) ?_
    exact ⟨rfl, by (repeat (first | (with_reducible exact Below.refl _ _) | (with_reducible assumption) | (with_reducible refine Below.drew ?_) | (with_reducible refine below_drewN ?_ _) | ((with_reducible refine Below.setCell ?_ ?_ _); rotate_left; (focus (first | (simp; done) | (simp; omega) | omega))) | ((with_reducible refine Below.alloc ?_ ?_ _); rotate_left; (focus (first | (simp; done) | (simp; omega) | omega))) | ((with_reducible apply below_step1); (focus (with_reducible assumption)))))⟩
  · have HR := Lib.hid (show parseO s.data.toList = pInt s.data.toList by unfold parseO; rw [if_neg h0, if_neg h1])
    have hx := parseInt_c s
    have HH := Lib.hid (show (s.data.toList.head? == some 34) = false by simpa using h1)
    rw [HR.out]
    generalize pInt s.data.toList = x at hx ⊢
    clear h0 h1
    go_enter_defers Tryd.func61, Tryd.ntmps61
    go_wp2_with (first
      | (go_at_call 63; refine (hP _).mono ?_; rintro e w1 ⟨rfl, rfl⟩; rw [HH.out])
      | (go_at_call 72; refine (hx _ hs (by exact hE.below (by (repeat (first | (with_reducible exact Below.refl _ _) | (with_reducible assumption) | (with_reducible refine Below.drew ?_) | (with_reducible refine below_drewN ?_ _) | ((with_reducible refine Below.setCell ?_ ?_ _); rotate_left; (focus (first | (simp; done) | (simp; omega) | omega))) | ((with_reducible refine Below.alloc ?_ ?_ _); rotate_left; (focus (first | (simp; done) | (simp; omega) | omega))) | ((with_reducible apply below_step1); (focus (with_reducible assumption)))))))).mono ?_; rintro e w2 ⟨rfl, hb2⟩; obtain ⟨hc2, hf2⟩ := bcell hb2; have hz2 := (hb2).size; (try simp at hz2)))
    refine leave_idle idle_Parse (by simp [go_sem]) (by simp [results, Tryd.results61, go_sem, hc2]; rfl) ?_
    exact ⟨rfl, by (repeat (first | (with_reducible exact Below.refl _ _) | (with_reducible assumption) | (with_reducible refine Below.drew ?_) | (with_reducible refine below_drewN ?_ _) | ((with_reducible refine Below.setCell ?_ ?_ _); rotate_left; (focus (first | (simp; done) | (simp; omega) | omega))) | ((with_reducible refine Below.alloc ?_ ?_ _); rotate_left; (focus (first | (simp; done) | (simp; omega) | omega))) | ((with_reducible apply below_step1); (focus (with_reducible assumption)))))⟩
end Go.Proofs.YtmbegmhgiekofaaDoor
