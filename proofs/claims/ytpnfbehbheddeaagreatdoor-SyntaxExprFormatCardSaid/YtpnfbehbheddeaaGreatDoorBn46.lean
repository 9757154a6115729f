/- tokens of the reference for the writing of expressions: valid expressions of at most a thousand terms whose columns have names. -/
import Derived.Test.YtpnfbehbheddeaaGreatDoorBn45
import Derived.Test.YtpnfbehbheddeaaGreatDoorBn23
namespace Go.Proofs.YtpnfbehbheddeaaGreatDoor
set_option maxRecDepth 100000
set_option maxHeartbeats 8000000
set_option linter.unusedVariables false
set_option linter.unusedSimpArgs false
open Go.RowKit
theorem okCol_lt {left right : List Bs} {c : Nat} (h : okCol left right c) : c < left.length + right.length := by
  rcases Nat.lt_or_ge c (left.length + right.length) with h1 | h1
  · exact h1
  · unfold okCol colName at h
    rw [if_neg (by omega), List.getD_eq_getElem?_getD, List.getElem?_eq_none (by omega)] at h
    cases h
theorem cols_kid {left right : List Bs} {t : T} {ks : List X} {k : X} {i : Nat} (h : ∀ c ∈ (X.node t ks).cols, okCol left right c) (hk : ks[i]? = some k) : ∀ c ∈ k.cols, okCol left right c := fun c hc =>
  h c (by rw [X.cols]; exact List.mem_append_right _ (colss_mem hc (List.mem_of_getElem? hk)))
theorem wrs_take {left right : List Bs} {ks : List X} {i : Nat} {k : X} (h : ks[i]? = some k) : commaW ((wrs left right ks).take (i + 1)) = commaW ((wrs left right ks).take i) ++ ((if 0 < i then [wdK [44]] else []) ++ k.wr left right) := by
  have h1 : (wrs left right ks)[i]? = some (k.wr left right) := by rw [wrs_at, h]; rfl
  have hl : i < (wrs left right ks).length := (List.getElem?_eq_some_iff.1 h1).1
  rw [List.take_add_one, h1, Option.toList_some, commaW_snoc]
  rcases Nat.eq_zero_or_pos i with h0 | h0
  · subst h0
    rw [if_pos List.take_zero, if_neg (by omega)]
    rfl
  · rw [if_neg (by
      intro e
      have := congrArg List.length e
      rw [List.length_take, List.length_nil] at this
      omega), if_pos h0]
    rfl
theorem ba_emp (l : Bs) : ((⟨l.toArray⟩ : ByteArray) == ⟨#[]⟩) = l.isEmpty := by
  cases l with
  | nil => rfl
  | cons a l => rfl
def KidsOk (w0 : World) (LA DA : Option Addr) (ln lc rn rc : Nat) (left right : List Bs) (b off c : Nat) (ks : List X) : Prop :=
  ∀ (i : Nat) (k : X), ks[i]? = some k → ∃ q, (opCells b off c 1 ks)[i]? = some (.slice (some ⟨b, off + q * 5, none⟩) k.flat.length (c - q)) ∧ RowT w0 w0.heap.size (some ⟨b, off + q * 5, none⟩) k.flat.length k.flat ∧ k.wf = true ∧ (k.wr left right).length ≤ 5000 ∧
        ∀ w l l', HS w l → Pick l (oldA w0) l' → Calls Tryz.prog 39 #[.slice (some ⟨b, off + q * 5, none⟩) k.flat.length (c - q), .slice LA ln lc, .slice DA rn rc] w (TrPost l (k.wr left right))
theorem rtok_const {w0 w : World} {LA DA : Option Addr} {ln lc rn rc b off n c : Nat} {left right : List Bs} {l l' : List HA} {t : T} (hl : RowB w0 w0.heap.size LA ln left) (hr : RowB w0 w0.heap.size DA rn right) (hln : ln ≤ 1000000) (hrn : rn ≤ 1000000) (hdp : (X.node t []).depth ≤ 17) (hw : (X.node t []).wf = true) (hco : ∀ c ∈ (X.node t []).cols, okCol left right c) (hnc : n ≤ c) (hcm : c ≤ maxLen) (hn : n ≤ 1000) (hT : RowT w0 w0.heap.size (some ⟨b, off, none⟩) n (X.node t []).flat) (H : HS w l) (ho : Pick l (oldA w0) l') (hcnt : (nodeW left right t [] (wrs left right [])).length ≤ 5000) (hkid : KidsOk w0 LA DA ln lc rn rc left right b off c []) (h1 : t.op = 1) :
    Calls Tryz.prog 39 #[.slice (some ⟨b, off, none⟩) n c, .slice LA ln lc, .slice DA rn rc] w (TrPost l (nodeW left right t [] (wrs left right []))) := by
  have hxl := hT.len
  have hT' := (hT.below (H.old ho)).more (H.old ho).size
  rw [X.flat_node] at hT'
  obtain ⟨b', off', e1, hb, c0, c1, c2, c3, c4⟩ := RowT.head5 hT'
  injection e1 with e1
  injection e1 with e1 e2
  subst e1 e2
  have hn1 : 0 < n := by rw [X.flat_node] at hxl; simp at hxl; omega
  clear hT' hxl
  have hw2 := hw
  simp only [X.wf, Bool.and_eq_true, decide_eq_true_eq] at hw2
  obtain ⟨hok, hkl, hkw⟩ := hw2
  have hop := term_op hok
  have hops := fun w1 (H1 : HS w1 l) => operands_c b off n c t [] w1 hn hnc hcm hw hdp ((hT.below (H1.old ho)).more (H1.old ho).size)
  have hk3 := ar_le t.op
  unfold KidsOk at hkid
  obtain ⟨hv, hk0, -⟩ := term_const hok h1
  have HE := Lib.hid (show nodeW left right t [] (wrs left right []) = constW t.v by unfold nodeW; rw [if_pos h1])
  rw [h1] at c0
  have hL := fun w1 (H1 : HS w1 l) => rliteral_c t.v hv hk0 H1
  clear hkid hops hcnt hw hkw hok h1 hv hk0
  go_enter Tryz.func39, Tryz.ntmps39
  go_wp2_with (go_at_call 72; refine (hL _ H).mono ?_; rintro e w1 ⟨A1, c1, t1, rfl, s1, H1⟩)
  go_ret
  refine TrPost.done ?_ H1 pkQ
  rw [HE.out]
  exact s1
theorem rtok_col {w0 w : World} {LA DA : Option Addr} {ln lc rn rc b off n c : Nat} {left right : List Bs} {l l' : List HA} {t : T} (hl : RowB w0 w0.heap.size LA ln left) (hr : RowB w0 w0.heap.size DA rn right) (hln : ln ≤ 1000000) (hrn : rn ≤ 1000000) (hdp : (X.node t []).depth ≤ 17) (hw : (X.node t []).wf = true) (hco : ∀ c ∈ (X.node t []).cols, okCol left right c) (hnc : n ≤ c) (hcm : c ≤ maxLen) (hn : n ≤ 1000) (hT : RowT w0 w0.heap.size (some ⟨b, off, none⟩) n (X.node t []).flat) (H : HS w l) (ho : Pick l (oldA w0) l') (hcnt : (nodeW left right t [] (wrs left right [])).length ≤ 5000) (hkid : KidsOk w0 LA DA ln lc rn rc left right b off c []) (h2 : t.op = 2) :
    Calls Tryz.prog 39 #[.slice (some ⟨b, off, none⟩) n c, .slice LA ln lc, .slice DA rn rc] w (TrPost l (nodeW left right t [] (wrs left right []))) := by
  have hxl := hT.len
  have hT' := (hT.below (H.old ho)).more (H.old ho).size
  rw [X.flat_node] at hT'
  obtain ⟨b', off', e1, hb, c0, c1, c2, c3, c4⟩ := RowT.head5 hT'
  injection e1 with e1
  injection e1 with e1 e2
  subst e1 e2
  have hn1 : 0 < n := by rw [X.flat_node] at hxl; simp at hxl; omega
  clear hT' hxl
  have hw2 := hw
  simp only [X.wf, Bool.and_eq_true, decide_eq_true_eq] at hw2
  obtain ⟨hok, hkl, hkw⟩ := hw2
  have hop := term_op hok
  have hops := fun w1 (H1 : HS w1 l) => operands_c b off n c t [] w1 hn hnc hcm hw hdp ((hT.below (H1.old ho)).more (H1.old ho).size)
  have hk3 := ar_le t.op
  unfold KidsOk at hkid
  obtain ⟨hc0, -⟩ := term_col hok h2
  have hcc : okCol left right t.c.toNat := hco _ (by rw [X.cols, if_pos h2]; simp)
  have HE := Lib.hid (show nodeW left right t [] (wrs left right []) = refW left right t.c.toNat by unfold nodeW; rw [if_neg (by omega), if_pos h2])
  obtain ⟨m, hm⟩ : ∃ m : Nat, t.c = (m : Int) := ⟨t.c.toNat, by omega⟩
  rw [hm] at c4 hcc HE
  rw [Int.toNat_natCast] at hcc HE
  rw [h2] at c0
  have hml := okCol_lt hcc
  rw [hl.len, hr.len] at hml
  have hR := rreference_c (lc := lc) (rc := rc) m hml hl hr hln hrn hcc H ho
  clear hkid hops hcnt hw hkw hok h2 hc0 hcc hm hml hl hr
  go_enter Tryz.func39, Tryz.ntmps39
  go_wp2_with (go_at_call 73; refine hR.mono ?_; rintro e w1 ⟨A1, c1, t1, rfl, s1, H1⟩)
  go_ret
  refine TrPost.done ?_ H1 pkQ
  rw [HE.out]
  exact s1
theorem rtok_fun {w0 w : World} {LA DA : Option Addr} {ln lc rn rc b off n c : Nat} {left right : List Bs} {l l' : List HA} {t : T} {ks : List X} (hl : RowB w0 w0.heap.size LA ln left) (hr : RowB w0 w0.heap.size DA rn right) (hln : ln ≤ 1000000) (hrn : rn ≤ 1000000) (hdp : (X.node t ks).depth ≤ 17) (hw : (X.node t ks).wf = true) (hco : ∀ c ∈ (X.node t ks).cols, okCol left right c) (hnc : n ≤ c) (hcm : c ≤ maxLen) (hn : n ≤ 1000) (hT : RowT w0 w0.heap.size (some ⟨b, off, none⟩) n (X.node t ks).flat) (H : HS w l) (ho : Pick l (oldA w0) l') (hcnt : (nodeW left right t ks (wrs left right ks)).length ≤ 5000) (hkid : KidsOk w0 LA DA ln lc rn rc left right b off c ks) (h1 : t.op ≠ 1) (h2 : t.op ≠ 2) (hfn : isFun t.op = true) (har : (ks.length : Int) = arity t.op) :
    Calls Tryz.prog 39 #[.slice (some ⟨b, off, none⟩) n c, .slice LA ln lc, .slice DA rn rc] w (TrPost l (nodeW left right t ks (wrs left right ks))) := by
  have hxl := hT.len
  have hT' := (hT.below (H.old ho)).more (H.old ho).size
  rw [X.flat_node] at hT'
  obtain ⟨b', off', e1, hb, c0, c1, c2, c3, c4⟩ := RowT.head5 hT'
  injection e1 with e1
  injection e1 with e1 e2
  subst e1 e2
  have hn1 : 0 < n := by rw [X.flat_node] at hxl; simp at hxl; omega
  clear hT' hxl
  have hw2 := hw
  simp only [X.wf, Bool.and_eq_true, decide_eq_true_eq] at hw2
  obtain ⟨hok, hkl, hkw⟩ := hw2
  have hop := term_op hok
  have hops := fun w1 (H1 : HS w1 l) => operands_c b off n c t ks w1 hn hnc hcm hw hdp ((hT.below (H1.old ho)).more (H1.old ho).size)
  have hk3 := ar_le t.op
  unfold KidsOk at hkid
  have hop1 : (t.op == 1) = false := by simpa using h1
  have hop2 : (t.op == 2) = false := by simpa using h2
  obtain ⟨sf, hbn, hfl, h3, h18, h13, h33⟩ := scan_fn hfn
  have hop3 : (t.op == 3) = false := by simpa using h33
  have hop13 : (t.op == 13) = false := by simpa using h13
  have HE := Lib.hid (show nodeW left right t ks (wrs left right ks) = [wdK (opW t.op), wdK [40]] ++ commaW (wrs left right ks) ++ [wdK [41]] by unfold nodeW; rw [if_neg h1, if_neg h2, if_pos hfn])
  rw [HE.out] at hcnt
  simp only [List.length_append, List.length_cons, List.length_nil] at hcnt
  have hct : (commaW (wrs left right ks)).length ≤ 5000 := by omega
  have hbn2 : ((⟨(binW t.op).toArray⟩ : ByteArray) != ⟨#[]⟩) = false := by unfold bne; rw [hbn]; rfl
  have hbe : (binW t.op).isEmpty = true := (ba_emp _).symm.trans hbn
  have hB := fun w => rbinary_c t.op w (by omega) h18
  have hF := fun w => rfunction_c t.op w (by omega) h18
  unfold BwPost at hB hF
  obtain ⟨u, hu, a1⟩ : ∃ u : Bs, u = fnW t.op ++ [32, 40] ∧ ∀ w, (Op.stringOp .add (⟨(fnW t.op).toArray⟩ : ByteArray) ⟨#[32, 40]⟩).run Tryz.prog w = .ok (.string ⟨u.toArray⟩) w := ⟨_, rfl, fun w => by rw [run_string_add_sum w _ _ (by rw [Lib.size_eq, Lib.size_eq]; simp; omega)]; simp [ByteArray.mk_append_mk]⟩
  have hul : u.length ≤ 100 := by rw [hu]; simp; omega
  rw [← hu] at sf
  have hW := fun w l (H : HS w l) => rwords_c u _ (by omega) sf H
  have hop := t.op
  generalize fnW t.op = fw at hF a1
  generalize binW t.op = bw at hB hbn hbn2 hbe
  have hk3' : 0 < ks.length := by
    have : 1 ≤ arity t.op := by
      unfold isFun at hfn
      rw [decide_eq_true_eq] at hfn
      rcases hfn with h | h | h | h | h <;> rw [h] <;> decide
    omega
  have hkl3 : ks.length ≤ 3 := by omega
  clear hw hkw hok h1 h2 hl hr hu sf hfl h3 h18 h13 h33 hfn har hkl hco hop
  go_enter Tryz.func39, Tryz.ntmps39
  go_wp2_with fail
  refine (hops _ H).mono ?_
  rintro e w1 ⟨lv, rfl, ol, hb1⟩
  obtain ⟨L1, d1, rfl, -, -⟩ := own_slice ol
  obtain ⟨g, rfl⟩ := own_at0 ol hk3'
  have H1 := H.rowNew hb1 ol
  clear ol
  go_wp2_with fail
  refine (hB _).mono ?_
  rintro e w2 ⟨rfl, hb2⟩
  have H2 := H1.below hb2
  go_wp2_with fail
  refine (hF _).mono ?_
  rintro e w3 ⟨rfl, hb3⟩
  have H3 := H2.below hb3
  go_wp2_with fail
  refine (hW _ _ H3).mono ?_
  rintro e w4 ⟨A4, c4, t4, rfl, s4, H4⟩
  have n4 : t4.length ≤ 5000 := (by rw [sameTk_len s4]; exact (by decide : 2 ≤ 5000))
  go_wp2_with fail
  go_loopw [10, 11] (fun v10 v11 wr => ∃ (i : Nat) (A : Option Addr) (k : Nat) (ts : List Tk), v10 = .slice A ts.length k ∧ v11 = .int .i64 (i : Int) ∧ i ≤ ks.length ∧ sameTk ts ([wdK (opW t.op), wdK [40]] ++ commaW ((wrs left right ks).take i)) ∧ HS wr (rowA 100 4 (.slice A ts.length k) ts.length (ts.flatMap Tk.cells) :: rowA 27 1 (.slice (some ⟨g, 0, none⟩) ks.length d1) ks.length (opCells b off c 1 ks) :: l)) (fun _ v11 _ => ks.length - (intOf v11).toNat)
  case atStart => exact ⟨0, A4, c4, t4, rfl, rfl, by omega, by simpa [commaW] using s4, H4⟩
  case round =>
    clear H H1 H2 H3 H4 s4 n4
    obtain ⟨i, A5, c5, t5, rfl, rfl, hi, s5, H5⟩ := hrel
    have n5 : t5.length ≤ 6000 := by
      rw [sameTk_len s5, List.length_append]
      have := commaW_take (wrs left right ks) i
      simp; omega
    by_cases hlt : i < ks.length
    · have hki : ks[i]? = some ks[i] := List.getElem?_eq_getElem hlt
      generalize ks[i] = k at hki
      obtain ⟨q, hq, hp, hkw, hk5, hTk⟩ := hkid i k hki
      have HWS := Lib.hid (wrs_take (left := left) (right := right) hki)
      have h0 : (0 : Int) ≤ (i : Int) := by omega
      have h1 : (i : Int) < (ks.length : Int) := by omega
      have hiw : IntKind.i64.wrap ((i : Int) + 1) = (i : Int) + 1 := IntWalk.i64_in _ (by omega)
      have q5 := H5.at_ pkQ hq
      clear hki hp hkw hops hkid hcnt
      by_cases hi0 : 0 < i
      · have t0 : (0 : Int) < (i : Int) := by omega
        rw [if_pos hi0] at HWS
        go_wp2_with fail
        refine (rwords_c [44] [wdK [44]] (by decide) scan_comma H5).mono ?_
        rintro e w6 ⟨A6, c6, t6, rfl, s6, H6⟩
        have n6 : t6.length ≤ 5000 := (by rw [sameTk_len s6]; decide)
        go_wp2_with ((at_builtin; have R7 := HS.row (v := .slice A5 t5.length c5) H6 pkQ; have Q7 := HS.row (v := .slice A6 t6.length c6) H6 pkQ; refine wpList_appAny (v := .slice A5 t5.length c5) rfl _ _ stTk rfl rfl R7 rfl (news := t6.flatMap Tk.cells) (kcells_len _) (Rd.of_own Q7) (own_none Q7) (kcells_one _) (by omega) (Nat.zero_le _) ?_; intro v7 w7 o7 g7 at7; obtain ⟨A7, c7, t7, rfl, h7, p7⟩ := own_tk o7; have H7 := HS.app (v := .slice A5 t5.length c5) H6 pkQ p7 g7 at7; have n7 : t7.length ≤ 20000 := (by rw [h7.out, List.length_append]; omega)); have q7 := H7.at_ pkQ hq)
        go_wp2_with fail
        refine (hTk _ _ _ H7 (.there (.there (.there ho)))).mono ?_
        rintro e w8 ⟨A8, c8, t8, rfl, s8, H8⟩
        have n8 : t8.length ≤ 5000 := (by rw [sameTk_len s8]; exact hk5)
        have n7' : t7.length ≤ 11000 := by rw [h7.out, List.length_append]; omega
        go_wp2_with (at_builtin; have R9 := HS.row (v := .slice A7 t7.length c7) H8 pkQ; have Q9 := HS.row (v := .slice A8 t8.length c8) H8 pkQ; refine wpList_appAny (v := .slice A7 t7.length c7) rfl _ _ stTk rfl rfl R9 rfl (news := t8.flatMap Tk.cells) (kcells_len _) (Rd.of_own Q9) (own_none Q9) (kcells_one _) (by omega) (Nat.zero_le _) ?_; intro v9 w9 o9 g9 at9; obtain ⟨A9, c9, t9, rfl, h9, p9⟩ := own_tk o9; have H9 := HS.app (v := .slice A7 t7.length c7) H8 pkQ p9 g9 at9; have n9 : t9.length ≤ 20000 := (by rw [h9.out, List.length_append]; omega))
        go_wp2_with fail
        go_roundw
        case rel =>
          refine ⟨i + 1, A9, c9, t9, rfl, by go_num, by omega, ?_, H9.sub pkQ⟩
          rw [h9.out, h7.out, HWS.out, List.append_assoc, ← List.append_assoc _ (commaW _)]
          exact sameTk_cat s5 (sameTk_cat s6 s8)
        case measure => simp [intOf]; omega
      · have t0 : ¬ (0 : Int) < (i : Int) := by omega
        rw [if_neg hi0] at HWS
        go_wp2_with fail
        refine (hTk _ _ _ H5 (.there (.there ho))).mono ?_
        rintro e w8 ⟨A8, c8, t8, rfl, s8, H8⟩
        have n8 : t8.length ≤ 5000 := (by rw [sameTk_len s8]; exact hk5)
        go_wp2_with (at_builtin; have R9 := HS.row (v := .slice A5 t5.length c5) H8 pkQ; have Q9 := HS.row (v := .slice A8 t8.length c8) H8 pkQ; refine wpList_appAny (v := .slice A5 t5.length c5) rfl _ _ stTk rfl rfl R9 rfl (news := t8.flatMap Tk.cells) (kcells_len _) (Rd.of_own Q9) (own_none Q9) (kcells_one _) (by omega) (Nat.zero_le _) ?_; intro v9 w9 o9 g9 at9; obtain ⟨A9, c9, t9, rfl, h9, p9⟩ := own_tk o9; have H9 := HS.app (v := .slice A5 t5.length c5) H8 pkQ p9 g9 at9; have n9 : t9.length ≤ 20000 := (by rw [h9.out, List.length_append]; omega))
        go_wp2_with fail
        go_roundw
        case rel =>
          refine ⟨i + 1, A9, c9, t9, rfl, by go_num, by omega, ?_, H9.sub pkQ⟩
          rw [h9.out, HWS.out, ← List.append_assoc _ (commaW _)]
          exact sameTk_cat s5 s8
        case measure => simp [intOf]; omega
    · obtain rfl : i = ks.length := by omega
      rw [List.take_of_length_le (by rw [wrs_len]; exact Nat.le_refl _)] at s5
      have h1 : ¬ (ks.length : Int) < (ks.length : Int) := by omega
      clear hops hkid hcnt hlt
      go_wp2_with fail
      refine (rwords_c [41] [wdK [41]] (by decide) scan_end H5).mono ?_
      rintro e w6 ⟨A6, c6, t6, rfl, s6, H6⟩
      have n6 : t6.length ≤ 5000 := (by rw [sameTk_len s6]; decide)
      go_wp2_with (at_builtin; have R7 := HS.row (v := .slice A5 t5.length c5) H6 pkQ; have Q7 := HS.row (v := .slice A6 t6.length c6) H6 pkQ; refine wpList_appAny (v := .slice A5 t5.length c5) rfl _ _ stTk rfl rfl R7 rfl (news := t6.flatMap Tk.cells) (kcells_len _) (Rd.of_own Q7) (own_none Q7) (kcells_one _) (by omega) (Nat.zero_le _) ?_; intro v7 w7 o7 g7 at7; obtain ⟨A7, c7, t7, rfl, h7, p7⟩ := own_tk o7; have H7 := HS.app (v := .slice A5 t5.length c5) H6 pkQ p7 g7 at7; have n7 : t7.length ≤ 20000 := (by rw [h7.out, List.length_append]; omega))
      go_wp2_with fail
      go_ret
      refine TrPost.done ?_ H7 pkQ
      rw [HE.out, h7.out]
      exact sameTk_cat s5 s6
theorem rtok_un {w0 w : World} {LA DA : Option Addr} {ln lc rn rc b off n c : Nat} {left right : List Bs} {l l' : List HA} {t : T} {a : X} (hl : RowB w0 w0.heap.size LA ln left) (hr : RowB w0 w0.heap.size DA rn right) (hln : ln ≤ 1000000) (hrn : rn ≤ 1000000) (hdp : (X.node t [a]).depth ≤ 17) (hw : (X.node t [a]).wf = true) (hco : ∀ c ∈ (X.node t [a]).cols, okCol left right c) (hnc : n ≤ c) (hcm : c ≤ maxLen) (hn : n ≤ 1000) (hT : RowT w0 w0.heap.size (some ⟨b, off, none⟩) n (X.node t [a]).flat) (H : HS w l) (ho : Pick l (oldA w0) l') (hcnt : (nodeW left right t [a] (wrs left right [a])).length ≤ 5000) (hkid : KidsOk w0 LA DA ln lc rn rc left right b off c [a]) (h1 : t.op ≠ 1) (h2 : t.op ≠ 2) (hun : t.op = 3 ∨ t.op = 13) :
    Calls Tryz.prog 39 #[.slice (some ⟨b, off, none⟩) n c, .slice LA ln lc, .slice DA rn rc] w (TrPost l (nodeW left right t [a] (wrs left right [a]))) := by
  have hxl := hT.len
  have hT' := (hT.below (H.old ho)).more (H.old ho).size
  rw [X.flat_node] at hT'
  obtain ⟨b', off', e1, hb, c0, c1, c2, c3, c4⟩ := RowT.head5 hT'
  injection e1 with e1
  injection e1 with e1 e2
  subst e1 e2
  have hn1 : 0 < n := by rw [X.flat_node] at hxl; simp at hxl; omega
  clear hT' hxl
  have hw2 := hw
  simp only [X.wf, Bool.and_eq_true, decide_eq_true_eq] at hw2
  obtain ⟨hok, hkl, hkw⟩ := hw2
  have hop := term_op hok
  have hops := fun w1 (H1 : HS w1 l) => operands_c b off n c t [a] w1 hn hnc hcm hw hdp ((hT.below (H1.old ho)).more (H1.old ho).size)
  have hk3 := ar_le t.op
  unfold KidsOk at hkid
  have hop1 : (t.op == 1) = false := by simpa using h1
  have hop2 : (t.op == 2) = false := by simpa using h2
  obtain ⟨q, hq, hp, hkw1, hk5, hTk⟩ := hkid 0 a rfl
  rcases hun with h3 | h3
  · have HE := Lib.hid (show nodeW left right t [a] (wrs left right [a]) = wdK [45] :: operW a true (a.wr left right) by
      unfold nodeW; rw [if_neg h1, if_neg h2, h3]; rfl)
    have hO := fun w1 l l' (H1 : HS w1 l) (ho : Pick l (oldA w0) l') => roperand_c a true hkw1 hk5 hp ho (hTk _ _ _ H1 ho)
    have hol : (operW a true (a.wr left right)).length ≤ 5100 := by unfold operW; split <;> (try simp) <;> omega
    rw [h3] at c0
    clear hkid hw hkw hok h1 h2 hl hr hco hop hkl hk3 h3 hcnt hp hkw1 hk5 hTk hop1 hop2
    go_enter Tryz.func39, Tryz.ntmps39
    go_upto_region 9 with (go_at_call 74; refine (hops _ H).mono ?_; rintro e w1 ⟨lv, rfl, ol, hb1⟩; obtain ⟨L1, d1, rfl, -, -⟩ := own_slice ol; obtain ⟨g, rfl⟩ := own_at0 ol (by simp); have H1 := H.rowNew hb1 ol; clear ol)
    have q1 := H1.at_ pkQ hq
    have H1 := H1.drew
    (refine wp_region_G 8 (fun w' => w'.cell? ⟨g, 0, none⟩ = some (.slice (some ⟨b, off + q * 5, none⟩) a.flat.length (c - q))) (by kernel_rfl) ?_ (fun hHeld => ?_); (focus (try dsimp only); go_keep))
    (refine GG.k 1 ?_; refine GG.k 2 ?_; refine GG.k 3 ?_; refine GG.k 4 ?_; refine GG.k 5 ?_)
    (refine GG.o 0 (fun K hK => ?_); (go_simp; go_at_call 75; refine (rwords_c [45] [wdK [45]] (by decide) scan_minus H1).mono ?_; rintro e w2 ⟨A2, c2, t2, rfl, s2, H2⟩; have n2 : t2.length ≤ 5000 := (by rw [sameTk_len s2]; decide); have q2 := H2.at_ pkQ hq); refine hK.out _ _ ?_ (fun hHeld => ?_); (focus (try dsimp only); go_keep); clear hK K; (try simp only [Act.put, qqa, qqb, qqc]))
    (refine GG.o 6 (fun K hK => ?_); (go_simp; go_at_call 76; refine (hO _ _ _ H2 (.there (.there ho))).mono ?_; rintro e w3 ⟨A3, c3, t3, rfl, s3, H3⟩; have n3 : t3.length ≤ 5100 := (by rw [sameTk_len s3]; exact hol); have q3 := H3.at_ pkQ hq); refine hK.out _ _ ?_ (fun hHeld => ?_); (focus (try dsimp only); go_keep); clear hK K; (try simp only [Act.put, qqa, qqb, qqc]))
    (refine GG.o 7 (fun K hK => ?_); (have R4 := HS.row (v := .slice A2 t2.length c2) H3 pkQ; have Q4 := HS.row (v := .slice A3 t3.length c3) H3 pkQ; refine step_app3 (v := .slice A2 t2.length c2) (by rfl) _ _ stTk (by rfl) (by rfl) R4 (by rfl) (news := t3.flatMap Tk.cells) (kcells_len _) (Rd.of_own Q4) (own_none Q4) (kcells_one _) (by omega) (Nat.zero_le _) ?_; intro v4 w4 o4 g4 at4; obtain ⟨A4, c4, t4, rfl, h4, p4⟩ := own_tk o4; have H4 := HS.app (v := .slice A2 t2.length c2) H3 pkQ p4 g4 at4; have n4 : t4.length ≤ 20000 := (by rw [h4.out, List.length_append]; omega); have q4 := H4.at_ pkQ hq); refine hK.out _ _ ?_ (fun hHeld => ?_); (focus (try dsimp only); go_keep); clear hK K; (try simp only [Act.put, qqa, qqb, qqc]))
    (refine GG.l (fun K hK => ?_); go_simp; refine hK.out _ _ ?_; clear hK K)
    go_wp2_with fail
    go_ret
    refine TrPost.done ?_ H4 pkQ
    rw [HE.out, h4.out]
    exact sameTk_cat s2 s3
  · have HE := Lib.hid (show nodeW left right t [a] (wrs left right [a]) = wdK wNot :: operW a false (a.wr left right) by
      unfold nodeW; rw [if_neg h1, if_neg h2, h3]; rfl)
    have hO := fun w1 l l' (H1 : HS w1 l) (ho : Pick l (oldA w0) l') => roperand_c a false hkw1 hk5 hp ho (hTk _ _ _ H1 ho)
    have hol : (operW a false (a.wr left right)).length ≤ 5100 := by unfold operW; split <;> (try simp) <;> omega
    rw [h3] at c0
    clear hkid hw hkw hok h1 h2 hl hr hco hop hkl hk3 h3 hcnt hp hkw1 hk5 hTk hop1 hop2
    go_enter Tryz.func39, Tryz.ntmps39
    go_upto_region 11 with (go_at_call 74; refine (hops _ H).mono ?_; rintro e w1 ⟨lv, rfl, ol, hb1⟩; obtain ⟨L1, d1, rfl, -, -⟩ := own_slice ol; obtain ⟨g, rfl⟩ := own_at0 ol (by simp); have H1 := H.rowNew hb1 ol; clear ol)
    have q1 := H1.at_ pkQ hq
    have H1 := H1.drew
    (refine wp_region_G 8 (fun w' => w'.cell? ⟨g, 0, none⟩ = some (.slice (some ⟨b, off + q * 5, none⟩) a.flat.length (c - q))) (by kernel_rfl) ?_ (fun hHeld => ?_); (focus (try dsimp only); go_keep))
    (refine GG.k 1 ?_; refine GG.k 2 ?_; refine GG.k 3 ?_; refine GG.k 4 ?_; refine GG.k 5 ?_)
    (refine GG.o 0 (fun K hK => ?_); (go_simp; go_at_call 75; refine (rwords_c [110, 111, 116] [wdK wNot] (by decide) scan_not H1).mono ?_; rintro e w2 ⟨A2, c2, t2, rfl, s2, H2⟩; have n2 : t2.length ≤ 5000 := (by rw [sameTk_len s2]; decide); have q2 := H2.at_ pkQ hq); refine hK.out _ _ ?_ (fun hHeld => ?_); (focus (try dsimp only); go_keep); clear hK K; (try simp only [Act.put, qqa, qqb, qqc]))
    (refine GG.o 6 (fun K hK => ?_); (go_simp; go_at_call 76; refine (hO _ _ _ H2 (.there (.there ho))).mono ?_; rintro e w3 ⟨A3, c3, t3, rfl, s3, H3⟩; have n3 : t3.length ≤ 5100 := (by rw [sameTk_len s3]; exact hol); have q3 := H3.at_ pkQ hq); refine hK.out _ _ ?_ (fun hHeld => ?_); (focus (try dsimp only); go_keep); clear hK K; (try simp only [Act.put, qqa, qqb, qqc]))
    (refine GG.o 7 (fun K hK => ?_); (have R4 := HS.row (v := .slice A2 t2.length c2) H3 pkQ; have Q4 := HS.row (v := .slice A3 t3.length c3) H3 pkQ; refine step_app3 (v := .slice A2 t2.length c2) (by rfl) _ _ stTk (by rfl) (by rfl) R4 (by rfl) (news := t3.flatMap Tk.cells) (kcells_len _) (Rd.of_own Q4) (own_none Q4) (kcells_one _) (by omega) (Nat.zero_le _) ?_; intro v4 w4 o4 g4 at4; obtain ⟨A4, c4, t4, rfl, h4, p4⟩ := own_tk o4; have H4 := HS.app (v := .slice A2 t2.length c2) H3 pkQ p4 g4 at4; have n4 : t4.length ≤ 20000 := (by rw [h4.out, List.length_append]; omega); have q4 := H4.at_ pkQ hq); refine hK.out _ _ ?_ (fun hHeld => ?_); (focus (try dsimp only); go_keep); clear hK K; (try simp only [Act.put, qqa, qqb, qqc]))
    (refine GG.l (fun K hK => ?_); go_simp; refine hK.out _ _ ?_; clear hK K)
    go_wp2_with fail
    go_ret
    refine TrPost.done ?_ H4 pkQ
    rw [HE.out, h4.out]
    exact sameTk_cat s2 s3
theorem rtok_bin {w0 w : World} {LA DA : Option Addr} {ln lc rn rc b off n c : Nat} {left right : List Bs} {l l' : List HA} {t : T} {a a2 : X} (hl : RowB w0 w0.heap.size LA ln left) (hr : RowB w0 w0.heap.size DA rn right) (hln : ln ≤ 1000000) (hrn : rn ≤ 1000000) (hdp : (X.node t [a, a2]).depth ≤ 17) (hw : (X.node t [a, a2]).wf = true) (hco : ∀ c ∈ (X.node t [a, a2]).cols, okCol left right c) (hnc : n ≤ c) (hcm : c ≤ maxLen) (hn : n ≤ 1000) (hT : RowT w0 w0.heap.size (some ⟨b, off, none⟩) n (X.node t [a, a2]).flat) (H : HS w l) (ho : Pick l (oldA w0) l') (hcnt : (nodeW left right t [a, a2] (wrs left right [a, a2])).length ≤ 5000) (hkid : KidsOk w0 LA DA ln lc rn rc left right b off c [a, a2]) (h1 : t.op ≠ 1) (h2 : t.op ≠ 2) (hbi : isBin t.op) :
    Calls Tryz.prog 39 #[.slice (some ⟨b, off, none⟩) n c, .slice LA ln lc, .slice DA rn rc] w (TrPost l (nodeW left right t [a, a2] (wrs left right [a, a2]))) := by
  have hxl := hT.len
  have hT' := (hT.below (H.old ho)).more (H.old ho).size
  rw [X.flat_node] at hT'
  obtain ⟨b', off', e1, hb, c0, c1, c2, c3, c4⟩ := RowT.head5 hT'
  injection e1 with e1
  injection e1 with e1 e2
  subst e1 e2
  have hn1 : 0 < n := by rw [X.flat_node] at hxl; simp at hxl; omega
  clear hT' hxl
  have hw2 := hw
  simp only [X.wf, Bool.and_eq_true, decide_eq_true_eq] at hw2
  obtain ⟨hok, hkl, hkw⟩ := hw2
  have hop := term_op hok
  have hops := fun w1 (H1 : HS w1 l) => operands_c b off n c t [a, a2] w1 hn hnc hcm hw hdp ((hT.below (H1.old ho)).more (H1.old ho).size)
  have hk3 := ar_le t.op
  unfold KidsOk at hkid
  have hop1 : (t.op == 1) = false := by simpa using h1
  have hop2 : (t.op == 2) = false := by simpa using h2
  obtain ⟨q, hq, hp, hkw1, hk5, hTk⟩ := hkid 0 a rfl
  obtain ⟨q', hq', hp', hkw2, hk6, hTk'⟩ := hkid 1 a2 rfl
  have hn3 : t.op ≠ 3 ∧ t.op ≠ 13 ∧ isFun t.op = false ∧ 1 ≤ t.op ∧ t.op ≤ 18 := by
    unfold isBin at hbi
    rcases hbi with h | h | h | h | h | h | h | h | h <;> rw [h] <;> decide
  have hop3 : (t.op == 3) = false := by simpa using hn3.1
  have hop13 : (t.op == 13) = false := by simpa using hn3.2.1
  have HE := Lib.hid (show nodeW left right t [a, a2] (wrs left right [a, a2]) = operW a false (a.wr left right) ++ wdK (opW t.op) :: operW a2 false (a2.wr left right) by
    unfold nodeW; rw [if_neg h1, if_neg h2, if_neg (by rw [hn3.2.2.1]; simp)]; rfl)
  have hO := fun w1 l l' (H1 : HS w1 l) (ho : Pick l (oldA w0) l') => roperand_c a false hkw1 hk5 hp ho (hTk _ _ _ H1 ho)
  have hO' := fun w1 l l' (H1 : HS w1 l) (ho : Pick l (oldA w0) l') => roperand_c a2 false hkw2 hk6 hp' ho (hTk' _ _ _ H1 ho)
  have hol : (operW a false (a.wr left right)).length ≤ 5100 := by unfold operW; split <;> (try simp) <;> omega
  have hol' : (operW a2 false (a2.wr left right)).length ≤ 5100 := by unfold operW; split <;> (try simp) <;> omega
  obtain ⟨sb, hbn, hbl⟩ := scan_bin hbi
  have hbn2 : ((⟨(binW t.op).toArray⟩ : ByteArray) != ⟨#[]⟩) = true := by unfold bne; rw [hbn]; rfl
  have hbe : (binW t.op).isEmpty = false := (ba_emp _).symm.trans hbn
  have hB := fun w => rbinary_c t.op w hn3.2.2.2.1 hn3.2.2.2.2
  unfold BwPost at hB
  have hW := fun w l (H : HS w l) => rwords_c (binW t.op) _ (by omega) sb H
  generalize binW t.op = bw at hB hbn hbn2 hbe hW
  clear hkid hw hkw hok h1 h2 hl hr hco hop hkl hk3 hcnt hp hkw1 hk5 hTk hp' hkw2 hk6 hTk' hbi hn3 sb hbl
  go_enter Tryz.func39, Tryz.ntmps39
  go_wp2_with fail
  refine (hops _ H).mono ?_
  rintro e w1 ⟨lv, rfl, ol, hb1⟩
  obtain ⟨L1, d1, rfl, -, -⟩ := own_slice ol
  obtain ⟨g, rfl⟩ := own_at0 ol (by simp)
  have H1 := H.rowNew hb1 ol
  clear ol
  go_wp2_with fail
  refine (hB w1).mono ?_
  rintro e w2 ⟨rfl, hb2⟩
  have H2 := H1.below hb2
  have q2 := H2.at_ pkQ hq
  go_wp2_with fail
  refine (hO w2 _ _ H2 (.there ho)).mono ?_
  rintro e w3 ⟨A3, c3, t3, rfl, s3, H3⟩
  have n3 : t3.length ≤ 5100 := (by rw [sameTk_len s3]; exact hol)
  go_wp2_with fail
  refine (hB w3).mono ?_
  rintro e w4 ⟨rfl, hb4⟩
  have H4 := H3.below hb4
  go_wp2_with fail
  refine (hW _ _ H4).mono ?_
  rintro e w5 ⟨A5, c5, t5, rfl, s5, H5⟩
  have n5 : t5.length ≤ 5000 := (by rw [sameTk_len s5]; exact (by decide : 1 ≤ 5000))
  go_wp2_with ((at_builtin; have R6 := HS.row (v := .slice A3 t3.length c3) H5 pkQ; have Q6 := HS.row (v := .slice A5 t5.length c5) H5 pkQ; refine wpList_appAny (v := .slice A3 t3.length c3) rfl _ _ stTk rfl rfl R6 rfl (news := t5.flatMap Tk.cells) (kcells_len _) (Rd.of_own Q6) (own_none Q6) (kcells_one _) (by omega) (Nat.zero_le _) ?_; intro v6 w6 o6 g6 at6; obtain ⟨A6, c6, t6, rfl, h6, p6⟩ := own_tk o6; have H6 := HS.app (v := .slice A3 t3.length c3) H5 pkQ p6 g6 at6; have n6 : t6.length ≤ 20000 := (by rw [h6.out, List.length_append]; omega)); have q6 := H6.at_ pkQ hq')
  go_wp2_with fail
  refine (hO' _ _ _ H6 (.there (.there (.there ho)))).mono ?_
  rintro e w7 ⟨A7, c7, t7, rfl, s7, H7⟩
  have n7 : t7.length ≤ 5100 := (by rw [sameTk_len s7]; exact hol')
  have n6' : t6.length ≤ 10100 := by rw [h6.out, List.length_append]; omega
  go_wp2_with (at_builtin; have R8 := HS.row (v := .slice A6 t6.length c6) H7 pkQ; have Q8 := HS.row (v := .slice A7 t7.length c7) H7 pkQ; refine wpList_appAny (v := .slice A6 t6.length c6) rfl _ _ stTk rfl rfl R8 rfl (news := t7.flatMap Tk.cells) (kcells_len _) (Rd.of_own Q8) (own_none Q8) (kcells_one _) (by omega) (Nat.zero_le _) ?_; intro v8 w8 o8 g8 at8; obtain ⟨A8, c8, t8, rfl, h8, p8⟩ := own_tk o8; have H8 := HS.app (v := .slice A6 t6.length c6) H7 pkQ p8 g8 at8; have n8 : t8.length ≤ 20000 := (by rw [h8.out, List.length_append]; omega))
  go_wp2_with fail
  go_ret
  refine TrPost.done ?_ H8 pkQ
  rw [HE.out, h8.out, h6.out, List.append_assoc]
  exact sameTk_cat s3 (sameTk_cat s5 s7)
theorem rtokens_c {w0 : World} {LA DA : Option Addr} {ln lc rn rc : Nat} {left right : List Bs} (hl : RowB w0 w0.heap.size LA ln left) (hr : RowB w0 w0.heap.size DA rn right) (hln : ln ≤ 1000000) (hrn : rn ≤ 1000000) :
    ∀ (f : Nat) (x : X) (b off n c : Nat) (w : World) (l l' : List HA), x.depth ≤ f → f ≤ 17 → x.wf = true → (∀ c ∈ x.cols, okCol left right c) → n ≤ c → c ≤ maxLen → n ≤ 1000 → RowT w0 w0.heap.size (some ⟨b, off, none⟩) n x.flat → HS w l → Pick l (oldA w0) l' →
      Calls Tryz.prog 39 #[.slice (some ⟨b, off, none⟩) n c, .slice LA ln lc, .slice DA rn rc] w (TrPost l (x.wr left right)) := by
  intro f
  induction f with
  | zero => intro x b off n c w l l' hd; have := x.depth_pos; omega
  | succ f ih =>
    intro x b off n c w l l' hd hf hw hco hnc hcm hn hT H ho
    have hcnt := wr_count hw hco
    rw [hT.len] at hcnt
    obtain ⟨t, ks⟩ := x
    have hw2 := hw
    simp only [X.wf, Bool.and_eq_true, decide_eq_true_eq] at hw2
    obtain ⟨hok, hkl, hkw⟩ := hw2
    have hE : (X.node t ks).wr left right = nodeW left right t ks (wrs left right ks) := by rw [X.wr]
    rw [hE] at hcnt ⊢
    have hdk : deepest ks ≤ f := by simp only [X.depth] at hd; omega
    have hkid : KidsOk w0 LA DA ln lc rn rc left right b off c ks := fun i k hk => by
      obtain ⟨q, hq, hc, hp⟩ := kidOf c hT hk
      obtain ⟨k1, k2, -⟩ := kid_in hk
      have hkw' := k2 hkw
      have hkc := cols_kid hco hk
      have h5 := wr_count hkw' hkc
      exact ⟨q, hc, hp, hkw', by omega, fun w l l' H ho => ih k b (off + q * 5) k.flat.length (c - q) w l l' (by omega) (by omega) hkw' hkc (by omega) (by omega) (by omega) hp H ho⟩
    have hc5 : (nodeW left right t ks (wrs left right ks)).length ≤ 5000 := by omega
    rcases node_kinds hok hkl with ⟨h1, rfl⟩ | ⟨h2, rfl⟩ | ⟨h1, h2, hfn, har⟩ | ⟨h1, h2, hun, a, rfl⟩ | ⟨h1, h2, hbi, a, a2, rfl⟩
    · exact rtok_const hl hr hln hrn (Nat.le_trans hd (by omega)) hw hco hnc hcm hn hT H ho hc5 hkid h1
    · exact rtok_col hl hr hln hrn (Nat.le_trans hd (by omega)) hw hco hnc hcm hn hT H ho hc5 hkid h2
    · exact rtok_fun hl hr hln hrn (Nat.le_trans hd (by omega)) hw hco hnc hcm hn hT H ho hc5 hkid h1 h2 hfn har
    · exact rtok_un hl hr hln hrn (Nat.le_trans hd (by omega)) hw hco hnc hcm hn hT H ho hc5 hkid h1 h2 hun
    · exact rtok_bin hl hr hln hrn (Nat.le_trans hd (by omega)) hw hco hnc hcm hn hT H ho hc5 hkid h1 h2 hbi
end Go.Proofs.YtpnfbehbheddeaaGreatDoor
