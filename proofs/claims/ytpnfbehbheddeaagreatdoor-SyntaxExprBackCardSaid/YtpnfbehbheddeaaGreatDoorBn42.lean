/- Contracts of text and Join, of the program and of the reference: at most 100000 tokens with texts of at most 100000 bytes; the program's where the table of powers of ten is as it is laid. Contracts of Join, of the program and of the reference, and of the reference's Same where both lists are the same: at most 100000 tokens with texts of at most 100000 bytes. write of the writer of expressions on trees, and expression. At most 1000 terms. Contract of FormatExpr for valid expressions whose columns have names. The table of powers of ten is as it is laid. Example 2 of the chapter, by evaluation: plain Lean. Contracts of the reference's Substitute, and of Same where both are equal. The walk of the law SyntaxExamples; where the table of powers of ten is as it is laid and the variable ErrRange can be read. What the writer of expressions has written, the parser reads again: nodes. Plain Lean, no program in sight. -/
import Derived.Test.YtpnfbehbheddeaaGreatDoorBn13
import Derived.Test.YtpnfbehbheddeaaGreatDoorBn16
import Derived.Test.YtpnfbehbheddeaaGreatDoorBn03
import Derived.Laws.Concat
import Derived.Test.YtpnfbehbheddeaaGreatDoorBn41
import Derived.Test.YtpnfbehbheddeaaGreatDoorBn32
import Derived.Test.YtpnfbehbheddeaaGreatDoorBn17
import Derived.Test.YtpnfbehbheddeaaGreatDoorBn38
import Derived.Test.YtpnfbehbheddeaaGreatDoorBn08
import Derived.Test.YtpnfbehbheddeaaGreatDoorBn02
import Derived.Test.YtpnfbehbheddeaaGreatDoorBn09
import Derived.Test.YtpnfbehbheddeaaGreatDoorBn31
import Derived.Test.YtpnfbehbheddeaaGreatDoorBn19
import Derived.Test.YtpnfbehbheddeaaGreatDoorBn40
namespace Go.Proofs.YtpnfbehbheddeaaGreatDoor
set_option maxRecDepth 100000
set_option maxHeartbeats 8000000
set_option linter.unusedVariables false
set_option linter.unusedSimpArgs false
open Go.RowKit
def SPost (w : World) (l : List UInt8) (e : Ending) (w' : World) : Prop := e = .returned (.string ⟨l.toArray⟩) ∧ Below w.heap.size w w'
theorem fmt_text {s : ByteArray} (h : s.size ≤ 32) : fmtV ⟨2, 0, s⟩ = quoteL s.data.toList := by
  have hok : (V.mk 2 0 s).ok = true := by simp [V.ok, h]
  unfold fmtV
  rw [V.cl_of hok, if_neg (by simp), if_pos rfl]
theorem tokText_no {t : Tk} (h : tokOk t = false) : tokText t = [] := by unfold tokText; rw [h]; rfl
theorem tokText_ok {t : Tk} (h : tokOk t = true) : tokText t = wordTk t := by unfold tokText; rw [h]; rfl
theorem xtext (t : Tk) (w : World) (ht : t.text.length ≤ 100000) (hG : G w) : Calls Tryz.prog 67 #[.agg #[.int .i64 t.kind, .string ⟨t.text.toArray⟩, .int .i64 t.int, .int .i64 t.pos]] w (SPost w (tokText t)) := by
  obtain ⟨k, tx, n, p⟩ := t
  obtain ⟨s, rfl⟩ : ∃ s : ByteArray, tx = s.data.toList := ⟨⟨tx.toArray⟩, rfl⟩
  simp only at ht
  simp only [Lib.mk_data]
  rw [← Lib.size_eq] at ht
  by_cases h1 : k = 1
  · subst h1
    have hI := fun w => xisName s w (by omega)
    cases hb : isNameB s.data.toList
    · have HR := Lib.hid (tokText_no (t := ⟨1, s.data.toList, n, p⟩) (by unfold tokOk; rw [if_pos rfl]; exact hb))
      rw [hb] at hI
      clear hb
      go_enter Tryz.func67, Tryz.ntmps67
      go_wp2_with (go_at_call 32; refine (hI _).mono ?_; rintro e w1 ⟨rfl, rfl⟩)
      go_ret
      unfold SPost
      rw [HR.out]
      exact ⟨rfl, by (exact belQ)⟩
    · have HR := Lib.hid ((tokText_ok (t := ⟨1, s.data.toList, n, p⟩) (by unfold tokOk; rw [if_pos rfl]; exact hb)).trans (show wordTk ⟨1, s.data.toList, n, p⟩ = s.data.toList by unfold wordTk; rw [if_pos (.inl rfl)]))
      rw [hb] at hI
      clear hb
      go_enter Tryz.func67, Tryz.ntmps67
      go_wp2_with (go_at_call 32; refine (hI _).mono ?_; rintro e w1 ⟨rfl, rfl⟩)
      go_ret
      unfold SPost
      rw [HR.out]
      exact ⟨rfl, by (exact belQ)⟩
  have t1 : (k == 1) = false := by simpa using h1
  by_cases h2 : k = 2
  · subst h2
    by_cases hn : 0 ≤ n ∧ n ≤ 4294967296
    · have HR := Lib.hid ((tokText_ok (t := ⟨2, s.data.toList, n, p⟩) (by unfold tokOk; rw [if_neg (by simp), if_pos rfl]; simpa using hn)).trans (show wordTk ⟨2, s.data.toList, n, p⟩ = Lib.itoa n by unfold wordTk; rw [if_neg (by simp), if_pos rfl]))
      obtain ⟨hn1, hn2⟩ := hn
      go_enter Tryz.func67, Tryz.ntmps67
      go_wp2_with (go_at_call 115; refine (Tryz.strconv_FormatInt_10 _ (by omega) (by omega) _ (by exact (hG.below (by (exact belQ))).tab)).mono ?_; rintro e w2 ⟨rfl, hb2'⟩; have hb2 := below_grow hb2'; clear hb2')
      go_ret
      unfold SPost
      rw [HR.out]
      exact ⟨rfl, by (exact belQ)⟩
    · have HR := Lib.hid (tokText_no (t := ⟨2, s.data.toList, n, p⟩) (by unfold tokOk; rw [if_neg (by simp), if_pos rfl]; rw [Bool.eq_false_iff]; intro h; simp at h; exact hn h))
      by_cases hn1 : 0 ≤ n
      · have hn2 : ¬ n ≤ 4294967296 := fun h => hn ⟨hn1, h⟩
        clear hn
        go_enter Tryz.func67, Tryz.ntmps67
        go_wp2_with fail
        go_ret
        unfold SPost
        rw [HR.out]
        exact ⟨rfl, by (exact belQ)⟩
      · clear hn
        go_enter Tryz.func67, Tryz.ntmps67
        go_wp2_with fail
        go_ret
        unfold SPost
        rw [HR.out]
        exact ⟨rfl, by (exact belQ)⟩
  have t2 : (k == 2) = false := by simpa using h2
  by_cases h3 : k = 3
  · subst h3
    by_cases h32 : s.size ≤ 32
    · have HR := Lib.hid ((tokText_ok (t := ⟨3, s.data.toList, n, p⟩) (by unfold tokOk; rw [if_neg (by simp), if_neg (by simp), if_pos rfl, ← Lib.size_eq]; simpa using h32)).trans (show wordTk ⟨3, s.data.toList, n, p⟩ = quoteL s.data.toList by unfold wordTk; rw [if_neg (by simp), if_neg (by simp)]))
      have HF := Lib.hid (fmt_text h32)
      have t32 : (s.size : Int) ≤ 32 := by omega
      go_enter Tryz.func67, Tryz.ntmps67
      go_wp2_with (go_at_call 116; refine (vformat ⟨2, 0, s⟩ _ (by exact hG.below (by (exact belQ)))).mono ?_; rintro e w1 ⟨rfl, hb1⟩)
      go_ret
      unfold SPost
      rw [HR.out, HF.out]
      exact ⟨rfl, by (exact belQ)⟩
    · have HR := Lib.hid (tokText_no (t := ⟨3, s.data.toList, n, p⟩) (by unfold tokOk; rw [if_neg (by simp), if_neg (by simp), if_pos rfl, ← Lib.size_eq]; simpa using h32))
      have t32 : ¬ (s.size : Int) ≤ 32 := by omega
      go_enter Tryz.func67, Tryz.ntmps67
      go_wp2_with fail
      go_ret
      unfold SPost
      rw [HR.out]
      exact ⟨rfl, by (exact belQ)⟩
  have t3 : (k == 3) = false := by simpa using h3
  by_cases h4 : k = 4
  · subst h4
    have HS := Lib.hid (isSign_prog s.data.toList)
    by_cases h0 : s.data.toList = []
    · have te : s.toList.isEmpty = true := by rw [empty_iff]; simpa using h0
      have HR := Lib.hid (tokText_no (t := ⟨4, s.data.toList, n, p⟩) (by unfold tokOk; rw [if_neg (by simp), if_neg (by simp), if_neg (by simp), if_pos rfl, HS.out]; simp [h0]))
      clear h0
      go_enter Tryz.func67, Tryz.ntmps67
      go_wp2_with fail
      go_quiet (fail)
      go_wp2_with fail
      go_ret
      unfold SPost
      rw [HR.out]
      exact ⟨rfl, by (exact belQ)⟩
    · have te : s.toList.isEmpty = false := by rw [empty_iff]; simpa using h0
      have hL := fun w => xsignLength s w
      have HQ := Lib.hid (show isSignB s.data.toList = decide (signLen s.data.toList = s.size) by rw [HS.out, ← Lib.size_eq]; simp [h0])
      generalize signLen s.data.toList = m at hL HQ
      clear h0
      by_cases hm : m = s.size
      · have tm : ((m : Int) == (s.size : Int)) = true := by rw [beq_iff_eq]; omega
        have HR := Lib.hid ((tokText_ok (t := ⟨4, s.data.toList, n, p⟩) (by unfold tokOk; rw [if_neg (by simp), if_neg (by simp), if_neg (by simp), if_pos rfl, HQ.out]; simpa using hm)).trans (show wordTk ⟨4, s.data.toList, n, p⟩ = s.data.toList by unfold wordTk; rw [if_pos (.inr rfl)]))
        clear hm
        go_enter Tryz.func67, Tryz.ntmps67
        go_wp2_with fail
        go_quiet ((go_at_call 84; exact Calls.quiet_of_same ((hL _).mono fun e w' h => ⟨h.1, h.2.symm⟩)))
        go_wp2_with fail
        go_ret
        unfold SPost
        rw [HR.out]
        exact ⟨rfl, by (exact belQ)⟩
      · have tm : ((m : Int) == (s.size : Int)) = false := by rw [beq_eq_false_iff_ne]; omega
        have HR := Lib.hid (tokText_no (t := ⟨4, s.data.toList, n, p⟩) (by unfold tokOk; rw [if_neg (by simp), if_neg (by simp), if_neg (by simp), if_pos rfl, HQ.out]; simpa using hm))
        clear hm
        go_enter Tryz.func67, Tryz.ntmps67
        go_wp2_with fail
        go_quiet ((go_at_call 84; exact Calls.quiet_of_same ((hL _).mono fun e w' h => ⟨h.1, h.2.symm⟩)))
        go_wp2_with fail
        go_ret
        unfold SPost
        rw [HR.out]
        exact ⟨rfl, by (exact belQ)⟩
  · have t4 : (k == 4) = false := by simpa using h4
    have HR := Lib.hid (tokText_no (t := ⟨k, s.data.toList, n, p⟩) (by unfold tokOk; rw [if_neg h1, if_neg h2, if_neg h3, if_neg h4]))
    clear h1 h2 h3 h4
    go_enter Tryz.func67, Tryz.ntmps67
    go_wp2_with fail
    go_ret
    unfold SPost
    rw [HR.out]
    exact ⟨rfl, by (exact belQ)⟩
theorem idle_Join (w : World) : CallsD Tryz.prog 66 #[] .returning w fun e u' w' => e = .returned (.tuple #[]) ∧ u' = .returning ∧ w' = w := by
  refine callsD_of_wpS Tryz.func66 rfl fun c₀ cs hu => ?_
  apply wpS_region
  cases c₀
  simp_all [wpOpsS, go_sem, recoverD, Tryz.ntmps66, bodyPostS, results, Tryz.results66]
def JnRel (w : World) (ts : List Tk) (v3 v9 : Value) (wr : World) : Prop :=
  ∃ k : Nat, v9 = .int .i64 (k : Int) ∧ k ≤ ts.length ∧ wr.ownsRow w.heap.size 9 1 v3 (wordsK (ts.take k)).length ((wordsK (ts.take k)).map strV) ∧ Below w.heap.size w wr
theorem isEmpty_mk {l : List UInt8} : (⟨l.toArray⟩ : ByteArray).toList.isEmpty = decide (l = []) := by rw [empty_iff]
theorem join_call {w : World} {base c : Nat} {A : Option Addr} (ts : List Tk) (hn : ts.length ≤ 100000) (hown : w.ownsRow base 9 1 (.slice A (wordsK ts).length c) (wordsK ts).length ((wordsK ts).map strV)) (hc : (wordsK ts).length ≤ c) :
    Calls Tryz.prog 68 #[.slice A (wordsK ts).length c, .string ⟨#[32]⟩] w fun e w' => e = .returned (.string ⟨(joinK ts).toArray⟩) ∧ Below w.heap.size w w' := by
  have hlen := joinK_len ts
  have hwl := wordsK_len ts
  unfold joinK at hlen ⊢
  by_cases h0 : wordsK ts = []
  · rw [h0]
    exact (Tryz.strings_Join_none A c ⟨#[32]⟩ w).mono fun e w' h => ⟨h.1, h.2 ▸ Below.refl _ _⟩
  · obtain ⟨b, off, rfl, hb, hcell⟩ := Rd.of_own hown (by simpa using h0)
    have hmap : ((wordsK ts).map fun l => (⟨l.toArray⟩ : ByteArray)).map (·.data.toList) = wordsK ts := by
      rw [List.map_map]; simp [Function.comp_def]
    have hj := Tryz.strings_Join b off c ((wordsK ts).map fun l => ⟨l.toArray⟩) ⟨#[32]⟩ w (by
      intro j x hx
      rw [List.getElem?_map] at hx
      obtain ⟨l, hl, rfl⟩ := Option.map_eq_some_iff.1 hx
      exact hcell j _ (by rw [List.getElem?_map, hl]; rfl)) hb (by rw [List.length_map]; omega) (by rw [List.length_map]; exact hc) (by rw [hmap]; show (Lib.join _ [32]).length ≤ _; rw [join_spJoin]; omega)
    rw [hmap, List.length_map, show (⟨#[32]⟩ : ByteArray).data.toList = [32] from rfl, join_spJoin] at hj
    exact hj
theorem xjoin (A : Option Addr) (n c : Nat) (ts : List Tk) (w : World) (hn : n ≤ 100000) (hr : RowK w w.heap.size A n ts) (ht : ∀ t ∈ ts, t.text.length ≤ 100000) (hG : G w) : Calls Tryz.prog 35 #[.slice A n c] w (SPost w (joinK ts)) := by
  have hmf : ∀ (fn : Fn) (first cap : Array Value) (w : World), (Instr.makeFunc fn first cap).run Tryz.prog w = .ok (.func fn first cap) w := fun _ _ _ _ => rfl
  have HN := Lib.hid hr.len
  have HT := Lib.hid ht
  clear ht
  go_enter_defers Tryz.func35, Tryz.ntmps35
  go_wp2_with fail
  go_loopw [3, 9] (fun v3 v9 wr => JnRel w ts v3 v9 wr) (fun _ v9 _ => n - (intOf v9).toNat)
  case atStart => exact ⟨0, rfl, by omega, World.ownsRow_nil _ _ _ _, Below.refl _ _⟩
  case round =>
    obtain ⟨k, rfl, hk, hown, hbel⟩ := hrel
    rw [HN.out] at hk
    have hzz := hbel.size
    by_cases hlt : k < n
    · obtain ⟨b, off, t, rfl, hb, hts, q0, q1, q2, q3⟩ := RowK.at4 (hr.later hbel) hlt
      have HTS := Lib.hid hts
      have hX := fun w1 hb1 => xtext t w1 (HT.out t (List.mem_of_getElem? hts)) (G.below hG hb1)
      have hk1 : (k : Int) < (n : Int) := by omega
      have hk0 : (0 : Int) ≤ (k : Int) := by omega
      have hwl := wordsK_len (ts.take k)
      rw [List.length_take] at hwl
      have hw5 : (wordsK (ts.take k)).length ≤ 100000 := by omega
      clear hts hwl
      cases hok : tokOk t
      · rw [tokText_no hok] at hX
        have HS := Lib.hid (show wordsK (ts.take (k + 1)) = wordsK (ts.take k) by rw [List.take_add_one, HTS.out]; exact wordsK_snoc_no hok)
        clear hok
        unfold SPost at hX
        have te : ((⟨([] : List UInt8).toArray⟩ : ByteArray).toList.isEmpty) = true := by rw [isEmpty_mk]; rfl
        generalize (⟨([] : List UInt8).toArray⟩ : ByteArray) = s0 at hX te
        go_wp2_with (go_at_call 67; refine (hX _ (by (exact belQ))).mono ?_; rintro e w1 ⟨rfl, hb1⟩; have hz1 := hb1.size; have own1 := own_below (hown.alloc _) hb1)
        have hb2 : Below w.heap.size w w1 := by (exact belQ)
        go_roundw
        case rel =>
          refine ⟨k + 1, by go_num, by rw [HN.out]; omega, ?_, hb2⟩
          rw [HS.out]
          exact own1
        case measure => simp [intOf]; omega
      · rw [tokText_ok hok] at hX
        have HS := Lib.hid (show wordsK (ts.take (k + 1)) = wordsK (ts.take k) ++ [wordTk t] by rw [List.take_add_one, HTS.out]; exact wordsK_snoc_ok hok)
        have hne := word_ne hok
        clear hok
        unfold SPost at hX
        have te : ((⟨(wordTk t).toArray⟩ : ByteArray).toList.isEmpty) = false := by
          rw [isEmpty_mk, decide_eq_false_iff_not]
          intro h
          rw [h] at hne
          simp at hne
        have HV := Lib.hid (show strV (wordTk t) = .string ⟨(wordTk t).toArray⟩ from rfl)
        generalize (⟨(wordTk t).toArray⟩ : ByteArray) = s0 at hX te HV
        go_wp2_with (first
          | (go_at_call 67; refine (hX _ (by (exact belQ))).mono ?_; rintro e w1 ⟨rfl, hb1⟩; have hz1 := hb1.size; have own1 := own_below (hown.alloc _) hb1)
          | (at_builtin; refine wpList_app (v := u3) rfl _ _ stS rfl rfl (own1) rfl (by simp) rfl (by simp [Value.oneCell']) (by omega) (by simp at hz1; omega) ?_; intro v' w3 own3 hg3 hat3))
        have hb2 : Below w.heap.size w w1 := by (exact belQ)
        have hb3 := below_app hb2 own1 hg3 (Nat.le_refl _) (by simp at hz1; omega)
        go_roundw
        case rel =>
          refine ⟨k + 1, by go_num, by rw [HN.out]; omega, ?_, hb3⟩
          rw [HS.out, List.length_append, List.map_append, List.map_cons, List.map_nil, HV.out]
          exact own3
        case measure => simp [intOf]; omega
    · have hkn : ts.take k = ts := List.take_of_length_le (by rw [HN.out]; omega)
      rw [hkn] at hown
      have hk1 : ¬ (k : Int) < (n : Int) := by omega
      obtain ⟨A3, c3, rfl, h31, h32⟩ := own_slice hown
      have hJ := join_call ts (by rw [HN.out]; exact hn) hown h31
      clear hkn hown h31 h32
      go_wp2_with (go_at_call 68; refine hJ.mono ?_; rintro e w1 ⟨rfl, hb1⟩)
      refine leave_idle idle_Join (by simp [go_sem]) (by simp [results, Tryz.results35, go_sem]; rfl) ?_
      exact ⟨rfl, by (exact belQ)⟩
theorem mem_flats3 {k : X} {t : T} (ht : t ∈ k.flat) : ∀ {ks : List X}, k ∈ ks → t ∈ flats ks
  | y :: ys, h => by
    rw [flats_cons, List.mem_append]
    rcases List.mem_cons.1 h with rfl | h
    · exact .inl ht
    · exact .inr (mem_flats3 ht h)
section
variable {w0 : World} {eb wb tn tc ln lc rn rc : Nat} {TA LA DA : Option Addr} {es : List T} {left right : List Bs}
theorem write_x (hT : RowT w0 w0.heap.size TA tn es) (hl : RowB w0 w0.heap.size LA ln left) (hr : RowB w0 w0.heap.size DA rn right) (htn : tn ≤ 1000) (hln : ln ≤ 1000000) (hrn : rn ≤ 1000000) (hnm : ∀ c, (colName left right c).length ≤ 1000000) :
    ∀ (f : Nat) (x : X) (r : List T) (pos : Nat), x.depth ≤ f → x.wf = true → es.drop pos = x.flat ++ r → (∀ t ∈ x.flat, t.op = 2 → t.c < ((ln + rn : Nat) : Int)) → WC w0 eb wb (.slice TA tn tc) (.slice LA ln lc) (.slice DA rn rc) pos (pos + x.flat.length) (x.wr left right) := by
  intro f
  induction f with
  | zero => intro x r pos hd; have := x.depth_pos; omega
  | succ f ih =>
    intro x r pos hd hw hx hcol
    obtain ⟨t, ks⟩ := x
    have hw2 := hw
    simp only [X.wf, Bool.and_eq_true, decide_eq_true_eq] at hw2
    obtain ⟨hok, hkl, hkw⟩ := hw2
    have ht : es[pos]? = some t := by
      have h2 : (es.drop pos)[0]? = some t := by rw [hx, X.flat_node]; rfl
      rwa [List.getElem?_drop, Nat.add_zero] at h2
    simp only [X.depth] at hd
    rw [X.flat_node] at hcol
    have hsub : ∀ (i : Nat) (k : X), ks[i]? = some k → ∀ t ∈ k.flat, t ∈ flats ks := fun i k hk t ht => mem_flats3 ht (List.mem_of_getElem? hk)
    have hK : KidsC w0 eb wb (.slice TA tn tc) (.slice LA ln lc) (.slice DA rn rc) es left right (pos + 1) ks := by
      refine ⟨fun i k hk => ?_, fun i k hk => ?_⟩
      · obtain ⟨h1, h2, h3⟩ := kid_in hk
        rw [h3, ← Nat.add_assoc]
        exact ih k _ _ (by omega) (h2 hkw) (kid_at hx hk) fun t ht => hcol t (List.mem_cons_of_mem _ (hsub i k hk t ht))
      · obtain ⟨h1, h2, h3⟩ := kid_in hk
        have hx2 := kid_at hx hk
        obtain ⟨r2, hr2⟩ := k.flat_head
        refine ⟨?_, wf_op (h2 hkw)⟩
        have h4 : (es.drop (pos + 1 + (flats (ks.take i)).length))[0]? = some k.t := by rw [hx2, hr2]; rfl
        rwa [List.getElem?_drop, Nat.add_zero] at h4
    have := write_node hT hl hr htn hln hrn hnm rfl ht hok hkl (fun h => hcol t (List.mem_cons_self ..) h) hK
    rw [X.wr, X.flat_node, List.length_cons, show pos + ((flats ks).length + 1) = pos + 1 + (flats ks).length by omega]
    exact this
theorem expression_w {w : World} {l l' : List HA} {x : X} (hT : RowT w0 w0.heap.size TA tn es) (hl : RowB w0 w0.heap.size LA ln left) (hr : RowB w0 w0.heap.size DA rn right) (htn : tn ≤ 1000) (hln : ln ≤ 1000000) (hrn : rn ≤ 1000000) (hnm : ∀ c, (colName left right c).length ≤ 1000000) (hw : x.wf = true) (hx : es = x.flat) (hcol : ∀ t ∈ x.flat, t.op = 2 → t.c < ((ln + rn : Nat) : Int)) {L : List Tk} (hL : L.length + (x.wr left right).length ≤ 1000000) (H : HS w (wA wb L :: l)) (ho : Pick l (oldA w0) l') :
    Calls Tryz.prog 34 #[.pointer (some ⟨wb, 0, none⟩), .slice TA tn tc, .slice LA ln lc, .slice DA rn rc] w fun e w' => e = .returned (.tuple #[]) ∧ HS w' (wA wb (L ++ x.wr left right) :: l) := by
  obtain ⟨z, w1, ez, ew, H1⟩ := H.alloc_ex (ewC wb (.slice TA tn tc) (.slice LA ln lc) (.slice DA rn rc)) 122
  have hC := write_x (eb := z) (wb := wb) (tc := tc) (lc := lc) (rc := rc) hT hl hr htn hln hrn hnm _ x [] 0 (Nat.le_refl _) hw (by rw [List.drop_zero, hx, List.append_nil]) hcol w1 l l' L hL H1 ho
  unfold WrPost at hC
  unfold ewC at ew
  clear hT hl hr hnm hcol hL H H1 ho
  go_enter Tryz.func34, Tryz.ntmps34
  go_upto_region 1 with fail
  (try rw [ez]); (try rw [ew])
  clear ez ew
  go_wp2_with (go_at_call 65; refine hC.mono ?_; rintro e w4 ⟨rfl, H4⟩)
  go_end0
  exact ⟨rfl, H4.tail⟩
end
theorem idle_FormatExpr (w : World) : CallsD Tryz.prog 30 #[] .returning w fun e u' w' => e = .returned (.tuple #[]) ∧ u' = .returning ∧ w' = w := by
  refine callsD_of_wpS Tryz.func30 rfl fun c₀ cs hu => ?_
  apply wpS_region
  cases c₀
  simp_all [wpOpsS, go_sem, recoverD, Tryz.ntmps30, bodyPostS, results, Tryz.results30]
theorem formatExpr_ok {w : World} {tn tc ln lc rn rc : Nat} {TA LA DA : Option Addr} {es : List T} {left right : List Bs} {x : X} (hT : RowT w w.heap.size TA tn es) (hl : RowB w w.heap.size LA ln left) (hr : RowB w w.heap.size DA rn right) (htn : tn ≤ 1000) (hln : ln ≤ 1000000) (hrn : rn ≤ 1000000) (hnm : ∀ c, (colName left right c).length ≤ 1000000)
    (hv : validE es = true) (hw : x.wf = true) (hx : es = x.flat) (hcol : ∀ t ∈ x.flat, t.op = 2 → t.c < ((ln + rn : Nat) : Int)) (hcl : ∀ c ∈ colsA es, 0 ≤ c ∧ c < ((ln + rn : Nat) : Int) ∧ isNameB (colName left right c.toNat) = true) (hn : (colsA es).length ≤ 1000) (hlen : (x.wr left right).length ≤ 100000) (htx : ∀ t ∈ x.wr left right, t.text.length ≤ 100000) (hG : G w) :
    Calls Tryz.prog 14 #[.slice TA tn tc, .slice LA ln lc, .slice DA rn rc] w (SPost w (joinK (x.wr left right))) := by
  have hV := xvalidE TA tn tc es w (by unfold maxLen; omega) hT
  rw [hv] at hV
  have hC := fun w1 (hb : Below w.heap.size w w1) => xcolumns TA tn tc es w1 (by unfold maxLen; omega) ((hT.below hb).more hb.size)
  rw [show colsV es = colsA es by unfold colsV; rw [if_pos hv]] at hC
  unfold ClPost at hC
  have hE := fun w1 wb l l' (H : HS w1 (wA wb [] :: l)) (ho : Pick l (oldA w) l') => expression_w (tc := tc) (lc := lc) (rc := rc) hT hl hr htn hln hrn hnm hw hx hcol (L := []) (by simp; omega) H ho
  rw [List.nil_append] at hE
  have hN := fun w1 (hb : Below w.heap.size w w1) (m : Nat) (hm : m < ln + rn) => columnName_c (lc := lc) (rc := rc) m ((hl.below hb).more hb.size) ((hr.below hb).more hb.size) hln hrn hm
  have hI := fun w1 (m : Nat) => xisName ⟨(colName left right m).toArray⟩ w1 (by show (colName left right m).toArray.size ≤ _; have := hnm m; simp; omega)
  dsimp only at hI
  have hJ := fun w1 A c (hr : RowK w1 w1.heap.size A (x.wr left right).length (x.wr left right)) (hG : G w1) => xjoin A (x.wr left right).length c (x.wr left right) w1 hlen hr htx hG
  unfold SPost at hJ ⊢
  have HCL := Lib.hid hcl
  have hsum : IntKind.i64.wrap ((ln : Int) + (rn : Int)) = ((ln + rn : Nat) : Int) := by rw [IntWalk.i64_in _ (by omega)]; omega
  generalize colsA es = cs at hC HCL hn
  have HG := Lib.hid hG
  have HH := HS.start w
  clear hT hl hr hnm hv hw hx hcol hcl hlen htx hG
  go_enter_defers Tryz.func14, Tryz.ntmps14
  go_upto_region 5 with (first
    | (go_at_call 26; (with_reducible refine hV.mono ?_); rintro e w1 ⟨rfl, hb1⟩)
    | (go_at_call 31; (with_reducible refine (hC _ hb1).mono ?_); rintro e w2 ⟨A, c, rfl, hR, -, hb2⟩))
  have hb : Below w.heap.size w w2 := by (exact belQ)
  clear hV hC
  go_loopw [16] (fun v16 wr => ∃ i : Nat, v16 = .int .i64 (i : Int) ∧ i ≤ cs.length ∧ wr = w2) (fun v16 _ => cs.length - (intOf v16).toNat)
  case atStart => exact ⟨0, rfl, by omega, rfl⟩
  case round =>
    obtain ⟨i, rfl, hi, rfl⟩ := hrel
    by_cases hlt : i < cs.length
    · have h1 : (i : Int) < (cs.length : Int) := by omega
      have h0 : (0 : Int) ≤ (i : Int) := by omega
      obtain ⟨b, off, z, rfl, hbb, hz, hcell⟩ := RowI.at1 hR hlt
      obtain ⟨hz0, hz1, hz2⟩ := HCL.out z (List.mem_of_getElem? hz)
      obtain ⟨m, rfl⟩ : ∃ m : Nat, z = (m : Int) := ⟨z.toNat, by omega⟩
      rw [Int.toNat_natCast] at hz2
      have hm : m < ln + rn := by omega
      have hN2 := hN wr hb m hm
      have hI2 := fun w1 => hI w1 m
      rw [hz2] at hI2
      have h2 : ¬ ((ln + rn : Nat) : Int) ≤ (m : Int) := by omega
      generalize colName left right m = nm at hN2 hI2
      clear hz hz0 hz1 hz2 hm hR
      go_wp2_with (first
        | (go_at_call 33; (with_reducible refine hN2.mono ?_); rintro e w3 ⟨rfl, rfl⟩)
        | (go_at_call 32; (with_reducible refine (hI2 _).mono ?_); rintro e w4 ⟨rfl, rfl⟩))
      go_roundw
      case rel => exact ⟨i + 1, by go_num, by omega, trivial⟩
      case measure => simp [intOf]; omega
    · obtain rfl : i = cs.length := by omega
      have h1 : ¬ (cs.length : Int) < (cs.length : Int) := by omega
      have H3 := (HH.below hb).wNew
      have hE2 := hE _ _ _ _ H3 .here
      clear hR hE hN hI HCL hlt
      go_upto_region 12 with (go_at_call 34; refine hE2.mono ?_; rintro e w4 ⟨rfl, H4⟩)
      obtain ⟨TA2, c2, H5⟩ := H4.wOpen (wb := wr.heap.size) pkQ
      obtain ⟨dB, dL, hcB⟩ := HS.get (z := wr.heap.size) H5; obtain ⟨d0, df0⟩ := hcB 0; clear hcB
      have hb5 := H5.old pkQ
      have hJ2 := hJ _ TA2 c2 (RowOf.of_own (H5.row (v := .slice TA2 (x.wr left right).length c2) pkQ) rfl) (HG.out.below hb5)
      go_wp2_with (go_at_call 35; (with_reducible refine hJ2.mono ?_); rintro e w6 ⟨rfl, hb6⟩)
      refine leave_idle idle_FormatExpr (by simp [go_sem]) (by simp [results, Tryz.results14, go_sem]; rfl) ?_
      exact ⟨rfl, below_step hb6 hb5 (Nat.le_refl _)⟩
def x0 : X := .node ⟨13, V.null, 0⟩ [.node ⟨12, V.null, 0⟩ [.node ⟨2, V.null, 1⟩ [], .node ⟨4, V.null, 0⟩ [.node ⟨1, ⟨1, -1, ⟨#[]⟩⟩, 0⟩ [], .node ⟨6, V.null, 0⟩ [.node ⟨2, V.null, 0⟩ [], .node ⟨1, ⟨1, 2, ⟨#[]⟩⟩, 0⟩ []]]]]
theorem standT : Tryz.prog.stoodInHeld 40 = false := by kernel_rfl
theorem neqT_self (t : T) (w : World) : (binOp .neq 40 (.agg #[.int .i64 t.op, .int .i64 t.v.k, .int .i64 t.v.n, .string t.v.s, .int .i64 t.c]) (.agg #[.int .i64 t.op, .int .i64 t.v.k, .int .i64 t.v.n, .string t.v.s, .int .i64 t.c])).run Tryz.prog w = .ok (.bool false) w := by
  have hu := Tryz.underlying40
  have hu2 := Tryz.underlying36
  have h1 := standT
  have h2 := standV
  simp [go_sem, h1, h2, hu, hu2]
theorem rsame (A B : Option Addr) (n c d : Nat) (es : List T) (w : World) (hn : n ≤ maxLen) (hr : RowT w w.heap.size A n es) (hs : RowT w w.heap.size B n es) : Calls Tryz.prog 11 #[.slice A n c, .slice B n d] w fun e w' => e = .returned (.bool true) ∧ Below w.heap.size w w' := by
  unfold maxLen at hn
  have tn : ((n : Int) != (n : Int)) = false := by simp
  go_enter Tryz.func11, Tryz.ntmps11
  go_wp2_with fail
  go_loopw [5] (fun v5 wr => ∃ k : Nat, v5 = .int .i64 (k : Int) ∧ k ≤ n ∧ Below w.heap.size w wr) (fun v5 _ => n - (intOf v5).toNat)
  case atStart => exact ⟨0, rfl, by omega, by (exact belQ)⟩
  case round =>
    obtain ⟨k, rfl, hk, hbel⟩ := hrel
    have hzz := hbel.size
    by_cases hlt : k < n
    · have h1 : (k : Int) < (n : Int) := by omega
      have h0 : (0 : Int) ≤ (k : Int) := by omega
      have hkw : IntKind.i64.wrap ((k : Int) + 1) = (k : Int) + 1 := IntWalk.i64_in _ (by omega)
      obtain ⟨b, off, t, rfl, hb, ht, c0, c1, c2, c3, c4⟩ := RowT.at5 (hr.to hbel) hlt
      obtain ⟨b', off', t', rfl, hb', ht', d0, d1, d2, d3, d4⟩ := RowT.at5 (hs.to hbel) hlt
      obtain rfl := Option.some.inj (ht.symm.trans ht')
      have hneq := neqT_self t
      clear ht ht'
      go_wp2_with fail
      go_quiet (fail)
      go_wp2_with fail
      go_roundw
      case rel => exact ⟨k + 1, by go_num, by omega, by (exact belQ)⟩
      case measure => simp [intOf]; omega
    · have h1 : ¬ (k : Int) < (n : Int) := by omega
      go_wp2_with fail
      go_ret
      exact ⟨rfl, by (exact belQ)⟩
theorem rowOf_box {α : Type} {f : α → List Value} {w : World} {z : Nat} {cs : Array Value} {te : TypeId} {l : List α} (B : Box w z cs te) (h : cs.toList = l.flatMap f) {n : Nat} (hn : l.length = n) : @RowOf α f w w.heap.size (some ⟨z, 0, none⟩) n l := by
  refine ⟨hn, fun _ => ⟨z, 0, rfl, B.lt, fun j u hu => ?_⟩⟩
  obtain ⟨hc, -⟩ := Box.cells B
  rw [Nat.zero_add, hc j, ← Array.getElem?_toList, h]
  exact hu
theorem v_int {k n m : Int} {bs : ByteArray} (h : V.ok ⟨k, n, bs⟩ = true) (h0 : k ≠ 0) (h2 : k ≠ 2) (e : m = n) : (⟨k, n, bs⟩ : V) = ⟨1, m, ⟨#[]⟩⟩ := by
  unfold V.ok at h
  simp only [Bool.or_eq_true, Bool.and_eq_true, beq_iff_eq, decide_eq_true_eq] at h
  rcases h with (⟨⟨h, -⟩, -⟩ | ⟨⟨⟨h, -⟩, -⟩, hs⟩) | ⟨⟨h, -⟩, -⟩
  · exact absurd h h0
  · have hb : bs = ⟨#[]⟩ := by
      obtain ⟨d⟩ := bs
      have : d.size = 0 := hs
      rw [Array.eq_empty_of_size_eq_zero this]
    rw [h, e, hb]
  · exact absurd h h2
section
variable {e : Src} {left right : List Bs}
theorem got_const {t : T} (ht : t = ⟨1, t.v, 0⟩) (hr : List (Tk × Bool)) {s : Ps} {n : Nat} : Got left right (.node t []) n s (cstX t.v, { s with pos := s.pos + n }) := by
  refine ⟨?_, rfl, rfl, rfl, [], by simp, ?_⟩
  · rw [ht]
    simp [X.ren, rens, cstX]
  · rw [ht]
    simp [X.cols, colss]
theorem const_at0 {t : T} (ht : t.ok = true) (h1 : t.op = 1) (hb : bareW t false = true) : At0 e left right (.node t []) := by
  obtain ⟨h2, h3, h4⟩ := node_const ht h1
  intro s hA hF
  have hw : X.wr left right (.node t []) = constW t.v := by
    rw [X.wr]
    unfold nodeW
    rw [if_pos h1]
  rw [hw] at hA hF ⊢
  unfold bareW at hb
  rw [if_pos h1, decide_eq_true_eq] at hb
  unfold constW at hA hF ⊢
  by_cases hk : t.v.k = 2
  · rw [if_pos hk] at hA hF ⊢
    refine ⟨_, got_const h2 [] , ?_⟩
    rintro (_ | f) hf
    · rw [X.flat_node] at hf
      simp [flats] at hf
    have k2 : isKindP e s 0 2 = false := by rw [isKindP_at rfl hA]; rfl
    have k3 : isKindP e s 0 3 = true := by rw [isKindP_at rfl hA]; rfl
    obtain ⟨t', e1, -, e3, -⟩ := take_at hA (k := 3) rfl
    unfold parseP
    simp only [k2, k3, e1, if_true, if_false, Bool.false_eq_true]
    have hn : t.v = ⟨2, 0, ⟨t'.text.toArray⟩⟩ := by
      obtain ⟨op, v, c⟩ := t
      obtain ⟨k, n, bs⟩ := v
      simp only at hk h3 e3 ⊢
      subst hk
      unfold V.ok at h3
      simp only [show ((2 : Int) == 0) = false from rfl, show ((2 : Int) == 1) = false from rfl, Bool.false_and, Bool.or_false, Bool.false_or, beq_self_eq_true, Bool.true_and, Bool.and_eq_true, beq_iff_eq] at h3
      rw [h3.1, e3]
    rw [hn]
    rfl
  · rw [if_neg hk, if_neg (by omega)] at hA hF ⊢
    refine ⟨_, got_const h2 [], ?_⟩
    rintro (_ | f) hf
    · rw [X.flat_node] at hf
      simp [flats] at hf
    have k2 : isKindP e s 0 2 = true := by rw [isKindP_at rfl hA]; rfl
    obtain ⟨t', e1, -, -, e4⟩ := take_at hA (k := 2) rfl
    unfold parseP
    simp only [k2, e1, if_true]
    have hn : t.v = ⟨1, t'.int, ⟨#[]⟩⟩ := by
      obtain ⟨op, v, c⟩ := t
      obtain ⟨k, n, bs⟩ := v
      simp only at hk h3 h4 e4 ⊢
      exact v_int h3 h4 hk e4
    rw [hn]
    rfl
theorem const_at1 {t : T} (ht : t.ok = true) (h1 : t.op = 1) (hb : bareW t false = false) {s : Ps} (hA : AtW e s.pos (X.wr left right (.node t []))) :
    ∃ r, Got left right (.node t []) (X.wr left right (.node t [])).length s r ∧ ∀ f, 1 ≤ f → parseP e f 1 s = r := by
  obtain ⟨h2, h3, h4⟩ := node_const ht h1
  have hw : X.wr left right (.node t []) = constW t.v := by
    rw [X.wr]
    unfold nodeW
    rw [if_pos h1]
  rw [hw] at hA ⊢
  unfold bareW at hb
  rw [if_pos h1, decide_eq_false_iff_not] at hb
  unfold constW at hA ⊢
  have hk : t.v.k ≠ 2 := fun h => hb (.inl h)
  have hn : t.v.n < 0 := by
    rcases Int.lt_or_le t.v.n 0 with h | h
    · exact h
    · exact absurd (.inr ⟨h, rfl⟩) hb
  rw [if_neg hk, if_pos hn] at hA ⊢
  refine ⟨_, got_const h2 [], ?_⟩
  rintro (_ | f) hf
  · omega
  have m : isP e s 0 [[45]] = true := by rw [isP_at rfl hA]; decide
  have hA2 : AtW e ({ s with pos := s.pos + 1 } : Ps).pos [numK (-t.v.n)] := hA.tail
  have k2 : isKindP e { s with pos := s.pos + 1 } 0 2 = true := by rw [isKindP_at (s := { s with pos := s.pos + 1 }) (a := 0) (i := s.pos + 1) rfl hA2]; rfl
  obtain ⟨t', e1, -, -, e4⟩ := take_at hA2 (k := 2) rfl
  unfold parseP
  simp only [m, k2, e1, if_true]
  have hn : t.v = ⟨1, -t'.int, ⟨#[]⟩⟩ := by
    obtain ⟨op, v, c⟩ := t
    obtain ⟨k, n, bs⟩ := v
    simp only at hk h3 h4 e4 ⊢
    refine v_int h3 h4 hk ?_
    rw [e4]
    simp [numK]
  rw [hn]
  rfl
end
end Go.Proofs.YtpnfbehbheddeaaGreatDoor
