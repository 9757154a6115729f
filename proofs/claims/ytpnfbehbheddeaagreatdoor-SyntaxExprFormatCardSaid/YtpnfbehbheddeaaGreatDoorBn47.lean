/- Contracts of text and Join, of the program and of the reference: at most 100000 tokens with texts of at most 100000 bytes; the program's where the table of powers of ten is as it is laid. Contracts of Join, of the program and of the reference, and of the reference's Same where both lists are the same: at most 100000 tokens with texts of at most 100000 bytes. write of the writer of expressions on trees, and expression. At most 1000 terms. -/
import Derived.Test.YtpnfbehbheddeaaGreatDoorBn12
import Derived.Test.YtpnfbehbheddeaaGreatDoorBn19
import Derived.Test.YtpnfbehbheddeaaGreatDoorBn03
import Derived.Laws.Concat
import Derived.Test.YtpnfbehbheddeaaGreatDoorBn44
namespace Go.Proofs.YtpnfbehbheddeaaGreatDoor
set_option maxRecDepth 100000
set_option maxHeartbeats 8000000
set_option linter.unusedVariables false
set_option linter.unusedSimpArgs false
open Go.RowKit
def SPost (w : World) (l : List UInt8) (e : Ending) (w' : World) : Prop := e = .returned (.string ⟨l.toArray⟩) ∧ Below w.heap.size w w'
theorem fmt_text {s : ByteArray} (h : s.size ≤ 32) : fmtV ⟨2, 0, s⟩ = quoteL s.data.toList := by
  have hok : (V.mk 2 0 s).ok = true := by simp [V.ok, h]
  unfold fmtV
  rw [V.cl_of hok, if_neg (by simp), if_pos rfl]
theorem tokText_no {t : Tk} (h : tokOk t = false) : tokText t = [] := by unfold tokText; rw [h]; rfl
theorem tokText_ok {t : Tk} (h : tokOk t = true) : tokText t = wordTk t := by unfold tokText; rw [h]; rfl
theorem xtext (t : Tk) (w : World) (ht : t.text.length ≤ 100000) (hG : G w) : Calls Tryz.prog 67 #[.agg #[.int .i64 t.kind, .string ⟨t.text.toArray⟩, .int .i64 t.int, .int .i64 t.pos]] w (SPost w (tokText t)) := by
  obtain ⟨k, tx, n, p⟩ := t
  obtain ⟨s, rfl⟩ : ∃ s : ByteArray, tx = s.data.toList := ⟨⟨tx.toArray⟩, rfl⟩
  simp only at ht
  simp only [Lib.mk_data]
  rw [← Lib.size_eq] at ht
  by_cases h1 : k = 1
  · subst h1
    have hI := fun w => xisName s w (by omega)
    cases hb : isNameB s.data.toList
    · have HR := Lib.hid (tokText_no (t := ⟨1, s.data.toList, n, p⟩) (by unfold tokOk; rw [if_pos rfl]; exact hb))
      rw [hb] at hI
      clear hb
      go_enter Tryz.func67, Tryz.ntmps67
      go_wp2_with (go_at_call 32; refine (hI _).mono ?_; rintro e w1 ⟨rfl, rfl⟩)
      go_ret
      unfold SPost
      rw [HR.out]
      exact ⟨rfl, by (exact belQ)⟩
    · have HR := Lib.hid ((tokText_ok (t := ⟨1, s.data.toList, n, p⟩) (by unfold tokOk; rw [if_pos rfl]; exact hb)).trans (show wordTk ⟨1, s.data.toList, n, p⟩ = s.data.toList by unfold wordTk; rw [if_pos (.inl rfl)]))
      rw [hb] at hI
      clear hb
      go_enter Tryz.func67, Tryz.ntmps67
      go_wp2_with (go_at_call 32; refine (hI _).mono ?_; rintro e w1 ⟨rfl, rfl⟩)
      go_ret
      unfold SPost
      rw [HR.out]
      exact ⟨rfl, by (exact belQ)⟩
  have t1 : (k == 1) = false := by simpa using h1
  by_cases h2 : k = 2
  · subst h2
    by_cases hn : 0 ≤ n ∧ n ≤ 4294967296
    · have HR := Lib.hid ((tokText_ok (t := ⟨2, s.data.toList, n, p⟩) (by unfold tokOk; rw [if_neg (by simp), if_pos rfl]; simpa using hn)).trans (show wordTk ⟨2, s.data.toList, n, p⟩ = Lib.itoa n by unfold wordTk; rw [if_neg (by simp), if_pos rfl]))
      obtain ⟨hn1, hn2⟩ := hn
      go_enter Tryz.func67, Tryz.ntmps67
      go_wp2_with (go_at_call 115; refine (Tryz.strconv_FormatInt_10 _ (by omega) (by omega) _ (by exact (hG.below (by (exact belQ))).tab)).mono ?_; rintro e w2 ⟨rfl, hb2'⟩; have hb2 := below_grow hb2'; clear hb2')
      go_ret
      unfold SPost
      rw [HR.out]
      exact ⟨rfl, by (exact belQ)⟩
    · have HR := Lib.hid (tokText_no (t := ⟨2, s.data.toList, n, p⟩) (by unfold tokOk; rw [if_neg (by simp), if_pos rfl]; rw [Bool.eq_false_iff]; intro h; simp at h; exact hn h))
      by_cases hn1 : 0 ≤ n
      · have hn2 : ¬ n ≤ 4294967296 := fun h => hn ⟨hn1, h⟩
        clear hn
        go_enter Tryz.func67, Tryz.ntmps67
        go_wp2_with fail
        go_ret
        unfold SPost
        rw [HR.out]
        exact ⟨rfl, by (exact belQ)⟩
      · clear hn
        go_enter Tryz.func67, Tryz.ntmps67
        go_wp2_with fail
        go_ret
        unfold SPost
        rw [HR.out]
        exact ⟨rfl, by (exact belQ)⟩
  have t2 : (k == 2) = false := by simpa using h2
  by_cases h3 : k = 3
  · subst h3
    by_cases h32 : s.size ≤ 32
    · have HR := Lib.hid ((tokText_ok (t := ⟨3, s.data.toList, n, p⟩) (by unfold tokOk; rw [if_neg (by simp), if_neg (by simp), if_pos rfl, ← Lib.size_eq]; simpa using h32)).trans (show wordTk ⟨3, s.data.toList, n, p⟩ = quoteL s.data.toList by unfold wordTk; rw [if_neg (by simp), if_neg (by simp)]))
      have HF := Lib.hid (fmt_text h32)
      have t32 : (s.size : Int) ≤ 32 := by omega
      go_enter Tryz.func67, Tryz.ntmps67
      go_wp2_with (go_at_call 116; refine (vformat ⟨2, 0, s⟩ _ (by exact hG.below (by (exact belQ)))).mono ?_; rintro e w1 ⟨rfl, hb1⟩)
      go_ret
      unfold SPost
      rw [HR.out, HF.out]
      exact ⟨rfl, by (exact belQ)⟩
    · have HR := Lib.hid (tokText_no (t := ⟨3, s.data.toList, n, p⟩) (by unfold tokOk; rw [if_neg (by simp), if_neg (by simp), if_pos rfl, ← Lib.size_eq]; simpa using h32))
      have t32 : ¬ (s.size : Int) ≤ 32 := by omega
      go_enter Tryz.func67, Tryz.ntmps67
      go_wp2_with fail
      go_ret
      unfold SPost
      rw [HR.out]
      exact ⟨rfl, by (exact belQ)⟩
  have t3 : (k == 3) = false := by simpa using h3
  by_cases h4 : k = 4
  · subst h4
    have HS := Lib.hid (isSign_prog s.data.toList)
    by_cases h0 : s.data.toList = []
    · have te : s.toList.isEmpty = true := by rw [empty_iff]; simpa using h0
      have HR := Lib.hid (tokText_no (t := ⟨4, s.data.toList, n, p⟩) (by unfold tokOk; rw [if_neg (by simp), if_neg (by simp), if_neg (by simp), if_pos rfl, HS.out]; simp [h0]))
      clear h0
      go_enter Tryz.func67, Tryz.ntmps67
      go_wp2_with fail
      go_quiet (fail)
      go_wp2_with fail
      go_ret
      unfold SPost
      rw [HR.out]
      exact ⟨rfl, by (exact belQ)⟩
    · have te : s.toList.isEmpty = false := by rw [empty_iff]; simpa using h0
      have hL := fun w => xsignLength s w
      have HQ := Lib.hid (show isSignB s.data.toList = decide (signLen s.data.toList = s.size) by rw [HS.out, ← Lib.size_eq]; simp [h0])
      generalize signLen s.data.toList = m at hL HQ
      clear h0
      by_cases hm : m = s.size
      · have tm : ((m : Int) == (s.size : Int)) = true := by rw [beq_iff_eq]; omega
        have HR := Lib.hid ((tokText_ok (t := ⟨4, s.data.toList, n, p⟩) (by unfold tokOk; rw [if_neg (by simp), if_neg (by simp), if_neg (by simp), if_pos rfl, HQ.out]; simpa using hm)).trans (show wordTk ⟨4, s.data.toList, n, p⟩ = s.data.toList by unfold wordTk; rw [if_pos (.inr rfl)]))
        clear hm
        go_enter Tryz.func67, Tryz.ntmps67
        go_wp2_with fail
        go_quiet ((go_at_call 84; exact Calls.quiet_of_same ((hL _).mono fun e w' h => ⟨h.1, h.2.symm⟩)))
        go_wp2_with fail
        go_ret
        unfold SPost
        rw [HR.out]
        exact ⟨rfl, by (exact belQ)⟩
      · have tm : ((m : Int) == (s.size : Int)) = false := by rw [beq_eq_false_iff_ne]; omega
        have HR := Lib.hid (tokText_no (t := ⟨4, s.data.toList, n, p⟩) (by unfold tokOk; rw [if_neg (by simp), if_neg (by simp), if_neg (by simp), if_pos rfl, HQ.out]; simpa using hm))
        clear hm
        go_enter Tryz.func67, Tryz.ntmps67
        go_wp2_with fail
        go_quiet ((go_at_call 84; exact Calls.quiet_of_same ((hL _).mono fun e w' h => ⟨h.1, h.2.symm⟩)))
        go_wp2_with fail
        go_ret
        unfold SPost
        rw [HR.out]
        exact ⟨rfl, by (exact belQ)⟩
  · have t4 : (k == 4) = false := by simpa using h4
    have HR := Lib.hid (tokText_no (t := ⟨k, s.data.toList, n, p⟩) (by unfold tokOk; rw [if_neg h1, if_neg h2, if_neg h3, if_neg h4]))
    clear h1 h2 h3 h4
    go_enter Tryz.func67, Tryz.ntmps67
    go_wp2_with fail
    go_ret
    unfold SPost
    rw [HR.out]
    exact ⟨rfl, by (exact belQ)⟩
def RtkPost (w : World) (t : Tk) (e : Ending) (w' : World) : Prop := ∃ s : ByteArray, e = .returned (.tuple #[.string s, .bool (tokOk t)]) ∧ (tokOk t = true → s = ⟨(wordTk t).toArray⟩) ∧ Below w.heap.size w w'
theorem rtext_c (t : Tk) (w : World) (ht : t.text.length ≤ 100000) : Calls Tryz.prog 71 #[.agg #[.int .i64 t.kind, .string ⟨t.text.toArray⟩, .int .i64 t.int, .int .i64 t.pos]] w (RtkPost w t) := by
  obtain ⟨k, tx, n, p⟩ := t
  obtain ⟨s, rfl⟩ : ∃ s : ByteArray, tx = s.data.toList := ⟨⟨tx.toArray⟩, rfl⟩
  simp only at ht
  simp only [Lib.mk_data]
  rw [← Lib.size_eq] at ht
  by_cases h1 : k = 1
  · subst h1
    have hI := fun w => risName s w (by omega)
    have HK := Lib.hid (show tokOk ⟨1, s.data.toList, n, p⟩ = isNameB s.data.toList by unfold tokOk; rw [if_pos rfl])
    have HW := Lib.hid (show wordTk ⟨1, s.data.toList, n, p⟩ = s.data.toList by unfold wordTk; rw [if_pos (.inl rfl)])
    generalize isNameB s.data.toList = b at hI HK
    go_enter Tryz.func71, Tryz.ntmps71
    go_wp2_with fail
    go_quiet ((go_at_call 70; exact Calls.quiet_of_same ((hI _).mono fun e w' h => ⟨h.1, h.2.symm⟩)))
    go_wp2_with fail
    refine bodyPost_ret (by simp [results, Tryz.results71, go_sem]; rfl) rfl ?_
    unfold RtkPost
    rw [HK.out, HW.out]
    exact ⟨s, rfl, fun _ => rfl, by (exact belQ)⟩
  have t1 : (k == 1) = false := by simpa using h1
  by_cases h2 : k = 2
  · subst h2
    by_cases hn : 0 ≤ n ∧ n ≤ 4294967296
    · have HK := Lib.hid (show tokOk ⟨2, s.data.toList, n, p⟩ = true by unfold tokOk; rw [if_neg (by simp), if_pos rfl]; simpa using hn)
      have HW := Lib.hid (show wordTk ⟨2, s.data.toList, n, p⟩ = Lib.itoa n by unfold wordTk; rw [if_neg (by simp), if_pos rfl])
      obtain ⟨hn1, hn2⟩ := hn
      have hn3 : ¬ n < 0 := by omega
      have hn4 : ¬ 4294967296 < n := by omega
      go_enter Tryz.func71, Tryz.ntmps71
      go_wp2_with (go_at_call 123; refine (digits_c n _ (by omega) (by omega)).mono ?_; rintro e w1 ⟨rfl, hb1⟩)
      refine bodyPost_ret (by simp [results, Tryz.results71, go_sem]; rfl) rfl ?_
      unfold RtkPost
      rw [HK.out, HW.out]
      exact ⟨_, rfl, fun _ => rfl, by (exact belQ)⟩
    · have HK := Lib.hid (show tokOk ⟨2, s.data.toList, n, p⟩ = false by unfold tokOk; rw [if_neg (by simp), if_pos rfl]; rw [Bool.eq_false_iff]; intro h; simp at h; exact hn h)
      by_cases hn1 : n < 0
      · clear hn
        go_enter Tryz.func71, Tryz.ntmps71
        go_wp2_with fail
        refine bodyPost_ret (by simp [results, Tryz.results71, go_sem]; rfl) rfl ?_
        unfold RtkPost
        rw [HK.out]
        exact ⟨_, rfl, (fun h => by cases h), by (exact belQ)⟩
      · have hn2 : 4294967296 < n := by
          rcases Int.lt_or_le 4294967296 n with h | h
          · exact h
          · exact absurd ⟨by omega, h⟩ hn
        clear hn
        go_enter Tryz.func71, Tryz.ntmps71
        go_wp2_with fail
        refine bodyPost_ret (by simp [results, Tryz.results71, go_sem]; rfl) rfl ?_
        unfold RtkPost
        rw [HK.out]
        exact ⟨_, rfl, (fun h => by cases h), by (exact belQ)⟩
  have t2 : (k == 2) = false := by simpa using h2
  by_cases h3 : k = 3
  · subst h3
    have HK := Lib.hid (show tokOk ⟨3, s.data.toList, n, p⟩ = decide ((s.size : Int) ≤ 32) by unfold tokOk; rw [if_neg (by simp), if_neg (by simp), if_pos rfl, ← Lib.size_eq, Bool.eq_iff_iff]; simp; omega)
    have HW := Lib.hid (show wordTk ⟨3, s.data.toList, n, p⟩ = quoteL s.data.toList by unfold wordTk; rw [if_neg (by simp), if_neg (by simp)])
    go_enter Tryz.func71, Tryz.ntmps71
    go_wp2_with fail
    go_region_held3 (fun w' => Below (w.alloc (.cells #[.int .i64 3, .string s, .int .i64 n, .int .i64 p] 100)).heap.size (w.alloc (.cells #[.int .i64 3, .string s, .int .i64 n, .int .i64 p] 100)) w' ∧ ∀ b o, b < (w.alloc (.cells #[.int .i64 3, .string s, .int .i64 n, .int .i64 p] 100)).heap.size → w'.cell? ⟨b, o, none⟩ = (w.alloc (.cells #[.int .i64 3, .string s, .int .i64 n, .int .i64 p] 100)).cell? ⟨b, o, none⟩) ((first | (with_reducible assumption) | (with_reducible exact ext_refl _) | ((with_reducible apply ext_step) <;> (with_reducible assumption)) | ((with_reducible refine ext_drew ?_) <;> (with_reducible assumption)) | ((with_reducible refine ext_alloc ?_ _) <;> (with_reducible assumption))))
      (first
        | (go_at_call 124; refine (rquote_c s _ (by omega)).mono ?_; rintro e w1 ⟨rfl, hb1⟩))
    go_wp2_with fail
    refine bodyPost_ret (by simp [results, Tryz.results71, go_sem]; rfl) rfl ?_
    unfold RtkPost
    rw [HK.out, HW.out]
    exact ⟨_, rfl, fun _ => rfl, by (exact belQ)⟩
  have t3 : (k == 3) = false := by simpa using h3
  by_cases h4 : k = 4
  · subst h4
    have hI := fun w => risSign s w
    have HK := Lib.hid (show tokOk ⟨4, s.data.toList, n, p⟩ = isSignB s.data.toList by unfold tokOk; rw [if_neg (by simp), if_neg (by simp), if_neg (by simp), if_pos rfl])
    have HW := Lib.hid (show wordTk ⟨4, s.data.toList, n, p⟩ = s.data.toList by unfold wordTk; rw [if_pos (.inr rfl)])
    generalize isSignB s.data.toList = b at hI HK
    go_enter Tryz.func71, Tryz.ntmps71
    go_wp2_with fail
    go_quiet ((go_at_call 125; exact Calls.quiet_of_same ((hI _).mono fun e w' h => ⟨h.1, h.2.symm⟩)))
    go_wp2_with fail
    refine bodyPost_ret (by simp [results, Tryz.results71, go_sem]; rfl) rfl ?_
    unfold RtkPost
    rw [HK.out, HW.out]
    exact ⟨s, rfl, fun _ => rfl, by (exact belQ)⟩
  · have t4 : (k == 4) = false := by simpa using h4
    have HK := Lib.hid (show tokOk ⟨k, s.data.toList, n, p⟩ = false by unfold tokOk; rw [if_neg h1, if_neg h2, if_neg h3, if_neg h4])
    clear h1 h2 h3 h4
    go_enter Tryz.func71, Tryz.ntmps71
    go_wp2_with fail
    refine bodyPost_ret (by simp [results, Tryz.results71, go_sem]; rfl) rfl ?_
    unfold RtkPost
    rw [HK.out]
    exact ⟨_, rfl, (fun h => by cases h), by (exact belQ)⟩
theorem idle_Join (w : World) : CallsD Tryz.prog 66 #[] .returning w fun e u' w' => e = .returned (.tuple #[]) ∧ u' = .returning ∧ w' = w := by
  refine callsD_of_wpS Tryz.func66 rfl fun c₀ cs hu => ?_
  apply wpS_region
  cases c₀
  simp_all [wpOpsS, go_sem, recoverD, Tryz.ntmps66, bodyPostS, results, Tryz.results66]
def JnRel (w : World) (ts : List Tk) (v3 v9 : Value) (wr : World) : Prop :=
  ∃ k : Nat, v9 = .int .i64 (k : Int) ∧ k ≤ ts.length ∧ wr.ownsRow w.heap.size 9 1 v3 (wordsK (ts.take k)).length ((wordsK (ts.take k)).map strV) ∧ Below w.heap.size w wr
theorem isEmpty_mk {l : List UInt8} : (⟨l.toArray⟩ : ByteArray).toList.isEmpty = decide (l = []) := by rw [empty_iff]
theorem join_call {w : World} {base c : Nat} {A : Option Addr} (ts : List Tk) (hn : ts.length ≤ 100000) (hown : w.ownsRow base 9 1 (.slice A (wordsK ts).length c) (wordsK ts).length ((wordsK ts).map strV)) (hc : (wordsK ts).length ≤ c) :
    Calls Tryz.prog 68 #[.slice A (wordsK ts).length c, .string ⟨#[32]⟩] w fun e w' => e = .returned (.string ⟨(joinK ts).toArray⟩) ∧ Below w.heap.size w w' := by
  have hlen := joinK_len ts
  have hwl := wordsK_len ts
  unfold joinK at hlen ⊢
  by_cases h0 : wordsK ts = []
  · rw [h0]
    exact (Tryz.strings_Join_none A c ⟨#[32]⟩ w).mono fun e w' h => ⟨h.1, h.2 ▸ Below.refl _ _⟩
  · obtain ⟨b, off, rfl, hb, hcell⟩ := Rd.of_own hown (by simpa using h0)
    have hmap : ((wordsK ts).map fun l => (⟨l.toArray⟩ : ByteArray)).map (·.data.toList) = wordsK ts := by
      rw [List.map_map]; simp [Function.comp_def]
    have hj := Tryz.strings_Join b off c ((wordsK ts).map fun l => ⟨l.toArray⟩) ⟨#[32]⟩ w (by
      intro j x hx
      rw [List.getElem?_map] at hx
      obtain ⟨l, hl, rfl⟩ := Option.map_eq_some_iff.1 hx
      exact hcell j _ (by rw [List.getElem?_map, hl]; rfl)) hb (by rw [List.length_map]; omega) (by rw [List.length_map]; exact hc) (by rw [hmap]; show (Lib.join _ [32]).length ≤ _; rw [join_spJoin]; omega)
    rw [hmap, List.length_map, show (⟨#[32]⟩ : ByteArray).data.toList = [32] from rfl, join_spJoin] at hj
    exact hj
theorem xjoin (A : Option Addr) (n c : Nat) (ts : List Tk) (w : World) (hn : n ≤ 100000) (hr : RowK w w.heap.size A n ts) (ht : ∀ t ∈ ts, t.text.length ≤ 100000) (hG : G w) : Calls Tryz.prog 35 #[.slice A n c] w (SPost w (joinK ts)) := by
  have hmf : ∀ (fn : Fn) (first cap : Array Value) (w : World), (Instr.makeFunc fn first cap).run Tryz.prog w = .ok (.func fn first cap) w := fun _ _ _ _ => rfl
  have HN := Lib.hid hr.len
  have HT := Lib.hid ht
  clear ht
  go_enter_defers Tryz.func35, Tryz.ntmps35
  go_wp2_with fail
  go_loopw [3, 9] (fun v3 v9 wr => JnRel w ts v3 v9 wr) (fun _ v9 _ => n - (intOf v9).toNat)
  case atStart => exact ⟨0, rfl, by omega, World.ownsRow_nil _ _ _ _, Below.refl _ _⟩
  case round =>
    obtain ⟨k, rfl, hk, hown, hbel⟩ := hrel
    rw [HN.out] at hk
    have hzz := hbel.size
    by_cases hlt : k < n
    · obtain ⟨b, off, t, rfl, hb, hts, q0, q1, q2, q3⟩ := RowK.at4 (hr.later hbel) hlt
      have HTS := Lib.hid hts
      have hX := fun w1 hb1 => xtext t w1 (HT.out t (List.mem_of_getElem? hts)) (G.below hG hb1)
      have hk1 : (k : Int) < (n : Int) := by omega
      have hk0 : (0 : Int) ≤ (k : Int) := by omega
      have hwl := wordsK_len (ts.take k)
      rw [List.length_take] at hwl
      have hw5 : (wordsK (ts.take k)).length ≤ 100000 := by omega
      clear hts hwl
      cases hok : tokOk t
      · rw [tokText_no hok] at hX
        have HS := Lib.hid (show wordsK (ts.take (k + 1)) = wordsK (ts.take k) by rw [List.take_add_one, HTS.out]; exact wordsK_snoc_no hok)
        clear hok
        unfold SPost at hX
        have te : ((⟨([] : List UInt8).toArray⟩ : ByteArray).toList.isEmpty) = true := by rw [isEmpty_mk]; rfl
        generalize (⟨([] : List UInt8).toArray⟩ : ByteArray) = s0 at hX te
        go_wp2_with (go_at_call 67; refine (hX _ (by (exact belQ))).mono ?_; rintro e w1 ⟨rfl, hb1⟩; have hz1 := hb1.size; have own1 := own_below (hown.alloc _) hb1)
        have hb2 : Below w.heap.size w w1 := by (exact belQ)
        go_roundw
        case rel =>
          refine ⟨k + 1, by go_num, by rw [HN.out]; omega, ?_, hb2⟩
          rw [HS.out]
          exact own1
        case measure => simp [intOf]; omega
      · rw [tokText_ok hok] at hX
        have HS := Lib.hid (show wordsK (ts.take (k + 1)) = wordsK (ts.take k) ++ [wordTk t] by rw [List.take_add_one, HTS.out]; exact wordsK_snoc_ok hok)
        have hne := word_ne hok
        clear hok
        unfold SPost at hX
        have te : ((⟨(wordTk t).toArray⟩ : ByteArray).toList.isEmpty) = false := by
          rw [isEmpty_mk, decide_eq_false_iff_not]
          intro h
          rw [h] at hne
          simp at hne
        have HV := Lib.hid (show strV (wordTk t) = .string ⟨(wordTk t).toArray⟩ from rfl)
        generalize (⟨(wordTk t).toArray⟩ : ByteArray) = s0 at hX te HV
        go_wp2_with (first
          | (go_at_call 67; refine (hX _ (by (exact belQ))).mono ?_; rintro e w1 ⟨rfl, hb1⟩; have hz1 := hb1.size; have own1 := own_below (hown.alloc _) hb1)
          | (at_builtin; refine wpList_app (v := u3) rfl _ _ stS rfl rfl (own1) rfl (by simp) rfl (by simp [Value.oneCell']) (by omega) (by simp at hz1; omega) ?_; intro v' w3 own3 hg3 hat3))
        have hb2 : Below w.heap.size w w1 := by (exact belQ)
        have hb3 := below_app hb2 own1 hg3 (Nat.le_refl _) (by simp at hz1; omega)
        go_roundw
        case rel =>
          refine ⟨k + 1, by go_num, by rw [HN.out]; omega, ?_, hb3⟩
          rw [HS.out, List.length_append, List.map_append, List.map_cons, List.map_nil, HV.out]
          exact own3
        case measure => simp [intOf]; omega
    · have hkn : ts.take k = ts := List.take_of_length_le (by rw [HN.out]; omega)
      rw [hkn] at hown
      have hk1 : ¬ (k : Int) < (n : Int) := by omega
      obtain ⟨A3, c3, rfl, h31, h32⟩ := own_slice hown
      have hJ := join_call ts (by rw [HN.out]; exact hn) hown h31
      clear hkn hown h31 h32
      go_wp2_with (go_at_call 68; refine hJ.mono ?_; rintro e w1 ⟨rfl, hb1⟩)
      refine leave_idle idle_Join (by simp [go_sem]) (by simp [results, Tryz.results35, go_sem]; rfl) ?_
      exact ⟨rfl, by (exact belQ)⟩
theorem mk_add2 (a b : List UInt8) : (⟨a.toArray⟩ : ByteArray) ++ ⟨b.toArray⟩ = ⟨(a ++ b).toArray⟩ := by simp [ByteArray.mk_append_mk]
theorem rjoin (A : Option Addr) (n c : Nat) (ts : List Tk) (w : World) (hn : n ≤ 100000) (hr : RowK w w.heap.size A n ts) (ht : ∀ t ∈ ts, t.text.length ≤ 100000) : Calls Tryz.prog 38 #[.slice A n c] w (SPost w (joinK ts)) := by
  have HN := Lib.hid hr.len
  have HT := Lib.hid ht
  clear ht
  go_enter Tryz.func38, Tryz.ntmps38
  go_wp2_with fail
  go_loopw [3, 4] (fun v3 v4 wr => ∃ k : Nat, v4 = .int .i64 (k : Int) ∧ k ≤ n ∧ v3 = .string ⟨(joinK (ts.take k)).toArray⟩ ∧ Below w.heap.size w wr) (fun _ v4 _ => n - (intOf v4).toNat)
  case atStart => exact ⟨0, rfl, by omega, rfl, Below.refl _ _⟩
  case round =>
    obtain ⟨k, rfl, hk, rfl, hbel⟩ := hrel
    have hzz := hbel.size
    by_cases hlt : k < n
    · obtain ⟨b, off, t, rfl, hb, hts, q0, q1, q2, q3⟩ := RowK.at4 (hr.later hbel) hlt
      have HTS := Lib.hid hts
      have hX := fun w1 => rtext_c t w1 (HT.out t (List.mem_of_getElem? hts))
      have hk1 : (k : Int) < (n : Int) := by omega
      have hk0 : (0 : Int) ≤ (k : Int) := by omega
      have hkw : IntKind.i64.wrap ((k : Int) + 1) = (k : Int) + 1 := IntWalk.i64_in _ (by omega)
      have hjl := joinK_len (ts.take k)
      rw [List.length_take] at hjl
      have hj5 : (joinK (ts.take k)).length ≤ 10100000 := by omega
      clear hts hjl
      unfold RtkPost at hX
      obtain ⟨sj, hsj⟩ : ∃ sj : ByteArray, (⟨(joinK (ts.take k)).toArray⟩ : ByteArray) = sj := ⟨_, rfl⟩
      have hjz : sj.size ≤ 10100000 := by rw [← hsj, Lib.size_eq]; exact hj5
      have hje : sj.toList.isEmpty = decide (joinK (ts.take k) = []) := by rw [← hsj, isEmpty_mk]
      rw [hsj]
      have HSJ := Lib.hid hsj
      clear hsj hj5
      cases hok : tokOk t
      · rw [hok] at hX
        have HS := Lib.hid (show joinK (ts.take (k + 1)) = joinK (ts.take k) by unfold joinK; rw [List.take_add_one, HTS.out, Option.toList_some, wordsK_snoc_no hok])
        clear hok hje
        go_wp2_with (go_at_call 71; refine (hX _).mono ?_; rintro e w1 ⟨s0, rfl, hs0, hb1⟩; clear hs0)
        go_roundw
        case rel => exact ⟨k + 1, by go_num, by omega, by rw [HS.out, HSJ.out], by (exact belQ)⟩
        case measure => simp [intOf]; omega
      · rw [hok] at hX
        have hwl := word_le hok
        have HS := Lib.hid (show joinK (ts.take (k + 1)) = (if joinK (ts.take k) = [] then [] else joinK (ts.take k) ++ [32]) ++ wordTk t by rw [List.take_add_one, HTS.out]; exact joinK_snoc hok)
        clear hok
        go_wp2_with fail
        refine (hX _).mono ?_
        rintro e w1 ⟨s0, rfl, hs0, hb1⟩
        have hs1 := hs0 (by trivial)
        have hsz : s0.size ≤ 100 := by rw [hs1, Lib.size_eq]; exact hwl
        have HS0 := Lib.hid hs1
        clear hs0 hs1 hwl hX
        by_cases hJ : joinK (ts.take k) = []
        · have te : sj.toList.isEmpty = true := by rw [hje]; simpa using hJ
          have a1 : ∀ w, (Op.stringOp .add sj s0).run Tryz.prog w = .ok (.string (sj ++ s0)) w := fun w => run_string_add_sum w _ _ (by omega)
          have HQ := Lib.hid (show sj ++ s0 = ⟨(joinK (ts.take (k + 1))).toArray⟩ by rw [HS.out, if_pos hJ, HS0.out, ← HSJ.out, mk_add2, hJ])
          clear hJ hje
          go_wp2_with fail
          go_roundw
          case rel => exact ⟨k + 1, by go_num, by omega, by rw [HQ.out], by (exact belQ)⟩
          case measure => simp [intOf]; omega
        · have te : sj.toList.isEmpty = false := by rw [hje]; simpa using hJ
          have a1 : ∀ w, (Op.stringOp .add sj ⟨#[32]⟩).run Tryz.prog w = .ok (.string (sj ++ ⟨#[32]⟩)) w := fun w => run_string_add_sum w _ _ (by show sj.size + 1 ≤ _; omega)
          have a2 : ∀ w, (Op.stringOp .add (sj ++ ⟨#[32]⟩) s0).run Tryz.prog w = .ok (.string (sj ++ ⟨#[32]⟩ ++ s0)) w := fun w => run_string_add_sum w _ _ (by rw [ByteArray.size_append]; show sj.size + 1 + _ ≤ _; omega)
          have HQ := Lib.hid (show sj ++ ⟨#[32]⟩ ++ s0 = ⟨(joinK (ts.take (k + 1))).toArray⟩ by rw [HS.out, if_neg hJ, HS0.out, ← HSJ.out, show (⟨#[32]⟩ : ByteArray) = ⟨([32] : List UInt8).toArray⟩ from rfl, mk_add2, mk_add2])
          clear hJ hje
          go_wp2_with fail
          go_roundw
          case rel => exact ⟨k + 1, by go_num, by omega, by rw [HQ.out], by (exact belQ)⟩
          case measure => simp [intOf]; omega
    · have hkn : ts.take k = ts := List.take_of_length_le (by rw [HN.out]; omega)
      have hk1 : ¬ (k : Int) < (n : Int) := by omega
      rw [hkn]
      clear hkn
      go_wp2_with fail
      go_ret
      exact ⟨rfl, by (exact belQ)⟩
theorem mem_flats3 {k : X} {t : T} (ht : t ∈ k.flat) : ∀ {ks : List X}, k ∈ ks → t ∈ flats ks
  | y :: ys, h => by
    rw [flats_cons, List.mem_append]
    rcases List.mem_cons.1 h with rfl | h
    · exact .inl ht
    · exact .inr (mem_flats3 ht h)
section
variable {w0 : World} {eb wb tn tc ln lc rn rc : Nat} {TA LA DA : Option Addr} {es : List T} {left right : List Bs}
theorem write_x (hT : RowT w0 w0.heap.size TA tn es) (hl : RowB w0 w0.heap.size LA ln left) (hr : RowB w0 w0.heap.size DA rn right) (htn : tn ≤ 1000) (hln : ln ≤ 1000000) (hrn : rn ≤ 1000000) (hnm : ∀ c, (colName left right c).length ≤ 1000000) :
    ∀ (f : Nat) (x : X) (r : List T) (pos : Nat), x.depth ≤ f → x.wf = true → es.drop pos = x.flat ++ r → (∀ t ∈ x.flat, t.op = 2 → t.c < ((ln + rn : Nat) : Int)) → WC w0 eb wb (.slice TA tn tc) (.slice LA ln lc) (.slice DA rn rc) pos (pos + x.flat.length) (x.wr left right) := by
  intro f
  induction f with
  | zero => intro x r pos hd; have := x.depth_pos; omega
  | succ f ih =>
    intro x r pos hd hw hx hcol
    obtain ⟨t, ks⟩ := x
    have hw2 := hw
    simp only [X.wf, Bool.and_eq_true, decide_eq_true_eq] at hw2
    obtain ⟨hok, hkl, hkw⟩ := hw2
    have ht : es[pos]? = some t := by
      have h2 : (es.drop pos)[0]? = some t := by rw [hx, X.flat_node]; rfl
      rwa [List.getElem?_drop, Nat.add_zero] at h2
    simp only [X.depth] at hd
    rw [X.flat_node] at hcol
    have hsub : ∀ (i : Nat) (k : X), ks[i]? = some k → ∀ t ∈ k.flat, t ∈ flats ks := fun i k hk t ht => mem_flats3 ht (List.mem_of_getElem? hk)
    have hK : KidsC w0 eb wb (.slice TA tn tc) (.slice LA ln lc) (.slice DA rn rc) es left right (pos + 1) ks := by
      refine ⟨fun i k hk => ?_, fun i k hk => ?_⟩
      · obtain ⟨h1, h2, h3⟩ := kid_in hk
        rw [h3, ← Nat.add_assoc]
        exact ih k _ _ (by omega) (h2 hkw) (kid_at hx hk) fun t ht => hcol t (List.mem_cons_of_mem _ (hsub i k hk t ht))
      · obtain ⟨h1, h2, h3⟩ := kid_in hk
        have hx2 := kid_at hx hk
        obtain ⟨r2, hr2⟩ := k.flat_head
        refine ⟨?_, wf_op (h2 hkw)⟩
        have h4 : (es.drop (pos + 1 + (flats (ks.take i)).length))[0]? = some k.t := by rw [hx2, hr2]; rfl
        rwa [List.getElem?_drop, Nat.add_zero] at h4
    have := write_node hT hl hr htn hln hrn hnm rfl ht hok hkl (fun h => hcol t (List.mem_cons_self ..) h) hK
    rw [X.wr, X.flat_node, List.length_cons, show pos + ((flats ks).length + 1) = pos + 1 + (flats ks).length by omega]
    exact this
theorem expression_w {w : World} {l l' : List HA} {x : X} (hT : RowT w0 w0.heap.size TA tn es) (hl : RowB w0 w0.heap.size LA ln left) (hr : RowB w0 w0.heap.size DA rn right) (htn : tn ≤ 1000) (hln : ln ≤ 1000000) (hrn : rn ≤ 1000000) (hnm : ∀ c, (colName left right c).length ≤ 1000000) (hw : x.wf = true) (hx : es = x.flat) (hcol : ∀ t ∈ x.flat, t.op = 2 → t.c < ((ln + rn : Nat) : Int)) {L : List Tk} (hL : L.length + (x.wr left right).length ≤ 1000000) (H : HS w (wA wb L :: l)) (ho : Pick l (oldA w0) l') :
    Calls Tryz.prog 34 #[.pointer (some ⟨wb, 0, none⟩), .slice TA tn tc, .slice LA ln lc, .slice DA rn rc] w fun e w' => e = .returned (.tuple #[]) ∧ HS w' (wA wb (L ++ x.wr left right) :: l) := by
  obtain ⟨z, w1, ez, ew, H1⟩ := H.alloc_ex (ewC wb (.slice TA tn tc) (.slice LA ln lc) (.slice DA rn rc)) 122
  have hC := write_x (eb := z) (wb := wb) (tc := tc) (lc := lc) (rc := rc) hT hl hr htn hln hrn hnm _ x [] 0 (Nat.le_refl _) hw (by rw [List.drop_zero, hx, List.append_nil]) hcol w1 l l' L hL H1 ho
  unfold WrPost at hC
  unfold ewC at ew
  clear hT hl hr hnm hcol hL H H1 ho
  go_enter Tryz.func34, Tryz.ntmps34
  go_upto_region 1 with fail
  (try rw [ez]); (try rw [ew])
  clear ez ew
  go_wp2_with (go_at_call 65; refine hC.mono ?_; rintro e w4 ⟨rfl, H4⟩)
  go_end0
  exact ⟨rfl, H4.tail⟩
end
end Go.Proofs.YtpnfbehbheddeaaGreatDoor
