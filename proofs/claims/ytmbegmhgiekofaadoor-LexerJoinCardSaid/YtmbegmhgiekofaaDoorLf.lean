/- Contracts of text and Join, of the program and of the reference: at most 100000 tokens with texts of at most 100000 bytes; the program's where the table of powers of ten is as it is laid. -/
import Derived.Test.YtmbegmhgiekofaaDoorLJn
import Derived.Test.YtmbegmhgiekofaaDoorLe
namespace Go.Proofs.YtmbegmhgiekofaaDoor
open Go.RowKit

def SPost (w : World) (l : List UInt8) (e : Ending) (w' : World) : Prop := e = .returned (.string ⟨l.toArray⟩) ∧ Below w.heap.size w w'
theorem fmt_text {s : ByteArray} (h : s.size ≤ 32) : fmtV ⟨2, 0, s⟩ = quoteL s.data.toList := by
  have hok : (V.mk 2 0 s).ok = true := by simp [V.ok, h]
  unfold fmtV
  rw [V.cl_of hok, if_neg (by simp), if_pos rfl]
theorem tokText_no {t : Tk} (h : tokOk t = false) : tokText t = [] := by unfold tokText; rw [h]; rfl
theorem tokText_ok {t : Tk} (h : tokOk t = true) : tokText t = wordTk t := by unfold tokText; rw [h]; rfl
set_option maxRecDepth 100000 in
set_option maxHeartbeats 1000000 in
theorem xtext (t : Tk) (w : World) (ht : t.text.length ≤ 100000) (hG : G w) : Calls Tryd.prog 35 #[.agg #[.int .i64 t.kind, .string ⟨t.text.toArray⟩, .int .i64 t.int, .int .i64 t.pos]] w (SPost w (tokText t)) := by
  obtain ⟨k, tx, n, p⟩ := t
  obtain ⟨s, rfl⟩ : ∃ s : ByteArray, tx = s.data.toList := ⟨⟨tx.toArray⟩, rfl⟩
  simp only at ht
  simp only [Lib.mk_data]
  rw [← Lib.size_eq] at ht
  by_cases h1 : k = 1
  · subst h1
    have hI := fun w => xisName s w (by omega)
    cases hb : isNameB s.data.toList
    · have HR := Lib.hid (tokText_no (t := ⟨1, s.data.toList, n, p⟩) (by unfold tokOk; rw [if_pos rfl]; exact hb))
      rw [hb] at hI
      clear hb
      go_enter Tryd.func35, Tryd.ntmps35
      go_wp2_with (go_at_call 19; refine (hI _).mono ?_; rintro e w1 ⟨rfl, rfl⟩)
      go_ret
      unfold SPost
      rw [HR.out]
      exact ⟨rfl, by (repeat (first | (with_reducible exact Below.refl _ _) | (with_reducible assumption) | (with_reducible refine Below.drew ?_) | (with_reducible refine below_drewN ?_ _) | ((with_reducible refine Below.setCell ?_ ?_ _); rotate_left; (focus (first | (simp; done) | (simp; omega) | omega))) | ((with_reducible refine Below.alloc ?_ ?_ _); rotate_left; (focus (first | (simp; done) | (simp; omega) | omega))) | ((with_reducible apply below_step1); (focus (with_reducible assumption)))))⟩
    · have HR := Lib.hid ((tokText_ok (t := ⟨1, s.data.toList, n, p⟩) (by unfold tokOk; rw [if_pos rfl]; exact hb)).trans (show wordTk ⟨1, s.data.toList, n, p⟩ = s.data.toList by unfold wordTk; rw [if_pos (.inl rfl)]))
      rw [hb] at hI
      clear hb
      go_enter Tryd.func35, Tryd.ntmps35
      go_wp2_with (go_at_call 19; refine (hI _).mono ?_; rintro e w1 ⟨rfl, rfl⟩)
      go_ret
      unfold SPost
      rw [HR.out]
      exact ⟨rfl, by (repeat (first | (with_reducible exact Below.refl _ _) | (with_reducible assumption) | (with_reducible refine Below.drew ?_) | (with_reducible refine below_drewN ?_ _) | ((with_reducible refine Below.setCell ?_ ?_ _); rotate_left; (focus (first | (simp; done) | (simp; omega) | omega))) | ((with_reducible refine Below.alloc ?_ ?_ _); rotate_left; (focus (first | (simp; done) | (simp; omega) | omega))) | ((with_reducible apply below_step1); (focus (with_reducible assumption)))))⟩
  have t1 : (k == 1) = false := by simpa using h1
  by_cases h2 : k = 2
  · subst h2
    by_cases hn : 0 ≤ n ∧ n ≤ 4294967296
    · have HR := Lib.hid ((tokText_ok (t := ⟨2, s.data.toList, n, p⟩) (by unfold tokOk; rw [if_neg (by simp), if_pos rfl]; simpa using hn)).trans (show wordTk ⟨2, s.data.toList, n, p⟩ = Lib.itoa n by unfold wordTk; rw [if_neg (by simp), if_pos rfl]))
      obtain ⟨hn1, hn2⟩ := hn
      go_enter Tryd.func35, Tryd.ntmps35
      go_wp2_with (go_at_call 53; refine (Tryd.strconv_FormatInt_10 _ (by omega) (by omega) _ (by exact (hG.below (by (repeat (first | (with_reducible exact Below.refl _ _) | (with_reducible assumption) | (with_reducible refine Below.drew ?_) | (with_reducible refine below_drewN ?_ _) | ((with_reducible refine Below.setCell ?_ ?_ _); rotate_left; (focus (first | (simp; done) | (simp; omega) | omega))) | ((with_reducible refine Below.alloc ?_ ?_ _); rotate_left; (focus (first | (simp; done) | (simp; omega) | omega))) | ((with_reducible apply below_step1); (focus (with_reducible assumption))))))).tab)).mono ?_; rintro e w2 ⟨rfl, hb2'⟩; have hb2 := below_grow hb2'; clear hb2')
      go_ret
      unfold SPost
      rw [HR.out]
      exact ⟨rfl, by (repeat (first | (with_reducible exact Below.refl _ _) | (with_reducible assumption) | (with_reducible refine Below.drew ?_) | (with_reducible refine below_drewN ?_ _) | ((with_reducible refine Below.setCell ?_ ?_ _); rotate_left; (focus (first | (simp; done) | (simp; omega) | omega))) | ((with_reducible refine Below.alloc ?_ ?_ _); rotate_left; (focus (first | (simp; done) | (simp; omega) | omega))) | ((with_reducible apply below_step1); (focus (with_reducible assumption)))))⟩
    · have HR := Lib.hid (tokText_no (t := ⟨2, s.data.toList, n, p⟩) (by unfold tokOk; rw [if_neg (by simp), if_pos rfl]; rw [Bool.eq_false_iff]; intro h; simp at h; exact hn h))
      by_cases hn1 : 0 ≤ n
      · have hn2 : ¬ n ≤ 4294967296 := fun h => hn ⟨hn1, h⟩
        clear hn
        go_enter Tryd.func35, Tryd.ntmps35
        go_wp2_with fail
        go_ret
        unfold SPost
        rw [HR.out]
        exact ⟨rfl, by (repeat (first | (with_reducible exact Below.refl _ _) | (with_reducible assumption) | (with_reducible refine Below.drew ?_) | (with_reducible refine below_drewN ?_ _) | ((with_reducible refine Below.setCell ?_ ?_ _); rotate_left; (focus (first | (simp; done) | (simp; omega) | omega))) | ((with_reducible refine Below.alloc ?_ ?_ _); rotate_left; (focus (first | (simp; done) | (simp; omega) | omega))) | ((with_reducible apply below_step1); (focus (with_reducible assumption)))))⟩
      · clear hn
        go_enter Tryd.func35, Tryd.ntmps35
        go_wp2_with fail
        go_ret
        unfold SPost
        rw [HR.out]
        exact ⟨rfl, by (repeat (first | (with_reducible exact Below.refl _ _) | (with_reducible assumption) | (with_reducible refine Below.drew ?_) | (with_reducible refine below_drewN ?_ _) | ((with_reducible refine Below.setCell ?_ ?_ _); rotate_left; (focus (first | (simp; done) | (simp; omega) | omega))) | ((with_reducible refine Below.alloc ?_ ?_ _); rotate_left; (focus (first | (simp; done) | (simp; omega) | omega))) | ((with_reducible apply below_step1); (focus (with_reducible assumption)))))⟩
  have t2 : (k == 2) = false := by simpa using h2
  by_cases h3 : k = 3
  · subst h3
    by_cases h32 : s.size ≤ 32
    · have HR := Lib.hid ((tokText_ok (t := ⟨3, s.data.toList, n, p⟩) (by unfold tokOk; rw [if_neg (by simp), if_neg (by simp), if_pos rfl, ← Lib.size_eq]; simpa using h32)).trans (show wordTk ⟨3, s.data.toList, n, p⟩ = quoteL s.data.toList by unfold wordTk; rw [if_neg (by simp), if_neg (by simp)]))
      have HF := Lib.hid (fmt_text h32)
      have t32 : (s.size : Int) ≤ 32 := by omega
      go_enter Tryd.func35, Tryd.ntmps35
      go_wp2_with (go_at_call 54; refine (vformat ⟨2, 0, s⟩ _ (by exact hG.below (by (repeat (first | (with_reducible exact Below.refl _ _) | (with_reducible assumption) | (with_reducible refine Below.drew ?_) | (with_reducible refine below_drewN ?_ _) | ((with_reducible refine Below.setCell ?_ ?_ _); rotate_left; (focus (first | (simp; done) | (simp; omega) | omega))) | ((with_reducible refine Below.alloc ?_ ?_ _); rotate_left; (focus (first | (simp; done) | (simp; omega) | omega))) | ((with_reducible apply below_step1); (focus (with_reducible assumption)))))))).mono ?_; rintro e w1 ⟨rfl, hb1⟩)
      go_ret
      unfold SPost
      rw [HR.out, HF.out]
      exact ⟨rfl, by (repeat (first | (with_reducible exact Below.refl _ _) | (with_reducible assumption) | (with_reducible refine Below.drew ?_) | (with_reducible refine below_drewN ?_ _) | ((with_reducible refine Below.setCell ?_ ?_ _); rotate_left; (focus (first | (simp; done) | (simp; omega) | omega))) | ((with_reducible refine Below.alloc ?_ ?_ _); rotate_left; (focus (first | (simp; done) | (simp; omega) | omega))) | ((with_reducible apply below_step1); (focus (with_reducible assumption)))))⟩
    · have HR := Lib.hid (tokText_no (t := ⟨3, s.data.toList, n, p⟩) (by unfold tokOk; rw [if_neg (by simp), if_neg (by simp), if_pos rfl, ← Lib.size_eq]; simpa using h32))
      have t32 : ¬ (s.size : Int) ≤ 32 := by omega
      go_enter Tryd.func35, Tryd.ntmps35
      go_wp2_with fail
      go_ret
      unfold SPost
      rw [HR.out]
      exact ⟨rfl, by (repeat (first | (with_reducible exact Below.refl _ _) | (with_reducible assumption) | (with_reducible refine Below.drew ?_) | (with_reducible refine below_drewN ?_ _) | ((with_reducible refine Below.setCell ?_ ?_ _); rotate_left; (focus (first | (simp; done) | (simp; omega) | omega))) | ((with_reducible refine Below.alloc ?_ ?_ _); rotate_left; (focus (first | (simp; done) | (simp; omega) | omega))) | ((with_reducible apply below_step1); (focus (with_reducible assumption)))))⟩
  have t3 : (k == 3) = false := by simpa using h3
  by_cases h4 : k = 4
  · subst h4
    have HS := Lib.hid (isSign_prog s.data.toList)
    by_cases h0 : s.data.toList = []
    · have te : s.toList.isEmpty = true := by rw [empty_iff]; simpa using h0
      have HR := Lib.hid (tokText_no (t := ⟨4, s.data.toList, n, p⟩) (by unfold tokOk; rw [if_neg (by simp), if_neg (by simp), if_neg (by simp), if_pos rfl, HS.out]; simp [h0]))
      clear h0
      go_enter Tryd.func35, Tryd.ntmps35
      go_wp2_with fail
      go_quiet (fail)
      go_wp2_with fail
      go_ret
      unfold SPost
      rw [HR.out]
      exact ⟨rfl, by (repeat (first | (with_reducible exact Below.refl _ _) | (with_reducible assumption) | (with_reducible refine Below.drew ?_) | (with_reducible refine below_drewN ?_ _) | ((with_reducible refine Below.setCell ?_ ?_ _); rotate_left; (focus (first | (simp; done) | (simp; omega) | omega))) | ((with_reducible refine Below.alloc ?_ ?_ _); rotate_left; (focus (first | (simp; done) | (simp; omega) | omega))) | ((with_reducible apply below_step1); (focus (with_reducible assumption)))))⟩
    · have te : s.toList.isEmpty = false := by rw [empty_iff]; simpa using h0
      have hL := fun w => xsignLength s w
      have HQ := Lib.hid (show isSignB s.data.toList = decide (signLen s.data.toList = s.size) by rw [HS.out, ← Lib.size_eq]; simp [h0])
      generalize signLen s.data.toList = m at hL HQ
      clear h0
      by_cases hm : m = s.size
      · have tm : ((m : Int) == (s.size : Int)) = true := by rw [beq_iff_eq]; omega
        have HR := Lib.hid ((tokText_ok (t := ⟨4, s.data.toList, n, p⟩) (by unfold tokOk; rw [if_neg (by simp), if_neg (by simp), if_neg (by simp), if_pos rfl, HQ.out]; simpa using hm)).trans (show wordTk ⟨4, s.data.toList, n, p⟩ = s.data.toList by unfold wordTk; rw [if_pos (.inr rfl)]))
        clear hm
        go_enter Tryd.func35, Tryd.ntmps35
        go_wp2_with fail
        go_quiet ((go_at_call 47; exact Calls.quiet_of_same ((hL _).mono fun e w' h => ⟨h.1, h.2.symm⟩)))
        go_wp2_with fail
        go_ret
        unfold SPost
        rw [HR.out]
        exact ⟨rfl, by (repeat (first | (with_reducible exact Below.refl _ _) | (with_reducible assumption) | (with_reducible refine Below.drew ?_) | (with_reducible refine below_drewN ?_ _) | ((with_reducible refine Below.setCell ?_ ?_ _); rotate_left; (focus (first | (simp; done) | (simp; omega) | omega))) | ((with_reducible refine Below.alloc ?_ ?_ _); rotate_left; (focus (first | (simp; done) | (simp; omega) | omega))) | ((with_reducible apply below_step1); (focus (with_reducible assumption)))))⟩
      · have tm : ((m : Int) == (s.size : Int)) = false := by rw [beq_eq_false_iff_ne]; omega
        have HR := Lib.hid (tokText_no (t := ⟨4, s.data.toList, n, p⟩) (by unfold tokOk; rw [if_neg (by simp), if_neg (by simp), if_neg (by simp), if_pos rfl, HQ.out]; simpa using hm))
        clear hm
        go_enter Tryd.func35, Tryd.ntmps35
        go_wp2_with fail
        go_quiet ((go_at_call 47; exact Calls.quiet_of_same ((hL _).mono fun e w' h => ⟨h.1, h.2.symm⟩)))
        go_wp2_with fail
        go_ret
        unfold SPost
        rw [HR.out]
        exact ⟨rfl, by (repeat (first | (with_reducible exact Below.refl _ _) | (with_reducible assumption) | (with_reducible refine Below.drew ?_) | (with_reducible refine below_drewN ?_ _) | ((with_reducible refine Below.setCell ?_ ?_ _); rotate_left; (focus (first | (simp; done) | (simp; omega) | omega))) | ((with_reducible refine Below.alloc ?_ ?_ _); rotate_left; (focus (first | (simp; done) | (simp; omega) | omega))) | ((with_reducible apply below_step1); (focus (with_reducible assumption)))))⟩
  · have t4 : (k == 4) = false := by simpa using h4
    have HR := Lib.hid (tokText_no (t := ⟨k, s.data.toList, n, p⟩) (by unfold tokOk; rw [if_neg h1, if_neg h2, if_neg h3, if_neg h4]))
    clear h1 h2 h3 h4
    go_enter Tryd.func35, Tryd.ntmps35
    go_wp2_with fail
    go_ret
    unfold SPost
    rw [HR.out]
    exact ⟨rfl, by (repeat (first | (with_reducible exact Below.refl _ _) | (with_reducible assumption) | (with_reducible refine Below.drew ?_) | (with_reducible refine below_drewN ?_ _) | ((with_reducible refine Below.setCell ?_ ?_ _); rotate_left; (focus (first | (simp; done) | (simp; omega) | omega))) | ((with_reducible refine Below.alloc ?_ ?_ _); rotate_left; (focus (first | (simp; done) | (simp; omega) | omega))) | ((with_reducible apply below_step1); (focus (with_reducible assumption)))))⟩

def RtPost (w : World) (t : Tk) (e : Ending) (w' : World) : Prop := ∃ s : ByteArray, e = .returned (.tuple #[.string s, .bool (tokOk t)]) ∧ (tokOk t = true → s = ⟨(wordTk t).toArray⟩) ∧ Below w.heap.size w w'
set_option maxRecDepth 100000 in
set_option maxHeartbeats 1000000 in
theorem rtext_c (t : Tk) (w : World) (ht : t.text.length ≤ 100000) : Calls Tryd.prog 30 #[.agg #[.int .i64 t.kind, .string ⟨t.text.toArray⟩, .int .i64 t.int, .int .i64 t.pos]] w (RtPost w t) := by
  obtain ⟨k, tx, n, p⟩ := t
  obtain ⟨s, rfl⟩ : ∃ s : ByteArray, tx = s.data.toList := ⟨⟨tx.toArray⟩, rfl⟩
  simp only at ht
  simp only [Lib.mk_data]
  rw [← Lib.size_eq] at ht
  by_cases h1 : k = 1
  · subst h1
    have hI := fun w => risName s w (by omega)
    have HK := Lib.hid (show tokOk ⟨1, s.data.toList, n, p⟩ = isNameB s.data.toList by unfold tokOk; rw [if_pos rfl])
    have HW := Lib.hid (show wordTk ⟨1, s.data.toList, n, p⟩ = s.data.toList by unfold wordTk; rw [if_pos (.inl rfl)])
    generalize isNameB s.data.toList = b at hI HK
    go_enter Tryd.func30, Tryd.ntmps30
    go_wp2_with fail
    go_quiet ((go_at_call 20; exact Calls.quiet_of_same ((hI _).mono fun e w' h => ⟨h.1, h.2.symm⟩)))
    go_wp2_with fail
    refine bodyPost_ret (by simp [results, Tryd.results30, go_sem]; rfl) rfl ?_
    unfold RtPost
    rw [HK.out, HW.out]
    exact ⟨s, rfl, fun _ => rfl, by (repeat (first | (with_reducible exact Below.refl _ _) | (with_reducible assumption) | (with_reducible refine Below.drew ?_) | (with_reducible refine below_drewN ?_ _) | ((with_reducible refine Below.setCell ?_ ?_ _); rotate_left; (focus (first | (simp; done) | (simp; omega) | omega))) | ((with_reducible refine Below.alloc ?_ ?_ _); rotate_left; (focus (first | (simp; done) | (simp; omega) | omega))) | ((with_reducible apply below_step1); (focus (with_reducible assumption)))))⟩
  have t1 : (k == 1) = false := by simpa using h1
  by_cases h2 : k = 2
  · subst h2
    by_cases hn : 0 ≤ n ∧ n ≤ 4294967296
    · have HK := Lib.hid (show tokOk ⟨2, s.data.toList, n, p⟩ = true by unfold tokOk; rw [if_neg (by simp), if_pos rfl]; simpa using hn)
      have HW := Lib.hid (show wordTk ⟨2, s.data.toList, n, p⟩ = Lib.itoa n by unfold wordTk; rw [if_neg (by simp), if_pos rfl])
      obtain ⟨hn1, hn2⟩ := hn
      have hn3 : ¬ n < 0 := by omega
      have hn4 : ¬ 4294967296 < n := by omega
      go_enter Tryd.func30, Tryd.ntmps30
      go_wp2_with (go_at_call 38; refine (digits_c n _ (by omega) (by omega)).mono ?_; rintro e w1 ⟨rfl, hb1⟩)
      refine bodyPost_ret (by simp [results, Tryd.results30, go_sem]; rfl) rfl ?_
      unfold RtPost
      rw [HK.out, HW.out]
      exact ⟨_, rfl, fun _ => rfl, by (repeat (first | (with_reducible exact Below.refl _ _) | (with_reducible assumption) | (with_reducible refine Below.drew ?_) | (with_reducible refine below_drewN ?_ _) | ((with_reducible refine Below.setCell ?_ ?_ _); rotate_left; (focus (first | (simp; done) | (simp; omega) | omega))) | ((with_reducible refine Below.alloc ?_ ?_ _); rotate_left; (focus (first | (simp; done) | (simp; omega) | omega))) | ((with_reducible apply below_step1); (focus (with_reducible assumption)))))⟩
    · have HK := Lib.hid (show tokOk ⟨2, s.data.toList, n, p⟩ = false by unfold tokOk; rw [if_neg (by simp), if_pos rfl]; rw [Bool.eq_false_iff]; intro h; simp at h; exact hn h)
      by_cases hn1 : n < 0
      · clear hn
        go_enter Tryd.func30, Tryd.ntmps30
        go_wp2_with fail
        refine bodyPost_ret (by simp [results, Tryd.results30, go_sem]; rfl) rfl ?_
        unfold RtPost
        rw [HK.out]
        exact ⟨_, rfl, (fun h => by cases h), by (repeat (first | (with_reducible exact Below.refl _ _) | (with_reducible assumption) | (with_reducible refine Below.drew ?_) | (with_reducible refine below_drewN ?_ _) | ((with_reducible refine Below.setCell ?_ ?_ _); rotate_left; (focus (first | (simp; done) | (simp; omega) | omega))) | ((with_reducible refine Below.alloc ?_ ?_ _); rotate_left; (focus (first | (simp; done) | (simp; omega) | omega))) | ((with_reducible apply below_step1); (focus (with_reducible assumption)))))⟩
      · have hn2 : 4294967296 < n := by
          rcases Int.lt_or_le 4294967296 n with h | h
          · exact h
          · exact absurd ⟨by omega, h⟩ hn
        clear hn
        go_enter Tryd.func30, Tryd.ntmps30
        go_wp2_with fail
        refine bodyPost_ret (by simp [results, Tryd.results30, go_sem]; rfl) rfl ?_
        unfold RtPost
        rw [HK.out]
        exact ⟨_, rfl, (fun h => by cases h), by (repeat (first | (with_reducible exact Below.refl _ _) | (with_reducible assumption) | (with_reducible refine Below.drew ?_) | (with_reducible refine below_drewN ?_ _) | ((with_reducible refine Below.setCell ?_ ?_ _); rotate_left; (focus (first | (simp; done) | (simp; omega) | omega))) | ((with_reducible refine Below.alloc ?_ ?_ _); rotate_left; (focus (first | (simp; done) | (simp; omega) | omega))) | ((with_reducible apply below_step1); (focus (with_reducible assumption)))))⟩
  have t2 : (k == 2) = false := by simpa using h2
  by_cases h3 : k = 3
  · subst h3
    have HK := Lib.hid (show tokOk ⟨3, s.data.toList, n, p⟩ = decide ((s.size : Int) ≤ 32) by unfold tokOk; rw [if_neg (by simp), if_neg (by simp), if_pos rfl, ← Lib.size_eq, Bool.eq_iff_iff]; simp; omega)
    have HW := Lib.hid (show wordTk ⟨3, s.data.toList, n, p⟩ = quoteL s.data.toList by unfold wordTk; rw [if_neg (by simp), if_neg (by simp)])
    go_enter Tryd.func30, Tryd.ntmps30
    go_wp2_with fail
    go_region_held3 (fun w' => Below (w.alloc (.cells #[.int .i64 3, .string s, .int .i64 n, .int .i64 p] 38)).heap.size (w.alloc (.cells #[.int .i64 3, .string s, .int .i64 n, .int .i64 p] 38)) w' ∧ ∀ b o, b < (w.alloc (.cells #[.int .i64 3, .string s, .int .i64 n, .int .i64 p] 38)).heap.size → w'.cell? ⟨b, o, none⟩ = (w.alloc (.cells #[.int .i64 3, .string s, .int .i64 n, .int .i64 p] 38)).cell? ⟨b, o, none⟩) ((first | (with_reducible assumption) | (with_reducible exact ext_refl _) | ((with_reducible apply ext_step) <;> (with_reducible assumption)) | ((with_reducible refine ext_drew ?_) <;> (with_reducible assumption)) | ((with_reducible refine ext_alloc ?_ _) <;> (with_reducible assumption))))
      (first
        | (go_at_call 39; refine (rquote_c s _ (by omega)).mono ?_; rintro e w1 ⟨rfl, hb1⟩))
    go_wp2_with fail
    refine bodyPost_ret (by simp [results, Tryd.results30, go_sem]; rfl) rfl ?_
    unfold RtPost
    rw [HK.out, HW.out]
    exact ⟨_, rfl, fun _ => rfl, by (repeat (first | (with_reducible exact Below.refl _ _) | (with_reducible assumption) | (with_reducible refine Below.drew ?_) | (with_reducible refine below_drewN ?_ _) | ((with_reducible refine Below.setCell ?_ ?_ _); rotate_left; (focus (first | (simp; done) | (simp; omega) | omega))) | ((with_reducible refine Below.alloc ?_ ?_ _); rotate_left; (focus (first | (simp; done) | (simp; omega) | omega))) | ((with_reducible apply below_step1); (focus (with_reducible assumption)))))⟩
  have t3 : (k == 3) = false := by simpa using h3
  by_cases h4 : k = 4
  · subst h4
    have hI := fun w => risSign s w
    have HK := Lib.hid (show tokOk ⟨4, s.data.toList, n, p⟩ = isSignB s.data.toList by unfold tokOk; rw [if_neg (by simp), if_neg (by simp), if_neg (by simp), if_pos rfl])
    have HW := Lib.hid (show wordTk ⟨4, s.data.toList, n, p⟩ = s.data.toList by unfold wordTk; rw [if_pos (.inr rfl)])
    generalize isSignB s.data.toList = b at hI HK
    go_enter Tryd.func30, Tryd.ntmps30
    go_wp2_with fail
    go_quiet ((go_at_call 52; exact Calls.quiet_of_same ((hI _).mono fun e w' h => ⟨h.1, h.2.symm⟩)))
    go_wp2_with fail
    refine bodyPost_ret (by simp [results, Tryd.results30, go_sem]; rfl) rfl ?_
    unfold RtPost
    rw [HK.out, HW.out]
    exact ⟨s, rfl, fun _ => rfl, by (repeat (first | (with_reducible exact Below.refl _ _) | (with_reducible assumption) | (with_reducible refine Below.drew ?_) | (with_reducible refine below_drewN ?_ _) | ((with_reducible refine Below.setCell ?_ ?_ _); rotate_left; (focus (first | (simp; done) | (simp; omega) | omega))) | ((with_reducible refine Below.alloc ?_ ?_ _); rotate_left; (focus (first | (simp; done) | (simp; omega) | omega))) | ((with_reducible apply below_step1); (focus (with_reducible assumption)))))⟩
  · have t4 : (k == 4) = false := by simpa using h4
    have HK := Lib.hid (show tokOk ⟨k, s.data.toList, n, p⟩ = false by unfold tokOk; rw [if_neg h1, if_neg h2, if_neg h3, if_neg h4])
    clear h1 h2 h3 h4
    go_enter Tryd.func30, Tryd.ntmps30
    go_wp2_with fail
    refine bodyPost_ret (by simp [results, Tryd.results30, go_sem]; rfl) rfl ?_
    unfold RtPost
    rw [HK.out]
    exact ⟨_, rfl, (fun h => by cases h), by (repeat (first | (with_reducible exact Below.refl _ _) | (with_reducible assumption) | (with_reducible refine Below.drew ?_) | (with_reducible refine below_drewN ?_ _) | ((with_reducible refine Below.setCell ?_ ?_ _); rotate_left; (focus (first | (simp; done) | (simp; omega) | omega))) | ((with_reducible refine Below.alloc ?_ ?_ _); rotate_left; (focus (first | (simp; done) | (simp; omega) | omega))) | ((with_reducible apply below_step1); (focus (with_reducible assumption)))))⟩
end Go.Proofs.YtmbegmhgiekofaaDoor
