/- Contracts of the parser's small methods. No condition beyond the parser's state. Contracts of the parser's accept, expect, take and their kin. No condition beyond the parser's state; at most 100 words. Trees of nodes in memory; the state of a parser that reads an expression. No condition. -/
import Derived.Test.YtpnfbehbheddeaaGreatDoorBn07
import Derived.StillTailTactics
namespace Go.Proofs.YtpnfbehbheddeaaGreatDoor
set_option maxRecDepth 100000
set_option maxHeartbeats 8000000
set_option linter.unusedVariables false
set_option linter.unusedSimpArgs false
open Go.RowKit
theorem kindP_at {e : Src} {s : Ps} {a : Nat} {k : Int} {t : Tk} (h : e.toks[s.pos + a]? = some t) : isKindP e s a k = (t.kind == k) := by unfold isKindP; rw [h]
theorem kindP_off {e : Src} {s : Ps} {a : Nat} {k : Int} (h : ¬ s.pos + a < e.toks.length) : isKindP e s a k = false := by unfold isKindP; rw [List.getElem?_eq_none (by omega)]
theorem isKind_c {p : Pp} {w : World} {s : Ps} {rv : Value} (h : PsAt p w s rv) (a : Nat) (ha : a ≤ 1) (k : Int) : Calls Tryz.prog 186 #[.pointer (some ⟨p.pb, 0, none⟩), .int .i64 (a : Int), .int .i64 k] w fun e w' => e = .returned (.bool (isKindP p.e s a k)) ∧ w' = w := by
  have hok := h.ok
  have hfew := h.few
  obtain ⟨⟨c0, c1, -, -, -, -⟩, -⟩ := h.cells
  have hw : IntKind.i64.wrap ((s.pos : Int) + (a : Int)) = ((s.pos + a : Nat) : Int) := by rw [IntWalk.i64_in _ (by omega)]; omega
  by_cases hl : s.pos + a < p.e.toks.length
  · obtain ⟨b, off, t, hA, hb, ht, q0, q1, q2, q3⟩ := h.tok hl
    rw [hA] at c0
    have h1 : ((s.pos + a : Nat) : Int) < (p.e.toks.length : Int) := by omega
    have h0 : (0 : Int) ≤ ((s.pos + a : Nat) : Int) := by omega
    have HE := Lib.hid (kindP_at (k := k) ht)
    clear ht hA q1 q2 q3
    go_enter Tryz.func186, Tryz.ntmps186
    go_wp2_with fail
    go_ret
    rw [HE.out]
    exact ⟨rfl, rfl⟩
  · have h1 : ¬ ((s.pos + a : Nat) : Int) < (p.e.toks.length : Int) := by omega
    have HE := Lib.hid (kindP_off (k := k) hl)
    clear hl
    go_enter Tryz.func186, Tryz.ntmps186
    go_wp2_with fail
    go_ret
    rw [HE.out]
    exact ⟨rfl, rfl⟩
theorem RowB.at1 {w : World} {B n : Nat} {A : Option Addr} {ss : List Bs} (h : RowB w B A n ss) {k : Nat} (hk : k < n) :
   ∃ b off s, A = some ⟨b, off, none⟩ ∧ b < B ∧ ss[k]? = some s ∧ w.cell? ⟨b, off + k, none⟩ = some (.string ⟨s.toArray⟩) := by
  obtain ⟨b, off, s, h1, h2, h3, h4⟩ := h.at_ 1 (fun _ => rfl) (by omega) hk
  have := h4 0 _ rfl
  rw [Nat.mul_one] at this
  exact ⟨b, off, s, h1, h2, h3, this⟩
def baL (l : Bs) : ByteArray := ⟨l.toArray⟩
theorem baL_inj {a b : Bs} (h : baL a = baL b) : a = b := by
  have := congrArg (fun x : ByteArray => x.data.toList) h
  simpa [baL] using this
theorem contains_map (ws : List Bs) (x : Bs) : Lib.containsS (ws.map baL) (baL x) = ws.contains x := by
  rw [Bool.eq_iff_iff, Lib.containsS_iff, List.contains_iff_mem, List.mem_map]
  exact ⟨fun ⟨y, hy, he⟩ => baL_inj he ▸ hy, fun h => ⟨x, h, rfl⟩⟩
theorem RowB.cells {w : World} {B n : Nat} {b off : Nat} {ws : List Bs} (h : RowB w B (some ⟨b, off, none⟩) n ws) : ∀ j, j < (ws.map baL).length → w.cell? ⟨b, off + j, none⟩ = some (.string ((ws.map baL).getD j ByteArray.empty)) := by
  intro j hj
  rw [List.length_map] at hj
  obtain ⟨b', off', s, e1, _, h2, h3⟩ := h.at1 (k := j) (by have := h.len; omega)
  injection e1 with e1
  injection e1 with e1 e2
  subst e1 e2
  rw [h3, List.getD_eq_getElem?_getD, List.getElem?_map, h2]
  rfl
theorem contains_c {w : World} {B n c : Nat} {A : Option Addr} {ws : List Bs} (x : Bs) (hr : RowB w B A n ws) (hn : n ≤ maxLen) : Calls Tryz.prog 187 #[.slice A n c, .string ⟨x.toArray⟩] w fun e w' => e = .returned (.bool (ws.contains x)) ∧ w' = w := by
  have hl := hr.len
  unfold maxLen at hn
  rcases Nat.eq_zero_or_pos n with h0 | h0
  · subst h0
    have : ws = [] := List.eq_nil_of_length_eq_zero hl
    subst this
    exact Tryz.slices_Contains_string_empty A c _ w
  · obtain ⟨b, off, s, rfl, _⟩ := hr.at1 h0
    have h := Tryz.slices_Contains_string b off n c (ws.map baL) (baL x) w (by rw [List.length_map, hl]; exact Nat.le_refl _) (by omega) hr.cells
    rw [List.take_of_length_le (by rw [List.length_map, hl]; exact Nat.le_refl _), contains_map] at h
    exact h
theorem isP_eq (e : Src) (s : Ps) (a : Nat) (ws : List Bs) : isP e s a ws = ((isKindP e s a 1 || isKindP e s a 4) && ws.contains (textP e (s.pos + a))) := by
  unfold isP isKindP textP
  cases e.toks[s.pos + a]? <;> rfl
theorem textP_at {e : Src} {i : Nat} {t : Tk} (h : e.toks[i]? = some t) : textP e i = t.text := by unfold textP; rw [h]
theorem is_c {p : Pp} {w : World} {s : Ps} {rv : Value} (h : PsAt p w s rv) (a : Nat) (ha : a ≤ 1) {A : Option Addr} {n c B : Nat} (ws : List Bs) (hr : RowB w B A n ws) (hn : n ≤ 100) : Calls Tryz.prog 130 #[.pointer (some ⟨p.pb, 0, none⟩), .int .i64 (a : Int), .slice A n c] w (BPost w (isP p.e s a ws)) := by
  have hok := h.ok
  have hfew := h.few
  obtain ⟨⟨c0, c1, -, -, -, -⟩, -⟩ := h.cells
  have hw : IntKind.i64.wrap ((s.pos : Int) + (a : Int)) = ((s.pos + a : Nat) : Int) := by rw [IntWalk.i64_in _ (by omega)]; omega
  have k1 := isKind_c h a ha 1
  have k4 := isKind_c h a ha 4
  have HE := Lib.hid (isP_eq p.e s a ws)
  have hlt : (isKindP p.e s a 1 || isKindP p.e s a 4) = true → s.pos + a < p.e.toks.length := fun hh => by
    rw [Bool.or_eq_true] at hh
    rcases hh with hh | hh <;> exact isKindP_lt hh
  cases e1 : isKindP p.e s a 1
  · cases e4 : isKindP p.e s a 4
    · rw [e1, e4] at HE
      rw [e1] at k1
      rw [e4] at k4
      clear e1 e4 hlt
      go_enter Tryz.func130, Tryz.ntmps130
      go_wp2_with (first | (go_at_call 186; with_reducible refine k1.mono ?_; rintro e w1 ⟨rfl, rfl⟩) | (go_at_call 186; with_reducible refine k4.mono ?_; rintro e w1 ⟨rfl, rfl⟩))
      refine bodyPost_ret (by simp [results, Tryz.results130, go_sem]; rfl) rfl ?_
      unfold BPost
      rw [HE.out]
      exact ⟨by simp, by (exact belQ)⟩
    · rw [e1, e4] at HE hlt
      have hl := hlt rfl
      obtain ⟨b, off, t, hA, hb, ht, q0, q1, q2, q3⟩ := h.tok hl
      rw [textP_at ht] at HE
      rw [hA] at c0
      have h1 : ((s.pos + a : Nat) : Int) < (p.e.toks.length : Int) := by omega
      have h0 : (0 : Int) ≤ ((s.pos + a : Nat) : Int) := by omega
      have hC := fun k => contains_c (w := w.drewN k) (c := c) t.text (hr.keep fun _ _ => rfl) (by unfold maxLen; omega)
      rw [e1] at k1
      rw [e4] at k4
      clear e1 e4 hlt ht hA hl q0 q2 q3
      go_enter Tryz.func130, Tryz.ntmps130
      go_wp2_with (first | (go_at_call 186; with_reducible refine k1.mono ?_; rintro e w1 ⟨rfl, rfl⟩) | (go_at_call 186; with_reducible refine k4.mono ?_; rintro e w1 ⟨rfl, rfl⟩))
      go_quiet ((go_at_call 187; exact Calls.quiet_of_same (hC _)))
      go_wp2_with fail
      refine bodyPost_ret (by simp [results, Tryz.results130, go_sem]; rfl) rfl ?_
      unfold BPost
      rw [HE.out]
      exact ⟨by simp, by (exact belQ)⟩
  · rw [e1] at HE hlt
    have hl := hlt rfl
    obtain ⟨b, off, t, hA, hb, ht, q0, q1, q2, q3⟩ := h.tok hl
    rw [textP_at ht] at HE
    rw [hA] at c0
    have h1 : ((s.pos + a : Nat) : Int) < (p.e.toks.length : Int) := by omega
    have h0 : (0 : Int) ≤ ((s.pos + a : Nat) : Int) := by omega
    have hC := fun k => contains_c (w := w.drewN k) (c := c) t.text (hr.keep fun _ _ => rfl) (by unfold maxLen; omega)
    rw [e1] at k1
    clear e1 hlt ht hA hl q0 q2 q3 k4
    go_enter Tryz.func130, Tryz.ntmps130
    go_wp2_with (first | (go_at_call 186; with_reducible refine k1.mono ?_; rintro e w1 ⟨rfl, rfl⟩))
    go_quiet ((go_at_call 187; exact Calls.quiet_of_same (hC _)))
    go_wp2_with fail
    refine bodyPost_ret (by simp [results, Tryz.results130, go_sem]; rfl) rfl ?_
    unfold BPost
    rw [HE.out]
    exact ⟨by simp, by (exact belQ)⟩
theorem fail_t {e : Src} {s : Ps} (h : s.failed = true) : s.fail e = { s with pos := e.toks.length } := by
  unfold Ps.fail
  simp [h]
theorem fail_f {e : Src} {s : Ps} {z : Int} (h : s.failed = false) (hz : (match e.toks[s.pos]? with | some t => t.pos | none => e.fin) = z) : s.fail e = { { { s with failed := true } with off := z } with pos := e.toks.length } := by
  unfold Ps.fail
  rw [if_neg (by simp [h])]
  subst hz
  rfl
theorem fail_c {p : Pp} {w : World} {s : Ps} {rv : Value} (h : PsAt p w s rv) : Calls Tryz.prog 20 #[.pointer (some ⟨p.pb, 0, none⟩)] w (GoPost p w (s.fail p.e) rv (.tuple #[])) := by
  have hok := h.ok
  have hfew := h.few
  have HP := Lib.hid h
  obtain ⟨⟨c0, c1, c2, c3, c4, -⟩, ⟨-, f1, -, f3, f4, -⟩⟩ := h.cells
  have fin : ∀ (w1 : World) (s1 : Ps), PsAt p w1 s1 rv → PFr (· = p.pb) w w1 → s.fail p.e = { s1 with pos := p.e.toks.length } → GoPost p w (s.fail p.e) rv (.tuple #[]) (.returned (.tuple #[])) (w1.setCell ⟨p.pb, 1, none⟩ (.int .i64 (p.e.toks.length : Int))) := by
    intro w1 s1 h1 h2 h3
    unfold GoPost
    rw [h3]
    exact ⟨rfl, h1.setPos _ (Nat.le_refl _), by (exact pfrQ)⟩
  cases e3 : s.failed
  · have HF := fun z => fail_f (e := p.e) (z := z) e3
    rw [e3] at c3
    go_enter Tryz.func20, Tryz.ntmps20
    go_wp2_with fail
    obtain ⟨w1, hw1⟩ : ∃ w1, (w.setCell ⟨p.pb, 3, none⟩ (.bool true)).setCell ⟨p.pb, 4, none⟩ (.int .i64 p.e.fin) = w1 := ⟨_, rfl⟩
    have P1 := (HP.out.setFailed true).setOff p.e.fin
    have F1 : PFr (· = p.pb) w ((w.setCell ⟨p.pb, 3, none⟩ (.bool true)).setCell ⟨p.pb, 4, none⟩ (.int .i64 p.e.fin)) := by (exact pfrQ)
    rw [hw1] at P1 F1 ⊢
    clear hw1 c0 c1 c2 c3 c4 f1 f3 f4 e3 HP
    have HP1 := Lib.hid P1
    obtain ⟨⟨c0, c1, c2, c3, c4, -⟩, ⟨-, f1, -, f3, f4, -⟩⟩ := P1.cells
    simp only at c1 c3 c4
    by_cases hl : s.pos < p.e.toks.length
    · obtain ⟨b, off, t, hA, hb, ht, q0, q1, q2, q3⟩ := P1.tok hl
      have HA := Lib.hid hA
      rw [hA] at c0
      clear hA
      have h1 : (s.pos : Int) < (p.e.toks.length : Int) := by omega
      have h0 : (0 : Int) ≤ (s.pos : Int) := by omega
      have hne : b ≠ p.pb := by omega
      have HF2 := Lib.hid (HF t.pos (by rw [ht]))
      clear ht q0 q1 q2 HF P1
      go_quiet (fail)
      go_wp2_with fail
      rename_i nq
      have P2 := HP1.out.drewN nq
      have F2 := F1.drewN nq
      rw [show w1.cell? = (w1.drewN nq).cell? from rfl] at q3
      generalize w1.drewN nq = w2 at P2 F2 q3 ⊢
      clear HP1 F1 f1 f3 f4 c0 c1 c2 c3 c4
      obtain ⟨⟨c0, c1, -, -, -, -⟩, ⟨-, -, -, -, f4, -⟩⟩ := P2.cells
      rw [HA.out] at c0
      go_still_tail 14, (by kernel_rfl)
      change wpList _ _ _ _ _ w2.drew
      have P3 := P2.drew
      have F3 := F2.drew
      clear c0 c1 f4 q3 P2 F2
      generalize w2.drew = w3 at P3 F3 ⊢
      obtain ⟨⟨-, -, -, -, e4, -⟩, ⟨-, -, -, -, f4, -⟩⟩ := P3.cells
      obtain ⟨⟨c0, c1, -, -, -, -⟩, ⟨-, f1, -, -, -, -⟩⟩ := (P3.setOff t.pos).cells
      go_wp2_with fail
      go_end0
      exact fin _ _ (P3.setOff _) (by (exact pfrQ)) HF2.out
    · have h1 : ¬ (s.pos : Int) < (p.e.toks.length : Int) := by omega
      have HF2 := Lib.hid (HF p.e.fin (by rw [List.getElem?_eq_none (by omega)]))
      clear hl HF P1
      go_quiet (fail)
      go_wp2_with fail
      go_end0
      exact fin _ _ (HP1.out.drewN _) (F1.drewN _) HF2.out
  · have HF := Lib.hid (fail_t (e := p.e) e3)
    rw [e3] at c3
    clear e3
    go_enter Tryz.func20, Tryz.ntmps20
    go_wp2_with fail
    go_end0
    exact fin _ _ HP.out (PFr.refl _ _) HF.out
section
variable {p : Pp} {w : World} {s : Ps} {rv : Value}
theorem isKind0_c (h : PsAt p w s rv) (k : Int) : Calls Tryz.prog 186 #[.pointer (some ⟨p.pb, 0, none⟩), .int .i64 0, .int .i64 k] w fun e w' => e = .returned (.bool (isKindP p.e s 0 k)) ∧ w' = w := isKind_c h 0 (by omega) k
theorem isKind1_c (h : PsAt p w s rv) (k : Int) : Calls Tryz.prog 186 #[.pointer (some ⟨p.pb, 0, none⟩), .int .i64 1, .int .i64 k] w fun e w' => e = .returned (.bool (isKindP p.e s 1 k)) ∧ w' = w := isKind_c h 1 (by omega) k
theorem is0_c (h : PsAt p w s rv) {A : Option Addr} {n c B : Nat} (ws : List Bs) (hr : RowB w B A n ws) (hn : n ≤ 100) : Calls Tryz.prog 130 #[.pointer (some ⟨p.pb, 0, none⟩), .int .i64 0, .slice A n c] w (BPost w (isP p.e s 0 ws)) := is_c h 0 (by omega) ws hr hn
theorem is1_c (h : PsAt p w s rv) {A : Option Addr} {n c B : Nat} (ws : List Bs) (hr : RowB w B A n ws) (hn : n ≤ 100) : Calls Tryz.prog 130 #[.pointer (some ⟨p.pb, 0, none⟩), .int .i64 1, .slice A n c] w (BPost w (isP p.e s 1 ws)) := is_c h 1 (by omega) ws hr hn
theorem acceptP_t {e : Src} {s : Ps} {ws : List Bs} (h : isP e s 0 ws = true) : acceptP e s ws = (true, { s with pos := s.pos + 1 }) := by unfold acceptP; rw [if_pos h]
theorem acceptP_f {e : Src} {s : Ps} {ws : List Bs} (h : isP e s 0 ws = false) : acceptP e s ws = (false, s) := by unfold acceptP; rw [if_neg (by simp [h])]
theorem expectP_t {e : Src} {s : Ps} {ws : List Bs} {t : Tk} (h : isP e s 0 ws = true) (ht : e.toks[s.pos]? = some t) : expectP e s ws = (t.text, { s with pos := s.pos + 1 }) := by unfold expectP; rw [if_pos h, textP_at ht]
theorem expectP_f {e : Src} {s : Ps} {ws : List Bs} (h : isP e s 0 ws = false) : expectP e s ws = ([], s.fail e) := by unfold expectP; rw [if_neg (by simp [h])]
theorem takeP_t {e : Src} {s : Ps} {k : Int} {t : Tk} (h : isKindP e s 0 k = true) (ht : e.toks[s.pos]? = some t) : takeP e s k = (t, { s with pos := s.pos + 1 }) := by
  unfold takeP
  rw [if_pos h, List.getD_eq_getElem?_getD, ht]
  rfl
theorem takeP_f {e : Src} {s : Ps} {k : Int} (h : isKindP e s 0 k = false) : takeP e s k = (Tk.zero, s.fail e) := by unfold takeP; rw [if_neg (by simp [h])]
theorem accept_c (h : PsAt p w s rv) {A : Option Addr} {n c B : Nat} (ws : List Bs) (hr : RowB w B A n ws) (hn : n ≤ 100) : Calls Tryz.prog 142 #[.pointer (some ⟨p.pb, 0, none⟩), .slice A n c] w (GoPost p w (acceptP p.e s ws).2 rv (.bool (acceptP p.e s ws).1)) := by
  have hok := h.ok
  have hfew := h.few
  have hI := is_c (c := c) h 0 (by omega) ws hr hn
  have HP := Lib.hid h
  clear h
  unfold BPost at hI
  cases hi : isP p.e s 0 ws
  · rw [acceptP_f hi]
    rw [hi] at hI
    clear hi
    go_enter Tryz.func142, Tryz.ntmps142
    go_wp2_with (go_at_call 130; refine hI.mono ?_; rintro e w1 ⟨rfl, hb1⟩)
    go_ret
    exact ⟨rfl, HP.out.below hb1, PFr.of_below hb1⟩
  · rw [acceptP_t hi]
    rw [hi] at hI
    have hlt := isP_lt hi
    have hw : IntKind.i64.wrap ((s.pos : Int) + 1) = ((s.pos + 1 : Nat) : Int) := by rw [IntWalk.i64_in _ (by omega)]; omega
    clear hi
    go_enter Tryz.func142, Tryz.ntmps142
    go_wp2_with (go_at_call 130; refine hI.mono ?_; rintro e w1 ⟨rfl, hb1⟩; obtain ⟨⟨-, c1, -, -, -, -⟩, ⟨-, f1, -, -, -, -⟩⟩ := (HP.out.below hb1).cells)
    go_ret
    exact ⟨rfl, (HP.out.below hb1).setPos _ hlt, by (exact pfrQ)⟩
theorem expect_c (h : PsAt p w s rv) {A : Option Addr} {n c B : Nat} (ws : List Bs) (hr : RowB w B A n ws) (hn : n ≤ 100) : Calls Tryz.prog 88 #[.pointer (some ⟨p.pb, 0, none⟩), .slice A n c] w (GoPost p w (expectP p.e s ws).2 rv (.string ⟨(expectP p.e s ws).1.toArray⟩)) := by
  have hok := h.ok
  have hfew := h.few
  have hI := accept_c (c := c) h ws hr hn
  have HP := Lib.hid h
  unfold GoPost at hI
  cases hi : isP p.e s 0 ws
  · rw [expectP_f hi]
    rw [acceptP_f hi] at hI
    clear hi h
    simp only at hI
    go_enter Tryz.func88, Tryz.ntmps88
    go_wp2_with (first
      | (go_at_call 142; refine hI.mono ?_; rintro e w1 ⟨rfl, P1, F1⟩)
      | (go_at_call 20; refine (fail_c P1).mono ?_; rintro e w2 ⟨rfl, P2, F2⟩))
    go_ret
    exact ⟨rfl, P2, F1.trans F2 fun _ _ x => x⟩
  · have hlt := isP_lt hi
    obtain ⟨b, off, t, hA, hb, ht, q0, q1, q2, q3⟩ := h.tok (k := s.pos) (by omega)
    rw [expectP_t hi ht]
    rw [acceptP_t hi] at hI
    have HT := Lib.hid ht
    simp only at hI
    have hw : IntKind.i64.wrap (((s.pos + 1 : Nat) : Int) - 1) = (s.pos : Int) := by rw [IntWalk.i64_in _ (by omega)]; omega
    have h0 : (0 : Int) ≤ (s.pos : Int) := by omega
    have h1 : (s.pos : Int) < (p.e.toks.length : Int) := by omega
    clear hi ht h q0 q1 q2 q3 hlt
    go_enter Tryz.func88, Tryz.ntmps88
    go_wp2_with (first
      | (go_at_call 142; refine hI.mono ?_; rintro e w1 ⟨rfl, P1, F1⟩; obtain ⟨⟨c0, c1, -, -, -, -⟩, -⟩ := P1.cells))
    obtain ⟨b', off', t', hA', -, ht', q0, q1, q2, q3⟩ := P1.tok (k := s.pos) (by omega)
    rw [HT.out] at ht'
    injection ht' with ht'
    subst ht'
    rw [hA'] at c0
    go_quiet (fail)
    go_wp2_with fail
    go_ret
    exact ⟨rfl, P1.drewN _, F1.drewN _⟩
theorem take_c (h : PsAt p w s rv) (k : Int) : Calls Tryz.prog 241 #[.pointer (some ⟨p.pb, 0, none⟩), .int .i64 k] w (GoPost p w (takeP p.e s k).2 rv (.agg #[.int .i64 ((takeP p.e s k).1).kind, .string ⟨((takeP p.e s k).1).text.toArray⟩, .int .i64 ((takeP p.e s k).1).int, .int .i64 ((takeP p.e s k).1).pos])) := by
  have hok := h.ok
  have hfew := h.few
  cases hi : isKindP p.e s 0 k
  · rw [takeP_f hi]
    go_enter Tryz.func241, Tryz.ntmps241
    go_wp2_with fail
    obtain ⟨z, w0, ez, ew, P0, F0, hz, hge, hgt, hlz⟩ := alloc_ex h (· = p.pb) #[.int .i64 0, .string ⟨#[]⟩, .int .i64 0, .int .i64 0] 100
    rw [ew, ez]
    clear ez ew
    have hI := isKind_c P0 0 (by omega) k
    rw [hi] at hI
    clear hi h
    go_wp2_with (first
      | (go_at_call 186; refine hI.mono ?_; rintro e w1 ⟨rfl, rfl⟩)
      | (go_at_call 20; refine (fail_c P0).mono ?_; rintro e w2 ⟨rfl, P2, F2⟩; have hz2 := (F2.block z hlz (by omega)).trans hz; obtain ⟨hcB, hfB⟩ := blk_cells (hz2); have d0 := hcB 0; have df0 := hfB 0; have d1 := hcB 1; have df1 := hfB 1; have d2 := hcB 2; have df2 := hfB 2; have d3 := hcB 3; have df3 := hfB 3; clear hcB hfB))
    refine bodyPost_ret (by simp [results, Tryz.results241, go_sem, d0, d1, d2, d3]; rfl) rfl ?_
    exact ⟨rfl, P2.far hz2 (by decide) hgt (by (exact pfrQ)), PFr.trans (F0.trans F2 fun _ _ x => x) (S' := (· = z)) (by (exact pfrQ)) fun k hk e => by omega⟩
  · have hlt := isKindP_lt hi
    obtain ⟨b, off, t, hA, hb, ht, q0, q1, q2, q3⟩ := h.tok (k := s.pos) (by omega)
    rw [takeP_t hi ht]
    have HT := Lib.hid ht
    have hw : IntKind.i64.wrap ((s.pos : Int) + 1 - 1) = (s.pos : Int) := by rw [IntWalk.i64_in _ (by omega)]; omega
    have hw1 : IntKind.i64.wrap ((s.pos : Int) + 1) = (s.pos : Int) + 1 := IntWalk.i64_in _ (by omega)
    have h0 : (0 : Int) ≤ (s.pos : Int) := by omega
    have h1 : (s.pos : Int) < (p.e.toks.length : Int) := by omega
    go_enter Tryz.func241, Tryz.ntmps241
    go_wp2_with fail
    obtain ⟨z, w0, ez, ew, P0, F0, hz, hge, hgt, hlz⟩ := alloc_ex h (· = p.pb) #[.int .i64 0, .string ⟨#[]⟩, .int .i64 0, .int .i64 0] 100
    rw [ew, ez]
    clear ez ew
    have hI := isKind_c P0 0 (by omega) k
    rw [hi] at hI
    obtain ⟨⟨-, c1, -, -, -, -⟩, ⟨-, f1, -, -, -, -⟩⟩ := P0.cells
    have P1 := P0.setNext (by omega)
    have F1 : PFr (· = p.pb) w (w0.setCell ⟨p.pb, 1, none⟩ (.int .i64 ((s.pos : Int) + 1))) := by (exact pfrQ)
    have F2 : PFr (· = p.pb) w0 (w0.setCell ⟨p.pb, 1, none⟩ (.int .i64 ((s.pos : Int) + 1))) := by (exact pfrQ)
    have hz1 := (F2.block z hlz (by omega)).trans hz
    clear hi ht h q0 q1 q2 q3 hlt F0 F2 hz hA
    go_wp2_with (first
      | (go_at_call 186; refine hI.mono ?_; rintro e w1 ⟨rfl, rfl⟩))
    clear hI P0 c1 f1
    have hlz1 : z < (w1.setCell ⟨p.pb, 1, none⟩ (.int .i64 ((s.pos : Int) + 1))).heap.size := by simpa [World.setCell] using hlz
    generalize w1.setCell _ _ = w2 at P1 F1 hz1 hlz1 ⊢
    clear hlz
    obtain ⟨⟨d0, d1, -, -, -, -⟩, -⟩ := P1.cells
    obtain ⟨b', off', t', hA', -, ht', q0, q1, q2, q3⟩ := P1.tok (k := s.pos) (by omega)
    rw [HT.out] at ht'
    injection ht' with ht'
    subst ht'
    rw [hA'] at d0
    have d1' : w2.cell? ⟨p.pb, 1, none⟩ = some (.int .i64 ((s.pos : Int) + 1)) := d1
    clear d1
    clear hA'
    have hw2 : IntKind.i64.wrap (s.pos : Int) = (s.pos : Int) := IntWalk.i64_in _ (by omega)
    go_still_tail 11, (by kernel_rfl)
    change wpList _ _ _ _ _ w2.drew
    have P3 := P1.drew
    have F3 := F1.drew
    have hz3 : w2.drew.heap[z]? = _ := hz1
    clear P1 F1 hz1 d0 d1' q0 q1 q2 q3
    generalize w2.drew = w3 at P3 F3 hz3 ⊢
    obtain ⟨hcB, hfB⟩ := blk_cells (hz3); have d0 := hcB 0; have df0 := hfB 0; have d1 := hcB 1; have df1 := hfB 1; have d2 := hcB 2; have df2 := hfB 2; have d3 := hcB 3; have df3 := hfB 3; clear hcB hfB
    go_wp2_with fail
    refine bodyPost_ret (by simp [results, Tryz.results241, go_sem, d0, d1, d2, d3]; rfl) rfl ?_
    exact ⟨rfl, P3.far hz3 (by decide) hgt (by (exact pfrQ)), PFr.trans F3 (S' := (· = z)) (by (exact pfrQ)) fun k hk e => by omega⟩
end
def nodeC (t : T) (v : Value) : Array Value := #[.int .i64 t.op, .int .i64 t.v.k, .int .i64 t.v.n, .string t.v.s, .int .i64 t.c, v]
def ptrV (a : Nat) : Value := .pointer (some ⟨a, 0, none⟩)
def SlP (B : Nat → Prop) (w : World) (v : Value) (l : List Nat) : Prop :=
  (l = [] ∧ ∃ A c, v = .slice A 0 c) ∨ ∃ (g cap : Nat) (cur : Array Value), B g ∧ v = .slice (some ⟨g, 0, none⟩) l.length cap ∧ l ≠ [] ∧ w.heap[g]? = some (.cells cur 70 (0, 0)) ∧ l.length ≤ cap ∧ cap ≤ maxLen ∧ ∀ (i a : Nat), l[i]? = some a → cur[i]? = some (ptrV a)
mutual
def TreeAt (B : Nat → Prop) (w : World) : X → Nat → Prop
  | .node t ks, a => B a ∧ ∃ (v : Value) (l : List Nat), w.heap[a]? = some (.cells (nodeC t v) 138 (0, 0)) ∧ SlP B w v l ∧ KidsAt B w ks l
def KidsAt (B : Nat → Prop) (w : World) : List X → List Nat → Prop
  | [], l => l = []
  | x :: ks, l => ∃ a m, l = a :: m ∧ TreeAt B w x a ∧ KidsAt B w ks m
end
def KeepO (T : List TypeId) (w w' : World) : Prop := ∀ (k : Nat) (cs : Array Value) (te : TypeId), w.heap[k]? = some (.cells cs te (0, 0)) → te ∉ T → w'.heap[k]? = w.heap[k]?
def TX : List TypeId := [69, 105]
structure KT (T : List TypeId) : Prop where
  node : 138 ∉ T
  row : 70 ∉ T
theorem kt_TX : KT TX := ⟨by decide, by decide⟩
def KeepB (B : Nat → Prop) (T : List TypeId) (w w' : World) : Prop := ∀ (k : Nat) (cs : Array Value) (te : TypeId), B k → w.heap[k]? = some (.cells cs te (0, 0)) → te ∉ T → w'.heap[k]? = w.heap[k]?
theorem KeepO.b {B : Nat → Prop} {T : List TypeId} {w w' : World} (h : KeepO T w w') : KeepB B T w w' := fun k cs te _ => h k cs te
theorem SlP.keep {B B' : Nat → Prop} {w w' : World} {T : List TypeId} (hT : KT T) (hB : ∀ k, B k → k < w.heap.size → B' k) (hk : KeepB B T w w') {v : Value} {l : List Nat} (h : SlP B w v l) : SlP B' w' v l := by
  rcases h with h | ⟨g, cap, cur, hb, h1, h2, h3, h4⟩
  · exact .inl h
  · refine .inr ⟨g, cap, cur, hB g hb ?_, h1, h2, (hk g _ _ hb h3 hT.row).trans h3, h4⟩
    rcases Nat.lt_or_ge g w.heap.size with hl | hl
    · exact hl
    · rw [Array.getElem?_eq_none hl] at h3; cases h3
mutual
theorem TreeAt.keep {B B' : Nat → Prop} {w w' : World} {T : List TypeId} (hT : KT T) (hB : ∀ k, B k → k < w.heap.size → B' k) (hk : KeepB B T w w') : ∀ (x : X) (a : Nat), TreeAt B w x a → TreeAt B' w' x a
  | .node t ks, a, h => by
    unfold TreeAt at h ⊢
    obtain ⟨hb, v, l, h1, h2, h3⟩ := h
    refine ⟨hB a hb ?_, v, l, (hk a _ _ hb h1 hT.node).trans h1, h2.keep hT hB hk, KidsAt.keep hT hB hk ks l h3⟩
    rcases Nat.lt_or_ge a w.heap.size with hl | hl
    · exact hl
    · rw [Array.getElem?_eq_none hl] at h1; cases h1
theorem KidsAt.keep {B B' : Nat → Prop} {w w' : World} {T : List TypeId} (hT : KT T) (hB : ∀ k, B k → k < w.heap.size → B' k) (hk : KeepB B T w w') : ∀ (ks : List X) (l : List Nat), KidsAt B w ks l → KidsAt B' w' ks l
  | [], l, h => by unfold KidsAt at h ⊢; exact h
  | x :: ks, l, h => by
    unfold KidsAt at h ⊢
    obtain ⟨a, m, h1, h2, h3⟩ := h
    exact ⟨a, m, h1, TreeAt.keep hT hB hk x a h2, KidsAt.keep hT hB hk ks m h3⟩
end
theorem KeepO.trans {T : List TypeId} {a b c : World} (h : KeepO T a b) (h2 : KeepO T b c) : KeepO T a c := fun k cs te hk ht => by
  have h3 := h k cs te hk ht
  exact (h2 k cs te (h3.trans hk) ht).trans h3
theorem KeepO.of_below {T : List TypeId} {w w' : World} (hb : Below w.heap.size w w') : KeepO T w w' := fun k cs te hk _ => hb.block k (by
  rcases Nat.lt_or_ge k w.heap.size with hl | hl
  · exact hl
  · rw [Array.getElem?_eq_none hl] at hk; cases hk)
theorem kids_snoc {B : Nat → Prop} {w : World} : ∀ {ks : List X} {l : List Nat} {x : X} {a : Nat}, KidsAt B w ks l → TreeAt B w x a → KidsAt B w (ks ++ [x]) (l ++ [a])
  | [], l, x, a, h, h2 => by
    unfold KidsAt at h
    subst h
    show KidsAt B w (x :: []) (a :: [])
    unfold KidsAt
    exact ⟨a, [], rfl, h2, by unfold KidsAt; rfl⟩
  | y :: ks, l, x, a, h, h2 => by
    unfold KidsAt at h
    obtain ⟨b, m, rfl, h3, h4⟩ := h
    show KidsAt B w (y :: (ks ++ [x])) (b :: (m ++ [a]))
    unfold KidsAt
    exact ⟨b, m ++ [a], rfl, h3, kids_snoc h4 h2⟩
theorem KidsAt.len {B : Nat → Prop} {w : World} : ∀ {ks : List X} {l : List Nat}, KidsAt B w ks l → l.length = ks.length
  | [], l, h => by unfold KidsAt at h; subst h; rfl
  | x :: ks, l, h => by
    unfold KidsAt at h
    obtain ⟨a, m, rfl, _, h3⟩ := h
    simp [KidsAt.len h3]
def From (lo k : Nat) : Prop := lo ≤ k
def SX (p : Pp) (rv : Value) (k : Nat) : Prop := k = p.pb ∨ rv.ownBlock = some k
structure St (p : Pp) (w0 : World) (rv0 : Value) (w : World) (s : Ps) (rv : Value) : Prop where
  at_ : PsAt p w s rv
  fr : PFr (SX p rv0) w0 w
  own : ∀ k, rv.ownBlock = some k → k < w0.heap.size → rv0.ownBlock = some k
section
variable {p : Pp} {w0 w w' : World} {rv0 rv rv' : Value} {s s' : Ps}
theorem St.refl (h : PsAt p w s rv) : St p w rv w s rv := ⟨h, PFr.refl _ _, fun _ h _ => h⟩
theorem St.trans (h : St p w0 rv0 w s rv) (h2 : St p w rv w' s' rv') : St p w0 rv0 w' s' rv' :=
  ⟨h2.at_, h.fr.trans h2.fr fun k hk hs => by
    rcases hs with hs | hs
    · exact .inl hs
    · exact .inr (h.own k hs hk), fun k hk hl => h.own k (h2.own k hk (Nat.lt_of_lt_of_le hl h.fr.size)) hl⟩
theorem St.go (h : St p w0 rv0 w s rv) (h1 : PsAt p w' s' rv) (h2 : PFr (· = p.pb) w w') : St p w0 rv0 w' s' rv :=
  h.trans ⟨h1, h2.mono fun _ _ e => .inl e, fun _ h _ => h⟩
theorem St.below (h : St p w0 rv0 w s rv) (hb : Below w.heap.size w w') : St p w0 rv0 w' s rv := h.go (h.at_.below hb) (PFr.of_below hb)
theorem St.alloc (h : St p w0 rv0 w s rv) (o : Obj) : St p w0 rv0 (w.alloc o) s rv := h.below ((Below.refl w.heap.size w).alloc (Nat.le_refl _) o)
theorem St.drew (h : St p w0 rv0 w s rv) : St p w0 rv0 w.drew s rv := h.below (Below.refl _ _).drew
theorem ref_blk {base n : Nat} {e : TypeId} {size : Nat} {v : Value} {xs : List Value} {k : Nat} (h : w.ownsRow base e size v n xs) (hk : v.ownBlock = some k) : ∃ cur, w.heap[k]? = some (.cells cur e (0, 0)) := by
  rcases h.2 with ⟨rfl, _⟩ | ⟨g, cap, cur, rfl, _, h5, _⟩
  · cases hk
  · simp only [Value.ownBlock] at hk
    injection hk with hk
    subst hk
    exact ⟨cur, h5⟩
theorem heap_lt {w : World} {k : Nat} {o : Obj} (hk : w.heap[k]? = some o) : k < w.heap.size := by
  rcases Nat.lt_or_ge k w.heap.size with hl | hl
  · exact hl
  · rw [Array.getElem?_eq_none hl] at hk; cases hk
theorem PsAt.keepO (h : PsAt p w s rv) (hf : PFr (SX p rv) w w') : KeepO TX w w' := fun k cs te hk ht => by
  refine hf.block k (heap_lt hk) ?_
  rintro (rfl | hs)
  · rw [h.blk] at hk
    injection hk with hk
    injection hk with _ hk
    subst hk
    exact ht (by decide)
  · obtain ⟨cur, hc⟩ := ref_blk h.refs hs
    rw [hc] at hk
    injection hk with hk
    injection hk with _ hk
    subst hk
    exact ht (by decide)
theorem St.keepO (h : St p w0 rv0 w s' rv) (h0 : PsAt p w0 s rv0) : KeepO TX w0 w := h0.keepO h.fr
theorem PsAt.keep_go (h : PsAt p w s rv) (h2 : PFr (· = p.pb) w w') : KeepO TX w w' := h.keepO (h2.mono fun _ _ e => .inl e)
theorem flat_str (ws : List Bs) : (ws.flatMap fun l => [strV l]) = ws.map strV := by
  induction ws with
  | nil => rfl
  | cons a l ih => rw [List.flatMap_cons, ih]; rfl
theorem KeepO.words {T : List TypeId} (hk : KeepO T w w') (hT : 9 ∉ T) {g : Nat} {cs : Array Value} (h : w.heap[g]? = some (.cells cs 9 (0, 0))) : w'.heap[g]? = some (.cells cs 9 (0, 0)) := (hk g _ _ h hT).trans h
theorem words_row {g n : Nat} {cs : Array Value} {te : TypeId} {ws : List Bs} (h : w.heap[g]? = some (.cells cs te (0, 0))) (hc : cs.toList = ws.map strV) (hn : ws.length = n) : RowB w w.heap.size (some ⟨g, 0, none⟩) n ws := by
  refine ⟨hn, fun _ => ⟨g, 0, rfl, heap_lt h, fun j u hu => ?_⟩⟩
  rw [cell_of_row w g (0 + j) cs te (0, 0) h, Nat.zero_add]
  have : (ws.flatMap fun l => [strV l]) = cs.toList := by rw [hc, flat_str]
  rw [this] at hu
  simpa using hu
end
def NodePost (p : Pp) (w : World) (rv : Value) (x : X) (s' : Ps) (e : Ending) (w' : World) : Prop :=
  ∃ a rv', e = .returned (ptrV a) ∧ St p w rv w' s' rv' ∧ TreeAt (From w.heap.size) w' x a
theorem tree_new {B : Nat → Prop} {w : World} {op : Int} {v : Value} {ks : List X} {l : List Nat} {a : Nat} {x : V} {c : Int} (hb : B a) (h : w.heap[a]? = some (.cells (nodeC ⟨op, x, c⟩ v) 138 (0, 0))) (hs : SlP B w v l) (hk : KidsAt B w ks l) : TreeAt B w (.node ⟨op, x, c⟩ ks) a := by
  unfold TreeAt
  exact ⟨hb, v, l, h, hs, hk⟩
theorem TreeAt.keep1 {lo : Nat} {w w' : World} {x : X} {a : Nat} (h : TreeAt (From lo) w x a) (hk : KeepO TX w w') : TreeAt (From lo) w' x a := TreeAt.keep kt_TX (fun _ h _ => h) hk.b x a h
theorem TreeAt.mono {lo lo' : Nat} {w : World} {x : X} {a : Nat} (h : TreeAt (From lo) w x a) (hl : lo' ≤ lo) : TreeAt (From lo') w x a := TreeAt.keep kt_TX (fun _ h _ => Nat.le_trans hl h) (fun _ _ _ _ _ _ => rfl) x a h
theorem SlP.below {B : Nat → Prop} {w w' : World} {v : Value} {l : List Nat} (h : SlP B w v l) (hb : Below w.heap.size w w') : SlP B w' v l := h.keep kt_TX (fun _ h _ => h) (KeepO.of_below hb).b
theorem TreeAt.below {B : Nat → Prop} {w w' : World} {x : X} {a : Nat} (h : TreeAt B w x a) (hb : Below w.heap.size w w') : TreeAt B w' x a := TreeAt.keep kt_TX (fun _ h _ => h) (KeepO.of_below hb).b x a h
theorem KidsAt.below {B : Nat → Prop} {w w' : World} {ks : List X} {l : List Nat} (h : KidsAt B w ks l) (hb : Below w.heap.size w w') : KidsAt B w' ks l := KidsAt.keep kt_TX (fun _ h _ => h) (KeepO.of_below hb).b ks l h
end Go.Proofs.YtpnfbehbheddeaaGreatDoor
