/- The parser in memory: where it lies and what it holds. No condition. Contracts of the parser's small methods. No condition beyond the parser's state. Contracts of the parser's accept, expect, take and their kin. No condition beyond the parser's state; at most 100 words. -/
import Derived.Test.YtpnfbehbheddeaaGreatDoorBn03
import Derived.StillTailTactics
namespace Go.Proofs.YtpnfbehbheddeaaGreatDoor
set_option maxRecDepth 100000
set_option maxHeartbeats 8000000
set_option linter.unusedVariables false
set_option linter.unusedSimpArgs false
open Go.RowKit
structure PFr (S : Nat → Prop) (w w' : World) : Prop where
  os : w'.os = w.os
  tape : w'.tape = w.tape
  output : w'.output = w.output
  size : w.heap.size ≤ w'.heap.size
  block : ∀ k, k < w.heap.size → ¬ S k → w'.heap[k]? = w.heap[k]?
section
variable {S S' : Nat → Prop} {a w w' : World}
theorem PFr.refl (S : Nat → Prop) (w : World) : PFr S w w := ⟨rfl, rfl, rfl, Nat.le_refl _, fun _ _ _ => rfl⟩
theorem PFr.trans (h : PFr S a w) (h2 : PFr S' w w') (hS : ∀ k, k < a.heap.size → S' k → S k) : PFr S a w' :=
  ⟨h2.os.trans h.os, h2.tape.trans h.tape, h2.output.trans h.output, Nat.le_trans h.size h2.size, fun k hk hn => (h2.block k (Nat.lt_of_lt_of_le hk h.size) fun x => hn (hS k hk x)).trans (h.block k hk hn)⟩
theorem PFr.mono (h : PFr S' a w) (hS : ∀ k, k < a.heap.size → S' k → S k) : PFr S a w := ⟨h.os, h.tape, h.output, h.size, fun k hk hn => h.block k hk fun x => hn (hS k hk x)⟩
theorem PFr.of_below (h : Below a.heap.size a w) : PFr S a w := ⟨h.os, h.tape, h.output, h.size, fun k hk _ => h.block k hk⟩
theorem PFr.drew (h : PFr S a w) : PFr S a w.drew := ⟨h.os, h.tape, h.output, h.size, h.block⟩
theorem PFr.drewN (h : PFr S a w) (n : Nat) : PFr S a (w.drewN n) := ⟨h.os, h.tape, h.output, h.size, h.block⟩
theorem PFr.step (hb : Below w.heap.size w w') (h : PFr S a w) : PFr S a w' := h.trans (PFr.of_below (S := S) hb) fun _ _ x => x
theorem PFr.alloc (h : PFr S a w) (o : Obj) : PFr S a (w.alloc o) := h.step ((Below.refl w.heap.size w).alloc (Nat.le_refl _) o)
theorem PFr.setCell {q : Addr} (h : PFr S a w) (hq : S q.block ∨ a.heap.size ≤ q.block) (u : Value) : PFr S a (w.setCell q u) :=
  ⟨h.os, h.tape, h.output, by simpa [World.setCell] using h.size, fun k hk hn => (Below.heap_setCell w q u k (by
    rintro rfl
    rcases hq with hq | hq
    · exact hn hq
    · omega)).trans (h.block k hk hn)⟩
theorem PFr.grown {row : Option Nat} (h : PFr S a w) (hg : w.grownBy w' row) (hr : ∀ k, row = some k → k < a.heap.size → S k) : PFr S a w' :=
  ⟨hg.os.trans h.os, hg.tape.trans h.tape, hg.output.trans h.output, Nat.le_trans h.size hg.size, fun k hk hn => (hg.block k (Nat.lt_of_lt_of_le hk h.size) fun x => hn (hr k x.symm hk)).trans (h.block k hk hn)⟩
end
structure Pp where
  pb : Nat
  TA : Option Addr
  c : Nat
  e : Src
  res : Array Value
def refC (r : Tk × Bool) : List Value := r.1.cells ++ [.bool r.2]
def psC (p : Pp) (s : Ps) (rv : Value) : Array Value := #[.slice p.TA p.e.toks.length p.c, .int .i64 s.pos, .int .i64 p.e.fin, .bool s.failed, .int .i64 s.off, rv] ++ p.res
structure PsAt (p : Pp) (w : World) (s : Ps) (rv : Value) : Prop where
  blk : w.heap[p.pb]? = some (.cells (psC p s rv) 69 (0, 0))
  toks : RowK w p.pb p.TA p.e.toks.length p.e.toks
  ok : s.pos ≤ p.e.toks.length
  few : p.e.toks.length ≤ 100000
  refs : w.ownsRow (p.pb + 1) 105 5 rv s.refs.length (s.refs.flatMap refC)
section
variable {p : Pp} {w w' : World} {s : Ps} {rv : Value}
theorem PsAt.lt (h : PsAt p w s rv) : p.pb < w.heap.size := by
  rcases Nat.lt_or_ge p.pb w.heap.size with hl | hl
  · exact hl
  · have := h.blk
    rw [Array.getElem?_eq_none hl] at this
    cases this
theorem PsAt.below (h : PsAt p w s rv) (hb : Below w.heap.size w w') : PsAt p w' s rv :=
  ⟨(hb.block _ h.lt).trans h.blk, h.toks.below (hb.mono (Nat.le_of_lt h.lt)), h.ok, h.few, own_below h.refs hb⟩
theorem PsAt.alloc (h : PsAt p w s rv) (o : Obj) : PsAt p (w.alloc o) s rv := h.below ((Below.refl w.heap.size w).alloc (Nat.le_refl _) o)
theorem PsAt.drew (h : PsAt p w s rv) : PsAt p w.drew s rv := h.below (Below.refl _ _).drew
theorem PsAt.drewN (h : PsAt p w s rv) (n : Nat) : PsAt p (w.drewN n) s rv := h.below (below_drewN (Below.refl _ _) n)
theorem PsAt.cells (h : PsAt p w s rv) : (w.cell? ⟨p.pb, 0, none⟩ = some (.slice p.TA p.e.toks.length p.c) ∧ w.cell? ⟨p.pb, 1, none⟩ = some (.int .i64 s.pos) ∧ w.cell? ⟨p.pb, 2, none⟩ = some (.int .i64 p.e.fin) ∧ w.cell? ⟨p.pb, 3, none⟩ = some (.bool s.failed) ∧ w.cell? ⟨p.pb, 4, none⟩ = some (.int .i64 s.off) ∧ w.cell? ⟨p.pb, 5, none⟩ = some rv)
   ∧ (w.frozen? ⟨p.pb, 0, none⟩ = false ∧ w.frozen? ⟨p.pb, 1, none⟩ = false ∧ w.frozen? ⟨p.pb, 2, none⟩ = false ∧ w.frozen? ⟨p.pb, 3, none⟩ = false ∧ w.frozen? ⟨p.pb, 4, none⟩ = false ∧ w.frozen? ⟨p.pb, 5, none⟩ = false) := by
  have hc : ∀ i, w.cell? ⟨p.pb, i, none⟩ = (psC p s rv)[i]? := fun i => cell_of_row w p.pb i _ _ (0, 0) h.blk
  have hf : ∀ i, w.frozen? ⟨p.pb, i, none⟩ = false := fun i => by simp [World.frozen?, h.blk]
  refine ⟨⟨?_, ?_, ?_, ?_, ?_, ?_⟩, hf 0, hf 1, hf 2, hf 3, hf 4, hf 5⟩ <;>
  · rw [hc]
    unfold psC
    rw [Array.getElem?_append_left (by simp)]
    rfl
theorem heap_set {w : World} {b i : Nat} {cs : Array Value} {te : TypeId} (h : w.heap[b]? = some (.cells cs te (0, 0))) (u : Value) : (w.setCell ⟨b, i, none⟩ u).heap[b]? = some (.cells (cs.set! i u) te (0, 0)) := by
  simp only [World.setCell, Array.getElem?_modify, h]
  simp
theorem PsAt.set (h : PsAt p w s rv) (i : Nat) (u : Value) (s' : Ps) (hc : (psC p s rv).set! i u = psC p s' rv) (hr : s'.refs = s.refs) (hok : s'.pos ≤ p.e.toks.length) : PsAt p (w.setCell ⟨p.pb, i, none⟩ u) s' rv := by
  have hkeep : ∀ k, k ≠ p.pb → (w.setCell ⟨p.pb, i, none⟩ u).heap[k]? = w.heap[k]? := fun k hk => Below.heap_setCell w ⟨p.pb, i, none⟩ u k hk
  refine ⟨?_, h.toks.keep fun q hq => World.cell?_of_block (hkeep _ (by omega)), hok, h.few, ?_⟩
  · rw [heap_set h.blk, hc]
  · rw [hr]
    refine ⟨h.refs.1, ?_⟩
    rcases h.refs.2 with h2 | ⟨g, cap, cur, h3, h4, h5, h6⟩
    · exact .inl h2
    · exact .inr ⟨g, cap, cur, h3, h4, (hkeep _ (by omega)).trans h5, h6⟩
theorem psC_pos (k : Nat) : (psC p s rv).set! 1 (.int .i64 (k : Int)) = psC p { s with pos := k } rv := by
  unfold psC
  rw [Array.set!_eq_setIfInBounds, Array.setIfInBounds_append_left (by simp)]
  rfl
theorem PsAt.setPos (h : PsAt p w s rv) (k : Nat) (hk : k ≤ p.e.toks.length) : PsAt p (w.setCell ⟨p.pb, 1, none⟩ (.int .i64 (k : Int))) { s with pos := k } rv :=
  h.set 1 _ _ (psC_pos k) rfl hk
theorem PsAt.setNext (h : PsAt p w s rv) (hk : s.pos + 1 ≤ p.e.toks.length) : PsAt p (w.setCell ⟨p.pb, 1, none⟩ (.int .i64 ((s.pos : Int) + 1))) { s with pos := s.pos + 1 } rv := h.setPos (s.pos + 1) hk
theorem psC_failed (b : Bool) : (psC p s rv).set! 3 (.bool b) = psC p { s with failed := b } rv := by
  unfold psC
  rw [Array.set!_eq_setIfInBounds, Array.setIfInBounds_append_left (by simp)]
  rfl
theorem PsAt.setFailed (h : PsAt p w s rv) (b : Bool) : PsAt p (w.setCell ⟨p.pb, 3, none⟩ (.bool b)) { s with failed := b } rv :=
  h.set 3 _ _ (psC_failed b) rfl h.ok
theorem psC_off (z : Int) : (psC p s rv).set! 4 (.int .i64 z) = psC p { s with off := z } rv := by
  unfold psC
  rw [Array.set!_eq_setIfInBounds, Array.setIfInBounds_append_left (by simp)]
  rfl
theorem PsAt.setOff (h : PsAt p w s rv) (z : Int) : PsAt p (w.setCell ⟨p.pb, 4, none⟩ (.int .i64 z)) { s with off := z } rv :=
  h.set 4 _ _ (psC_off z) rfl h.ok
theorem PsAt.tok (h : PsAt p w s rv) {k : Nat} (hk : k < p.e.toks.length) : ∃ b off t, p.TA = some ⟨b, off, none⟩ ∧ b < p.pb ∧ p.e.toks[k]? = some t ∧ w.cell? ⟨b, off + k * 4, none⟩ = some (.int .i64 t.kind) ∧ w.cell? ⟨b, off + k * 4 + 1, none⟩ = some (.string ⟨t.text.toArray⟩) ∧ w.cell? ⟨b, off + k * 4 + 2, none⟩ = some (.int .i64 t.int) ∧ w.cell? ⟨b, off + k * 4 + 3, none⟩ = some (.int .i64 t.pos) :=
  RowK.at4 h.toks hk
end
theorem alloc_ex {p : Pp} {w : World} {s : Ps} {rv : Value} (h : PsAt p w s rv) (S : Nat → Prop) (cs : Array Value) (te : TypeId) :
    ∃ z w0, w.heap.size = z ∧ w.alloc (.cells cs te) = w0 ∧ PsAt p w0 s rv ∧ PFr S w w0 ∧ w0.heap[z]? = some (.cells cs te) ∧ w.heap.size ≤ z ∧ p.pb < z ∧ z < w0.heap.size :=
  ⟨_, _, rfl, rfl, h.alloc _, (PFr.refl S w).alloc _, heap_alloc_new w _, Nat.le_refl _, h.lt, by simp⟩
theorem PsAt.far {p : Pp} {w w' : World} {s : Ps} {rv : Value} {z : Nat} {cs : Array Value} {te : TypeId} (h : PsAt p w s rv) (hz : w.heap[z]? = some (.cells cs te (0, 0))) (hte : te ≠ 105) (hlt : p.pb < z) (hf : PFr (· = z) w w') : PsAt p w' s rv := by
  have hl := h.lt
  refine ⟨(hf.block _ hl (by omega)).trans h.blk, h.toks.keep fun q hq => World.cell?_of_block (hf.block _ (by omega) (by omega)), h.ok, h.few, h.refs.1, ?_⟩
  rcases h.refs.2 with h2 | ⟨g, cap, cur, h3, h4, h5, h6⟩
  · exact .inl h2
  · refine .inr ⟨g, cap, cur, h3, h4, (hf.block _ ?_ ?_).trans h5, h6⟩
    · rcases Nat.lt_or_ge g w.heap.size with hl | hl
      · exact hl
      · rw [Array.getElem?_eq_none hl] at h5; cases h5
    · rintro rfl
      rw [hz] at h5
      injection h5 with h5
      injection h5 with _ h5
      exact hte h5
theorem blk_cells {w : World} {b : Nat} {cs : Array Value} {t : TypeId} (h : w.heap[b]? = some (.cells cs t (0, 0))) : (∀ i, w.cell? ⟨b, i, none⟩ = cs[i]?) ∧ (∀ i, w.frozen? ⟨b, i, none⟩ = false) :=
  ⟨fun i => cell_of_row w b i cs t (0, 0) h, fun i => by simp [World.frozen?, h]⟩
def BPost (w : World) (b : Bool) (e : Ending) (w' : World) : Prop := e = .returned (.bool b) ∧ Below w.heap.size w w'
def GoPost (p : Pp) (w : World) (s' : Ps) (rv : Value) (v : Value) (e : Ending) (w' : World) : Prop := e = .returned v ∧ PsAt p w' s' rv ∧ PFr (· = p.pb) w w'
theorem pfrQ {P : Prop} (h : P := by (repeat (first | (with_reducible exact PFr.refl _ _) | (with_reducible assumption) | (with_reducible refine PFr.drew ?_) | (with_reducible refine PFr.drewN ?_ _) | ((with_reducible refine PFr.setCell ?_ ?_ _); rotate_left; (focus (first | (simp; done) | (simp; omega) | omega | (right; simp; done) | (right; simp; omega) | (right; omega)))) | (with_reducible refine PFr.alloc ?_ _) | ((with_reducible apply PFr.step); (focus (with_reducible assumption)))))) : P := h
theorem kindP_at {e : Src} {s : Ps} {a : Nat} {k : Int} {t : Tk} (h : e.toks[s.pos + a]? = some t) : isKindP e s a k = (t.kind == k) := by unfold isKindP; rw [h]
theorem kindP_off {e : Src} {s : Ps} {a : Nat} {k : Int} (h : ¬ s.pos + a < e.toks.length) : isKindP e s a k = false := by unfold isKindP; rw [List.getElem?_eq_none (by omega)]
theorem isKind_c {p : Pp} {w : World} {s : Ps} {rv : Value} (h : PsAt p w s rv) (a : Nat) (ha : a ≤ 1) (k : Int) : Calls Tryz.prog 186 #[.pointer (some ⟨p.pb, 0, none⟩), .int .i64 (a : Int), .int .i64 k] w fun e w' => e = .returned (.bool (isKindP p.e s a k)) ∧ w' = w := by
  have hok := h.ok
  have hfew := h.few
  obtain ⟨⟨c0, c1, -, -, -, -⟩, -⟩ := h.cells
  have hw : IntKind.i64.wrap ((s.pos : Int) + (a : Int)) = ((s.pos + a : Nat) : Int) := by rw [IntWalk.i64_in _ (by omega)]; omega
  by_cases hl : s.pos + a < p.e.toks.length
  · obtain ⟨b, off, t, hA, hb, ht, q0, q1, q2, q3⟩ := h.tok hl
    rw [hA] at c0
    have h1 : ((s.pos + a : Nat) : Int) < (p.e.toks.length : Int) := by omega
    have h0 : (0 : Int) ≤ ((s.pos + a : Nat) : Int) := by omega
    have HE := Lib.hid (kindP_at (k := k) ht)
    clear ht hA q1 q2 q3
    go_enter Tryz.func186, Tryz.ntmps186
    go_wp2_with fail
    go_ret
    rw [HE.out]
    exact ⟨rfl, rfl⟩
  · have h1 : ¬ ((s.pos + a : Nat) : Int) < (p.e.toks.length : Int) := by omega
    have HE := Lib.hid (kindP_off (k := k) hl)
    clear hl
    go_enter Tryz.func186, Tryz.ntmps186
    go_wp2_with fail
    go_ret
    rw [HE.out]
    exact ⟨rfl, rfl⟩
theorem RowB.at1 {w : World} {B n : Nat} {A : Option Addr} {ss : List Bs} (h : RowB w B A n ss) {k : Nat} (hk : k < n) :
   ∃ b off s, A = some ⟨b, off, none⟩ ∧ b < B ∧ ss[k]? = some s ∧ w.cell? ⟨b, off + k, none⟩ = some (.string ⟨s.toArray⟩) := by
  obtain ⟨b, off, s, h1, h2, h3, h4⟩ := h.at_ 1 (fun _ => rfl) (by omega) hk
  have := h4 0 _ rfl
  rw [Nat.mul_one] at this
  exact ⟨b, off, s, h1, h2, h3, this⟩
def baL (l : Bs) : ByteArray := ⟨l.toArray⟩
theorem baL_inj {a b : Bs} (h : baL a = baL b) : a = b := by
  have := congrArg (fun x : ByteArray => x.data.toList) h
  simpa [baL] using this
theorem contains_map (ws : List Bs) (x : Bs) : Lib.containsS (ws.map baL) (baL x) = ws.contains x := by
  rw [Bool.eq_iff_iff, Lib.containsS_iff, List.contains_iff_mem, List.mem_map]
  exact ⟨fun ⟨y, hy, he⟩ => baL_inj he ▸ hy, fun h => ⟨x, h, rfl⟩⟩
theorem RowB.cells {w : World} {B n : Nat} {b off : Nat} {ws : List Bs} (h : RowB w B (some ⟨b, off, none⟩) n ws) : ∀ j, j < (ws.map baL).length → w.cell? ⟨b, off + j, none⟩ = some (.string ((ws.map baL).getD j ByteArray.empty)) := by
  intro j hj
  rw [List.length_map] at hj
  obtain ⟨b', off', s, e1, _, h2, h3⟩ := h.at1 (k := j) (by have := h.len; omega)
  injection e1 with e1
  injection e1 with e1 e2
  subst e1 e2
  rw [h3, List.getD_eq_getElem?_getD, List.getElem?_map, h2]
  rfl
theorem contains_c {w : World} {B n c : Nat} {A : Option Addr} {ws : List Bs} (x : Bs) (hr : RowB w B A n ws) (hn : n ≤ maxLen) : Calls Tryz.prog 187 #[.slice A n c, .string ⟨x.toArray⟩] w fun e w' => e = .returned (.bool (ws.contains x)) ∧ w' = w := by
  have hl := hr.len
  unfold maxLen at hn
  rcases Nat.eq_zero_or_pos n with h0 | h0
  · subst h0
    have : ws = [] := List.eq_nil_of_length_eq_zero hl
    subst this
    exact Tryz.slices_Contains_string_empty A c _ w
  · obtain ⟨b, off, s, rfl, _⟩ := hr.at1 h0
    have h := Tryz.slices_Contains_string b off n c (ws.map baL) (baL x) w (by rw [List.length_map, hl]; exact Nat.le_refl _) (by omega) hr.cells
    rw [List.take_of_length_le (by rw [List.length_map, hl]; exact Nat.le_refl _), contains_map] at h
    exact h
theorem isP_eq (e : Src) (s : Ps) (a : Nat) (ws : List Bs) : isP e s a ws = ((isKindP e s a 1 || isKindP e s a 4) && ws.contains (textP e (s.pos + a))) := by
  unfold isP isKindP textP
  cases e.toks[s.pos + a]? <;> rfl
theorem textP_at {e : Src} {i : Nat} {t : Tk} (h : e.toks[i]? = some t) : textP e i = t.text := by unfold textP; rw [h]
theorem is_c {p : Pp} {w : World} {s : Ps} {rv : Value} (h : PsAt p w s rv) (a : Nat) (ha : a ≤ 1) {A : Option Addr} {n c B : Nat} (ws : List Bs) (hr : RowB w B A n ws) (hn : n ≤ 100) : Calls Tryz.prog 130 #[.pointer (some ⟨p.pb, 0, none⟩), .int .i64 (a : Int), .slice A n c] w (BPost w (isP p.e s a ws)) := by
  have hok := h.ok
  have hfew := h.few
  obtain ⟨⟨c0, c1, -, -, -, -⟩, -⟩ := h.cells
  have hw : IntKind.i64.wrap ((s.pos : Int) + (a : Int)) = ((s.pos + a : Nat) : Int) := by rw [IntWalk.i64_in _ (by omega)]; omega
  have k1 := isKind_c h a ha 1
  have k4 := isKind_c h a ha 4
  have HE := Lib.hid (isP_eq p.e s a ws)
  have hlt : (isKindP p.e s a 1 || isKindP p.e s a 4) = true → s.pos + a < p.e.toks.length := fun hh => by
    rw [Bool.or_eq_true] at hh
    rcases hh with hh | hh <;> exact isKindP_lt hh
  cases e1 : isKindP p.e s a 1
  · cases e4 : isKindP p.e s a 4
    · rw [e1, e4] at HE
      rw [e1] at k1
      rw [e4] at k4
      clear e1 e4 hlt
      go_enter Tryz.func130, Tryz.ntmps130
      go_wp2_with (first | (go_at_call 186; with_reducible refine k1.mono ?_; rintro e w1 ⟨rfl, rfl⟩) | (go_at_call 186; with_reducible refine k4.mono ?_; rintro e w1 ⟨rfl, rfl⟩))
      refine bodyPost_ret (by simp [results, Tryz.results130, go_sem]; rfl) rfl ?_
      unfold BPost
      rw [HE.out]
      exact ⟨by simp, by (exact belQ)⟩
    · rw [e1, e4] at HE hlt
      have hl := hlt rfl
      obtain ⟨b, off, t, hA, hb, ht, q0, q1, q2, q3⟩ := h.tok hl
      rw [textP_at ht] at HE
      rw [hA] at c0
      have h1 : ((s.pos + a : Nat) : Int) < (p.e.toks.length : Int) := by omega
      have h0 : (0 : Int) ≤ ((s.pos + a : Nat) : Int) := by omega
      have hC := fun k => contains_c (w := w.drewN k) (c := c) t.text (hr.keep fun _ _ => rfl) (by unfold maxLen; omega)
      rw [e1] at k1
      rw [e4] at k4
      clear e1 e4 hlt ht hA hl q0 q2 q3
      go_enter Tryz.func130, Tryz.ntmps130
      go_wp2_with (first | (go_at_call 186; with_reducible refine k1.mono ?_; rintro e w1 ⟨rfl, rfl⟩) | (go_at_call 186; with_reducible refine k4.mono ?_; rintro e w1 ⟨rfl, rfl⟩))
      go_quiet ((go_at_call 187; exact Calls.quiet_of_same (hC _)))
      go_wp2_with fail
      refine bodyPost_ret (by simp [results, Tryz.results130, go_sem]; rfl) rfl ?_
      unfold BPost
      rw [HE.out]
      exact ⟨by simp, by (exact belQ)⟩
  · rw [e1] at HE hlt
    have hl := hlt rfl
    obtain ⟨b, off, t, hA, hb, ht, q0, q1, q2, q3⟩ := h.tok hl
    rw [textP_at ht] at HE
    rw [hA] at c0
    have h1 : ((s.pos + a : Nat) : Int) < (p.e.toks.length : Int) := by omega
    have h0 : (0 : Int) ≤ ((s.pos + a : Nat) : Int) := by omega
    have hC := fun k => contains_c (w := w.drewN k) (c := c) t.text (hr.keep fun _ _ => rfl) (by unfold maxLen; omega)
    rw [e1] at k1
    clear e1 hlt ht hA hl q0 q2 q3 k4
    go_enter Tryz.func130, Tryz.ntmps130
    go_wp2_with (first | (go_at_call 186; with_reducible refine k1.mono ?_; rintro e w1 ⟨rfl, rfl⟩))
    go_quiet ((go_at_call 187; exact Calls.quiet_of_same (hC _)))
    go_wp2_with fail
    refine bodyPost_ret (by simp [results, Tryz.results130, go_sem]; rfl) rfl ?_
    unfold BPost
    rw [HE.out]
    exact ⟨by simp, by (exact belQ)⟩
theorem fail_t {e : Src} {s : Ps} (h : s.failed = true) : s.fail e = { s with pos := e.toks.length } := by
  unfold Ps.fail
  simp [h]
theorem fail_f {e : Src} {s : Ps} {z : Int} (h : s.failed = false) (hz : (match e.toks[s.pos]? with | some t => t.pos | none => e.fin) = z) : s.fail e = { { { s with failed := true } with off := z } with pos := e.toks.length } := by
  unfold Ps.fail
  rw [if_neg (by simp [h])]
  subst hz
  rfl
theorem fail_c {p : Pp} {w : World} {s : Ps} {rv : Value} (h : PsAt p w s rv) : Calls Tryz.prog 20 #[.pointer (some ⟨p.pb, 0, none⟩)] w (GoPost p w (s.fail p.e) rv (.tuple #[])) := by
  have hok := h.ok
  have hfew := h.few
  have HP := Lib.hid h
  obtain ⟨⟨c0, c1, c2, c3, c4, -⟩, ⟨-, f1, -, f3, f4, -⟩⟩ := h.cells
  have fin : ∀ (w1 : World) (s1 : Ps), PsAt p w1 s1 rv → PFr (· = p.pb) w w1 → s.fail p.e = { s1 with pos := p.e.toks.length } → GoPost p w (s.fail p.e) rv (.tuple #[]) (.returned (.tuple #[])) (w1.setCell ⟨p.pb, 1, none⟩ (.int .i64 (p.e.toks.length : Int))) := by
    intro w1 s1 h1 h2 h3
    unfold GoPost
    rw [h3]
    exact ⟨rfl, h1.setPos _ (Nat.le_refl _), by (exact pfrQ)⟩
  cases e3 : s.failed
  · have HF := fun z => fail_f (e := p.e) (z := z) e3
    rw [e3] at c3
    go_enter Tryz.func20, Tryz.ntmps20
    go_wp2_with fail
    obtain ⟨w1, hw1⟩ : ∃ w1, (w.setCell ⟨p.pb, 3, none⟩ (.bool true)).setCell ⟨p.pb, 4, none⟩ (.int .i64 p.e.fin) = w1 := ⟨_, rfl⟩
    have P1 := (HP.out.setFailed true).setOff p.e.fin
    have F1 : PFr (· = p.pb) w ((w.setCell ⟨p.pb, 3, none⟩ (.bool true)).setCell ⟨p.pb, 4, none⟩ (.int .i64 p.e.fin)) := by (exact pfrQ)
    rw [hw1] at P1 F1 ⊢
    clear hw1 c0 c1 c2 c3 c4 f1 f3 f4 e3 HP
    have HP1 := Lib.hid P1
    obtain ⟨⟨c0, c1, c2, c3, c4, -⟩, ⟨-, f1, -, f3, f4, -⟩⟩ := P1.cells
    simp only at c1 c3 c4
    by_cases hl : s.pos < p.e.toks.length
    · obtain ⟨b, off, t, hA, hb, ht, q0, q1, q2, q3⟩ := P1.tok hl
      have HA := Lib.hid hA
      rw [hA] at c0
      clear hA
      have h1 : (s.pos : Int) < (p.e.toks.length : Int) := by omega
      have h0 : (0 : Int) ≤ (s.pos : Int) := by omega
      have hne : b ≠ p.pb := by omega
      have HF2 := Lib.hid (HF t.pos (by rw [ht]))
      clear ht q0 q1 q2 HF P1
      go_quiet (fail)
      go_wp2_with fail
      rename_i nq
      have P2 := HP1.out.drewN nq
      have F2 := F1.drewN nq
      rw [show w1.cell? = (w1.drewN nq).cell? from rfl] at q3
      generalize w1.drewN nq = w2 at P2 F2 q3 ⊢
      clear HP1 F1 f1 f3 f4 c0 c1 c2 c3 c4
      obtain ⟨⟨c0, c1, -, -, -, -⟩, ⟨-, -, -, -, f4, -⟩⟩ := P2.cells
      rw [HA.out] at c0
      go_still_tail 14, (by kernel_rfl)
      change wpList _ _ _ _ _ w2.drew
      have P3 := P2.drew
      have F3 := F2.drew
      clear c0 c1 f4 q3 P2 F2
      generalize w2.drew = w3 at P3 F3 ⊢
      obtain ⟨⟨-, -, -, -, e4, -⟩, ⟨-, -, -, -, f4, -⟩⟩ := P3.cells
      obtain ⟨⟨c0, c1, -, -, -, -⟩, ⟨-, f1, -, -, -, -⟩⟩ := (P3.setOff t.pos).cells
      go_wp2_with fail
      go_end0
      exact fin _ _ (P3.setOff _) (by (exact pfrQ)) HF2.out
    · have h1 : ¬ (s.pos : Int) < (p.e.toks.length : Int) := by omega
      have HF2 := Lib.hid (HF p.e.fin (by rw [List.getElem?_eq_none (by omega)]))
      clear hl HF P1
      go_quiet (fail)
      go_wp2_with fail
      go_end0
      exact fin _ _ (HP1.out.drewN _) (F1.drewN _) HF2.out
  · have HF := Lib.hid (fail_t (e := p.e) e3)
    rw [e3] at c3
    clear e3
    go_enter Tryz.func20, Tryz.ntmps20
    go_wp2_with fail
    go_end0
    exact fin _ _ HP.out (PFr.refl _ _) HF.out
section
variable {p : Pp} {w : World} {s : Ps} {rv : Value}
theorem isKind0_c (h : PsAt p w s rv) (k : Int) : Calls Tryz.prog 186 #[.pointer (some ⟨p.pb, 0, none⟩), .int .i64 0, .int .i64 k] w fun e w' => e = .returned (.bool (isKindP p.e s 0 k)) ∧ w' = w := isKind_c h 0 (by omega) k
theorem isKind1_c (h : PsAt p w s rv) (k : Int) : Calls Tryz.prog 186 #[.pointer (some ⟨p.pb, 0, none⟩), .int .i64 1, .int .i64 k] w fun e w' => e = .returned (.bool (isKindP p.e s 1 k)) ∧ w' = w := isKind_c h 1 (by omega) k
theorem is0_c (h : PsAt p w s rv) {A : Option Addr} {n c B : Nat} (ws : List Bs) (hr : RowB w B A n ws) (hn : n ≤ 100) : Calls Tryz.prog 130 #[.pointer (some ⟨p.pb, 0, none⟩), .int .i64 0, .slice A n c] w (BPost w (isP p.e s 0 ws)) := is_c h 0 (by omega) ws hr hn
theorem is1_c (h : PsAt p w s rv) {A : Option Addr} {n c B : Nat} (ws : List Bs) (hr : RowB w B A n ws) (hn : n ≤ 100) : Calls Tryz.prog 130 #[.pointer (some ⟨p.pb, 0, none⟩), .int .i64 1, .slice A n c] w (BPost w (isP p.e s 1 ws)) := is_c h 1 (by omega) ws hr hn
theorem acceptP_t {e : Src} {s : Ps} {ws : List Bs} (h : isP e s 0 ws = true) : acceptP e s ws = (true, { s with pos := s.pos + 1 }) := by unfold acceptP; rw [if_pos h]
theorem acceptP_f {e : Src} {s : Ps} {ws : List Bs} (h : isP e s 0 ws = false) : acceptP e s ws = (false, s) := by unfold acceptP; rw [if_neg (by simp [h])]
theorem expectP_t {e : Src} {s : Ps} {ws : List Bs} {t : Tk} (h : isP e s 0 ws = true) (ht : e.toks[s.pos]? = some t) : expectP e s ws = (t.text, { s with pos := s.pos + 1 }) := by unfold expectP; rw [if_pos h, textP_at ht]
theorem expectP_f {e : Src} {s : Ps} {ws : List Bs} (h : isP e s 0 ws = false) : expectP e s ws = ([], s.fail e) := by unfold expectP; rw [if_neg (by simp [h])]
theorem takeP_t {e : Src} {s : Ps} {k : Int} {t : Tk} (h : isKindP e s 0 k = true) (ht : e.toks[s.pos]? = some t) : takeP e s k = (t, { s with pos := s.pos + 1 }) := by
  unfold takeP
  rw [if_pos h, List.getD_eq_getElem?_getD, ht]
  rfl
theorem takeP_f {e : Src} {s : Ps} {k : Int} (h : isKindP e s 0 k = false) : takeP e s k = (Tk.zero, s.fail e) := by unfold takeP; rw [if_neg (by simp [h])]
theorem accept_c (h : PsAt p w s rv) {A : Option Addr} {n c B : Nat} (ws : List Bs) (hr : RowB w B A n ws) (hn : n ≤ 100) : Calls Tryz.prog 142 #[.pointer (some ⟨p.pb, 0, none⟩), .slice A n c] w (GoPost p w (acceptP p.e s ws).2 rv (.bool (acceptP p.e s ws).1)) := by
  have hok := h.ok
  have hfew := h.few
  have hI := is_c (c := c) h 0 (by omega) ws hr hn
  have HP := Lib.hid h
  clear h
  unfold BPost at hI
  cases hi : isP p.e s 0 ws
  · rw [acceptP_f hi]
    rw [hi] at hI
    clear hi
    go_enter Tryz.func142, Tryz.ntmps142
    go_wp2_with (go_at_call 130; refine hI.mono ?_; rintro e w1 ⟨rfl, hb1⟩)
    go_ret
    exact ⟨rfl, HP.out.below hb1, PFr.of_below hb1⟩
  · rw [acceptP_t hi]
    rw [hi] at hI
    have hlt := isP_lt hi
    have hw : IntKind.i64.wrap ((s.pos : Int) + 1) = ((s.pos + 1 : Nat) : Int) := by rw [IntWalk.i64_in _ (by omega)]; omega
    clear hi
    go_enter Tryz.func142, Tryz.ntmps142
    go_wp2_with (go_at_call 130; refine hI.mono ?_; rintro e w1 ⟨rfl, hb1⟩; obtain ⟨⟨-, c1, -, -, -, -⟩, ⟨-, f1, -, -, -, -⟩⟩ := (HP.out.below hb1).cells)
    go_ret
    exact ⟨rfl, (HP.out.below hb1).setPos _ hlt, by (exact pfrQ)⟩
theorem expect_c (h : PsAt p w s rv) {A : Option Addr} {n c B : Nat} (ws : List Bs) (hr : RowB w B A n ws) (hn : n ≤ 100) : Calls Tryz.prog 88 #[.pointer (some ⟨p.pb, 0, none⟩), .slice A n c] w (GoPost p w (expectP p.e s ws).2 rv (.string ⟨(expectP p.e s ws).1.toArray⟩)) := by
  have hok := h.ok
  have hfew := h.few
  have hI := accept_c (c := c) h ws hr hn
  have HP := Lib.hid h
  unfold GoPost at hI
  cases hi : isP p.e s 0 ws
  · rw [expectP_f hi]
    rw [acceptP_f hi] at hI
    clear hi h
    simp only at hI
    go_enter Tryz.func88, Tryz.ntmps88
    go_wp2_with (first
      | (go_at_call 142; refine hI.mono ?_; rintro e w1 ⟨rfl, P1, F1⟩)
      | (go_at_call 20; refine (fail_c P1).mono ?_; rintro e w2 ⟨rfl, P2, F2⟩))
    go_ret
    exact ⟨rfl, P2, F1.trans F2 fun _ _ x => x⟩
  · have hlt := isP_lt hi
    obtain ⟨b, off, t, hA, hb, ht, q0, q1, q2, q3⟩ := h.tok (k := s.pos) (by omega)
    rw [expectP_t hi ht]
    rw [acceptP_t hi] at hI
    have HT := Lib.hid ht
    simp only at hI
    have hw : IntKind.i64.wrap (((s.pos + 1 : Nat) : Int) - 1) = (s.pos : Int) := by rw [IntWalk.i64_in _ (by omega)]; omega
    have h0 : (0 : Int) ≤ (s.pos : Int) := by omega
    have h1 : (s.pos : Int) < (p.e.toks.length : Int) := by omega
    clear hi ht h q0 q1 q2 q3 hlt
    go_enter Tryz.func88, Tryz.ntmps88
    go_wp2_with (first
      | (go_at_call 142; refine hI.mono ?_; rintro e w1 ⟨rfl, P1, F1⟩; obtain ⟨⟨c0, c1, -, -, -, -⟩, -⟩ := P1.cells))
    obtain ⟨b', off', t', hA', -, ht', q0, q1, q2, q3⟩ := P1.tok (k := s.pos) (by omega)
    rw [HT.out] at ht'
    injection ht' with ht'
    subst ht'
    rw [hA'] at c0
    go_quiet (fail)
    go_wp2_with fail
    go_ret
    exact ⟨rfl, P1.drewN _, F1.drewN _⟩
theorem take_c (h : PsAt p w s rv) (k : Int) : Calls Tryz.prog 241 #[.pointer (some ⟨p.pb, 0, none⟩), .int .i64 k] w (GoPost p w (takeP p.e s k).2 rv (.agg #[.int .i64 ((takeP p.e s k).1).kind, .string ⟨((takeP p.e s k).1).text.toArray⟩, .int .i64 ((takeP p.e s k).1).int, .int .i64 ((takeP p.e s k).1).pos])) := by
  have hok := h.ok
  have hfew := h.few
  cases hi : isKindP p.e s 0 k
  · rw [takeP_f hi]
    go_enter Tryz.func241, Tryz.ntmps241
    go_wp2_with fail
    obtain ⟨z, w0, ez, ew, P0, F0, hz, hge, hgt, hlz⟩ := alloc_ex h (· = p.pb) #[.int .i64 0, .string ⟨#[]⟩, .int .i64 0, .int .i64 0] 100
    rw [ew, ez]
    clear ez ew
    have hI := isKind_c P0 0 (by omega) k
    rw [hi] at hI
    clear hi h
    go_wp2_with (first
      | (go_at_call 186; refine hI.mono ?_; rintro e w1 ⟨rfl, rfl⟩)
      | (go_at_call 20; refine (fail_c P0).mono ?_; rintro e w2 ⟨rfl, P2, F2⟩; have hz2 := (F2.block z hlz (by omega)).trans hz; obtain ⟨hcB, hfB⟩ := blk_cells (hz2); have d0 := hcB 0; have df0 := hfB 0; have d1 := hcB 1; have df1 := hfB 1; have d2 := hcB 2; have df2 := hfB 2; have d3 := hcB 3; have df3 := hfB 3; clear hcB hfB))
    refine bodyPost_ret (by simp [results, Tryz.results241, go_sem, d0, d1, d2, d3]; rfl) rfl ?_
    exact ⟨rfl, P2.far hz2 (by decide) hgt (by (exact pfrQ)), PFr.trans (F0.trans F2 fun _ _ x => x) (S' := (· = z)) (by (exact pfrQ)) fun k hk e => by omega⟩
  · have hlt := isKindP_lt hi
    obtain ⟨b, off, t, hA, hb, ht, q0, q1, q2, q3⟩ := h.tok (k := s.pos) (by omega)
    rw [takeP_t hi ht]
    have HT := Lib.hid ht
    have hw : IntKind.i64.wrap ((s.pos : Int) + 1 - 1) = (s.pos : Int) := by rw [IntWalk.i64_in _ (by omega)]; omega
    have hw1 : IntKind.i64.wrap ((s.pos : Int) + 1) = (s.pos : Int) + 1 := IntWalk.i64_in _ (by omega)
    have h0 : (0 : Int) ≤ (s.pos : Int) := by omega
    have h1 : (s.pos : Int) < (p.e.toks.length : Int) := by omega
    go_enter Tryz.func241, Tryz.ntmps241
    go_wp2_with fail
    obtain ⟨z, w0, ez, ew, P0, F0, hz, hge, hgt, hlz⟩ := alloc_ex h (· = p.pb) #[.int .i64 0, .string ⟨#[]⟩, .int .i64 0, .int .i64 0] 100
    rw [ew, ez]
    clear ez ew
    have hI := isKind_c P0 0 (by omega) k
    rw [hi] at hI
    obtain ⟨⟨-, c1, -, -, -, -⟩, ⟨-, f1, -, -, -, -⟩⟩ := P0.cells
    have P1 := P0.setNext (by omega)
    have F1 : PFr (· = p.pb) w (w0.setCell ⟨p.pb, 1, none⟩ (.int .i64 ((s.pos : Int) + 1))) := by (exact pfrQ)
    have F2 : PFr (· = p.pb) w0 (w0.setCell ⟨p.pb, 1, none⟩ (.int .i64 ((s.pos : Int) + 1))) := by (exact pfrQ)
    have hz1 := (F2.block z hlz (by omega)).trans hz
    clear hi ht h q0 q1 q2 q3 hlt F0 F2 hz hA
    go_wp2_with (first
      | (go_at_call 186; refine hI.mono ?_; rintro e w1 ⟨rfl, rfl⟩))
    clear hI P0 c1 f1
    have hlz1 : z < (w1.setCell ⟨p.pb, 1, none⟩ (.int .i64 ((s.pos : Int) + 1))).heap.size := by simpa [World.setCell] using hlz
    generalize w1.setCell _ _ = w2 at P1 F1 hz1 hlz1 ⊢
    clear hlz
    obtain ⟨⟨d0, d1, -, -, -, -⟩, -⟩ := P1.cells
    obtain ⟨b', off', t', hA', -, ht', q0, q1, q2, q3⟩ := P1.tok (k := s.pos) (by omega)
    rw [HT.out] at ht'
    injection ht' with ht'
    subst ht'
    rw [hA'] at d0
    have d1' : w2.cell? ⟨p.pb, 1, none⟩ = some (.int .i64 ((s.pos : Int) + 1)) := d1
    clear d1
    clear hA'
    have hw2 : IntKind.i64.wrap (s.pos : Int) = (s.pos : Int) := IntWalk.i64_in _ (by omega)
    go_still_tail 11, (by kernel_rfl)
    change wpList _ _ _ _ _ w2.drew
    have P3 := P1.drew
    have F3 := F1.drew
    have hz3 : w2.drew.heap[z]? = _ := hz1
    clear P1 F1 hz1 d0 d1' q0 q1 q2 q3
    generalize w2.drew = w3 at P3 F3 hz3 ⊢
    obtain ⟨hcB, hfB⟩ := blk_cells (hz3); have d0 := hcB 0; have df0 := hfB 0; have d1 := hcB 1; have df1 := hfB 1; have d2 := hcB 2; have df2 := hfB 2; have d3 := hcB 3; have df3 := hfB 3; clear hcB hfB
    go_wp2_with fail
    refine bodyPost_ret (by simp [results, Tryz.results241, go_sem, d0, d1, d2, d3]; rfl) rfl ?_
    exact ⟨rfl, P3.far hz3 (by decide) hgt (by (exact pfrQ)), PFr.trans F3 (S' := (· = z)) (by (exact pfrQ)) fun k hk e => by omega⟩
end
end Go.Proofs.YtpnfbehbheddeaaGreatDoor
