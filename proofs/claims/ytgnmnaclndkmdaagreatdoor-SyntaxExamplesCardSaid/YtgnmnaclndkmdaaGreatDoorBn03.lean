/- Small general lemmas: worlds that grew by one row, lists that are walked one by one, new rows. No condition. Rows that were just laid, and rows in a later world. No condition. Rows of tokens and of texts. No condition. The parser in memory: where it lies and what it holds. No condition. Contracts of the parser's small methods. No condition beyond the parser's state. -/
import Derived.Test.YtgnmnaclndkmdaaGreatDoorBn00
import Derived.Test.YtgnmnaclndkmdaaGreatDoorBn02
import Derived.StillTailTactics
namespace Go.Proofs.YtgnmnaclndkmdaaGreatDoor
open Go.RowKit

theorem take_all_succ {α : Type} (p : α → Bool) (l : List α) (k : Nat) (v : α) (h : l[k]? = some v) : (l.take (k + 1)).all p = ((l.take k).all p && p v) := by
  rw [List.take_add_one, h]; simp
theorem all_not_at {α : Type} (p : α → Bool) (l : List α) (k : Nat) (v : α) (h : l[k]? = some v) (hp : p v = false) : l.all p = false := by
  rw [Bool.eq_false_iff]
  intro h1
  have := List.all_eq_true.1 h1 v (List.mem_of_getElem? h)
  rw [hp] at this
  cases this
end Go.Proofs.YtgnmnaclndkmdaaGreatDoor
namespace Go.Proofs.YtgnmnaclndkmdaaGreatDoor
open Go.RowKit
theorem RowOf.later {α : Type} {cells : α → List Value} {w w' : World} {A : Option Addr} {n : Nat} {xs : List α} (h : RowOf cells w w.heap.size A n xs) (hb : Below w.heap.size w w') : RowOf cells w' w'.heap.size A n xs := (h.below hb).more hb.size
end Go.Proofs.YtgnmnaclndkmdaaGreatDoor
namespace Go.Proofs.YtgnmnaclndkmdaaGreatDoor
open Go.RowKit

abbrev RowK := @RowOf Tk Tk.cells
theorem stK : SliceTy Tryz.prog 35 83 4 40 := SliceTy.mk' Tryz.underlying35 (z := .agg #[.int .i64 0, .string ⟨#[]⟩, .int .i64 0, .int .i64 0]) (by kernel_rfl) rfl (by decide) (by decide)
theorem RowK.at4 {w : World} {B n : Nat} {A : Option Addr} {ts : List Tk} (h : RowK w B A n ts) {k : Nat} (hk : k < n) :
   ∃ b off t, A = some ⟨b, off, none⟩ ∧ b < B ∧ ts[k]? = some t ∧ w.cell? ⟨b, off + k * 4, none⟩ = some (.int .i64 t.kind) ∧ w.cell? ⟨b, off + k * 4 + 1, none⟩ = some (.string ⟨t.text.toArray⟩) ∧ w.cell? ⟨b, off + k * 4 + 2, none⟩ = some (.int .i64 t.int) ∧ w.cell? ⟨b, off + k * 4 + 3, none⟩ = some (.int .i64 t.pos) := by
  obtain ⟨b, off, t, h1, h2, h3, h4⟩ := h.at_ 4 (fun _ => rfl) (by omega) hk
  exact ⟨b, off, t, h1, h2, h3, h4 0 _ rfl, h4 1 _ rfl, h4 2 _ rfl, h4 3 _ rfl⟩
theorem stS : SliceTy Tryz.prog 26 9 1 16 := SliceTy.mk' Tryz.underlying26 (z := .string ⟨#[]⟩) (by kernel_rfl) rfl (by decide) (by decide)
def strV (l : List UInt8) : Value := .string ⟨l.toArray⟩
abbrev RowB := @RowOf (List UInt8) (fun l => [strV l])
end Go.Proofs.YtgnmnaclndkmdaaGreatDoor
namespace Go.Proofs.YtgnmnaclndkmdaaGreatDoor
open Go.RowKit

/-- All old blocks outside S are as they were. -/
structure PFr (S : Nat → Prop) (w w' : World) : Prop where
  os : w'.os = w.os
  tape : w'.tape = w.tape
  output : w'.output = w.output
  size : w.heap.size ≤ w'.heap.size
  block : ∀ k, k < w.heap.size → ¬ S k → w'.heap[k]? = w.heap[k]?
section
variable {S S' : Nat → Prop} {a w w' : World}
theorem PFr.refl (S : Nat → Prop) (w : World) : PFr S w w := ⟨rfl, rfl, rfl, Nat.le_refl _, fun _ _ _ => rfl⟩
theorem PFr.trans (h : PFr S a w) (h2 : PFr S' w w') (hS : ∀ k, k < a.heap.size → S' k → S k) : PFr S a w' :=
  ⟨h2.os.trans h.os, h2.tape.trans h.tape, h2.output.trans h.output, Nat.le_trans h.size h2.size, fun k hk hn => (h2.block k (Nat.lt_of_lt_of_le hk h.size) fun x => hn (hS k hk x)).trans (h.block k hk hn)⟩
theorem PFr.mono (h : PFr S' a w) (hS : ∀ k, k < a.heap.size → S' k → S k) : PFr S a w := ⟨h.os, h.tape, h.output, h.size, fun k hk hn => h.block k hk fun x => hn (hS k hk x)⟩
theorem PFr.of_below (h : Below a.heap.size a w) : PFr S a w := ⟨h.os, h.tape, h.output, h.size, fun k hk _ => h.block k hk⟩
theorem PFr.drew (h : PFr S a w) : PFr S a w.drew := ⟨h.os, h.tape, h.output, h.size, h.block⟩
theorem PFr.drewN (h : PFr S a w) (n : Nat) : PFr S a (w.drewN n) := ⟨h.os, h.tape, h.output, h.size, h.block⟩
theorem PFr.step (hb : Below w.heap.size w w') (h : PFr S a w) : PFr S a w' := h.trans (PFr.of_below (S := S) hb) fun _ _ x => x
theorem PFr.alloc (h : PFr S a w) (o : Obj) : PFr S a (w.alloc o) := h.step ((Below.refl w.heap.size w).alloc (Nat.le_refl _) o)
theorem PFr.setCell {q : Addr} (h : PFr S a w) (hq : S q.block ∨ a.heap.size ≤ q.block) (u : Value) : PFr S a (w.setCell q u) :=
  ⟨h.os, h.tape, h.output, by simpa [World.setCell] using h.size, fun k hk hn => (Below.heap_setCell w q u k (by
    rintro rfl
    rcases hq with hq | hq
    · exact hn hq
    · omega)).trans (h.block k hk hn)⟩
theorem PFr.grown {row : Option Nat} (h : PFr S a w) (hg : w.grownBy w' row) (hr : ∀ k, row = some k → k < a.heap.size → S k) : PFr S a w' :=
  ⟨hg.os.trans h.os, hg.tape.trans h.tape, hg.output.trans h.output, Nat.le_trans h.size hg.size, fun k hk hn => (hg.block k (Nat.lt_of_lt_of_le hk h.size) fun x => hn (hr k x.symm hk)).trans (h.block k hk hn)⟩
end

/-- What a parser stands on: its block, its tokens, what it has read beside expressions. -/
structure Pp where
  pb : Nat
  TA : Option Addr
  c : Nat
  e : Src
  res : Array Value
def refC (r : Tk × Bool) : List Value := r.1.cells ++ [.bool r.2]
def psC (p : Pp) (s : Ps) (rv : Value) : Array Value := #[.slice p.TA p.e.toks.length p.c, .int .i64 s.pos, .int .i64 p.e.fin, .bool s.failed, .int .i64 s.off, rv] ++ p.res
/-- A parser at its block in this state; rv is its slice of references. -/
structure PsAt (p : Pp) (w : World) (s : Ps) (rv : Value) : Prop where
  blk : w.heap[p.pb]? = some (.cells (psC p s rv) 58 (0, 0))
  toks : RowK w p.pb p.TA p.e.toks.length p.e.toks
  ok : s.pos ≤ p.e.toks.length
  few : p.e.toks.length ≤ 100000
  refs : w.ownsRow (p.pb + 1) 88 5 rv s.refs.length (s.refs.flatMap refC)
section
variable {p : Pp} {w w' : World} {s : Ps} {rv : Value}
theorem PsAt.lt (h : PsAt p w s rv) : p.pb < w.heap.size := by
  rcases Nat.lt_or_ge p.pb w.heap.size with hl | hl
  · exact hl
  · have := h.blk
    rw [Array.getElem?_eq_none hl] at this
    cases this
theorem PsAt.below (h : PsAt p w s rv) (hb : Below w.heap.size w w') : PsAt p w' s rv :=
  ⟨(hb.block _ h.lt).trans h.blk, h.toks.below (hb.mono (Nat.le_of_lt h.lt)), h.ok, h.few, own_below h.refs hb⟩
theorem PsAt.alloc (h : PsAt p w s rv) (o : Obj) : PsAt p (w.alloc o) s rv := h.below ((Below.refl w.heap.size w).alloc (Nat.le_refl _) o)
theorem PsAt.drew (h : PsAt p w s rv) : PsAt p w.drew s rv := h.below (Below.refl _ _).drew
theorem PsAt.drewN (h : PsAt p w s rv) (n : Nat) : PsAt p (w.drewN n) s rv := h.below (below_drewN (Below.refl _ _) n)
theorem PsAt.cells (h : PsAt p w s rv) : (w.cell? ⟨p.pb, 0, none⟩ = some (.slice p.TA p.e.toks.length p.c) ∧ w.cell? ⟨p.pb, 1, none⟩ = some (.int .i64 s.pos) ∧ w.cell? ⟨p.pb, 2, none⟩ = some (.int .i64 p.e.fin) ∧ w.cell? ⟨p.pb, 3, none⟩ = some (.bool s.failed) ∧ w.cell? ⟨p.pb, 4, none⟩ = some (.int .i64 s.off) ∧ w.cell? ⟨p.pb, 5, none⟩ = some rv)
   ∧ (w.frozen? ⟨p.pb, 0, none⟩ = false ∧ w.frozen? ⟨p.pb, 1, none⟩ = false ∧ w.frozen? ⟨p.pb, 2, none⟩ = false ∧ w.frozen? ⟨p.pb, 3, none⟩ = false ∧ w.frozen? ⟨p.pb, 4, none⟩ = false ∧ w.frozen? ⟨p.pb, 5, none⟩ = false) := by
  have hc : ∀ i, w.cell? ⟨p.pb, i, none⟩ = (psC p s rv)[i]? := fun i => cell_of_row w p.pb i _ _ (0, 0) h.blk
  have hf : ∀ i, w.frozen? ⟨p.pb, i, none⟩ = false := fun i => by simp [World.frozen?, h.blk]
  refine ⟨⟨?_, ?_, ?_, ?_, ?_, ?_⟩, hf 0, hf 1, hf 2, hf 3, hf 4, hf 5⟩ <;>
  · rw [hc]
    unfold psC
    rw [Array.getElem?_append_left (by simp)]
    rfl
/-- A store into the parser's block. -/
theorem heap_set {w : World} {b i : Nat} {cs : Array Value} {te : TypeId} (h : w.heap[b]? = some (.cells cs te (0, 0))) (u : Value) : (w.setCell ⟨b, i, none⟩ u).heap[b]? = some (.cells (cs.set! i u) te (0, 0)) := by
  simp only [World.setCell, Array.getElem?_modify, h]
  simp
theorem PsAt.set (h : PsAt p w s rv) (i : Nat) (u : Value) (s' : Ps) (hc : (psC p s rv).set! i u = psC p s' rv) (hr : s'.refs = s.refs) (hok : s'.pos ≤ p.e.toks.length) : PsAt p (w.setCell ⟨p.pb, i, none⟩ u) s' rv := by
  have hkeep : ∀ k, k ≠ p.pb → (w.setCell ⟨p.pb, i, none⟩ u).heap[k]? = w.heap[k]? := fun k hk => Below.heap_setCell w ⟨p.pb, i, none⟩ u k hk
  refine ⟨?_, h.toks.keep fun q hq => World.cell?_of_block (hkeep _ (by omega)), hok, h.few, ?_⟩
  · rw [heap_set h.blk, hc]
  · rw [hr]
    refine ⟨h.refs.1, ?_⟩
    rcases h.refs.2 with h2 | ⟨g, cap, cur, h3, h4, h5, h6⟩
    · exact .inl h2
    · exact .inr ⟨g, cap, cur, h3, h4, (hkeep _ (by omega)).trans h5, h6⟩
theorem psC_pos (k : Nat) : (psC p s rv).set! 1 (.int .i64 (k : Int)) = psC p { s with pos := k } rv := by
  unfold psC
  rw [Array.set!_eq_setIfInBounds, Array.setIfInBounds_append_left (by simp)]
  rfl
theorem PsAt.setPos (h : PsAt p w s rv) (k : Nat) (hk : k ≤ p.e.toks.length) : PsAt p (w.setCell ⟨p.pb, 1, none⟩ (.int .i64 (k : Int))) { s with pos := k } rv :=
  h.set 1 _ _ (psC_pos k) rfl hk
theorem PsAt.setNext (h : PsAt p w s rv) (hk : s.pos + 1 ≤ p.e.toks.length) : PsAt p (w.setCell ⟨p.pb, 1, none⟩ (.int .i64 ((s.pos : Int) + 1))) { s with pos := s.pos + 1 } rv := h.setPos (s.pos + 1) hk
theorem psC_failed (b : Bool) : (psC p s rv).set! 3 (.bool b) = psC p { s with failed := b } rv := by
  unfold psC
  rw [Array.set!_eq_setIfInBounds, Array.setIfInBounds_append_left (by simp)]
  rfl
theorem PsAt.setFailed (h : PsAt p w s rv) (b : Bool) : PsAt p (w.setCell ⟨p.pb, 3, none⟩ (.bool b)) { s with failed := b } rv :=
  h.set 3 _ _ (psC_failed b) rfl h.ok
theorem psC_off (z : Int) : (psC p s rv).set! 4 (.int .i64 z) = psC p { s with off := z } rv := by
  unfold psC
  rw [Array.set!_eq_setIfInBounds, Array.setIfInBounds_append_left (by simp)]
  rfl
theorem PsAt.setOff (h : PsAt p w s rv) (z : Int) : PsAt p (w.setCell ⟨p.pb, 4, none⟩ (.int .i64 z)) { s with off := z } rv :=
  h.set 4 _ _ (psC_off z) rfl h.ok
/-- A token at its place, in cells. -/
theorem PsAt.tok (h : PsAt p w s rv) {k : Nat} (hk : k < p.e.toks.length) : ∃ b off t, p.TA = some ⟨b, off, none⟩ ∧ b < p.pb ∧ p.e.toks[k]? = some t ∧ w.cell? ⟨b, off + k * 4, none⟩ = some (.int .i64 t.kind) ∧ w.cell? ⟨b, off + k * 4 + 1, none⟩ = some (.string ⟨t.text.toArray⟩) ∧ w.cell? ⟨b, off + k * 4 + 2, none⟩ = some (.int .i64 t.int) ∧ w.cell? ⟨b, off + k * 4 + 3, none⟩ = some (.int .i64 t.pos) :=
  RowK.at4 h.toks hk
end
/-- A new block. -/
theorem alloc_ex {p : Pp} {w : World} {s : Ps} {rv : Value} (h : PsAt p w s rv) (S : Nat → Prop) (cs : Array Value) (te : TypeId) :
    ∃ z w0, w.heap.size = z ∧ w.alloc (.cells cs te) = w0 ∧ PsAt p w0 s rv ∧ PFr S w w0 ∧ w0.heap[z]? = some (.cells cs te) ∧ w.heap.size ≤ z ∧ p.pb < z ∧ z < w0.heap.size :=
  ⟨_, _, rfl, rfl, h.alloc _, (PFr.refl S w).alloc _, heap_alloc_new w _, Nat.le_refl _, h.lt, by simp⟩
/-- Only another block has changed, none of references. -/
theorem PsAt.far {p : Pp} {w w' : World} {s : Ps} {rv : Value} {z : Nat} {cs : Array Value} {te : TypeId} (h : PsAt p w s rv) (hz : w.heap[z]? = some (.cells cs te (0, 0))) (hte : te ≠ 88) (hlt : p.pb < z) (hf : PFr (· = z) w w') : PsAt p w' s rv := by
  have hl := h.lt
  refine ⟨(hf.block _ hl (by omega)).trans h.blk, h.toks.keep fun q hq => World.cell?_of_block (hf.block _ (by omega) (by omega)), h.ok, h.few, h.refs.1, ?_⟩
  rcases h.refs.2 with h2 | ⟨g, cap, cur, h3, h4, h5, h6⟩
  · exact .inl h2
  · refine .inr ⟨g, cap, cur, h3, h4, (hf.block _ ?_ ?_).trans h5, h6⟩
    · rcases Nat.lt_or_ge g w.heap.size with hl | hl
      · exact hl
      · rw [Array.getElem?_eq_none hl] at h5; cases h5
    · rintro rfl
      rw [hz] at h5
      injection h5 with h5
      injection h5 with _ h5
      exact hte h5
theorem blk_cells {w : World} {b : Nat} {cs : Array Value} {t : TypeId} (h : w.heap[b]? = some (.cells cs t (0, 0))) : (∀ i, w.cell? ⟨b, i, none⟩ = cs[i]?) ∧ (∀ i, w.frozen? ⟨b, i, none⟩ = false) :=
  ⟨fun i => cell_of_row w b i cs t (0, 0) h, fun i => by simp [World.frozen?, h]⟩
def BPost (w : World) (b : Bool) (e : Ending) (w' : World) : Prop := e = .returned (.bool b) ∧ Below w.heap.size w w'
/-- What a method leaves that only goes on: an answer, the parser's new state; only the parser's block has changed. -/
def GoPost (p : Pp) (w : World) (s' : Ps) (rv : Value) (v : Value) (e : Ending) (w' : World) : Prop := e = .returned v ∧ PsAt p w' s' rv ∧ PFr (· = p.pb) w w'
end Go.Proofs.YtgnmnaclndkmdaaGreatDoor
namespace Go.Proofs.YtgnmnaclndkmdaaGreatDoor
open Go.RowKit

theorem kindP_at {e : Src} {s : Ps} {a : Nat} {k : Int} {t : Tk} (h : e.toks[s.pos + a]? = some t) : isKindP e s a k = (t.kind == k) := by unfold isKindP; rw [h]
theorem kindP_off {e : Src} {s : Ps} {a : Nat} {k : Int} (h : ¬ s.pos + a < e.toks.length) : isKindP e s a k = false := by unfold isKindP; rw [List.getElem?_eq_none (by omega)]
set_option maxRecDepth 100000 in
set_option maxHeartbeats 1000000 in
theorem isKind_c {p : Pp} {w : World} {s : Ps} {rv : Value} (h : PsAt p w s rv) (a : Nat) (ha : a ≤ 1) (k : Int) : Calls Tryz.prog 129 #[.pointer (some ⟨p.pb, 0, none⟩), .int .i64 (a : Int), .int .i64 k] w fun e w' => e = .returned (.bool (isKindP p.e s a k)) ∧ w' = w := by
  have hok := h.ok
  have hfew := h.few
  obtain ⟨⟨c0, c1, -, -, -, -⟩, -⟩ := h.cells
  have hw : IntKind.i64.wrap ((s.pos : Int) + (a : Int)) = ((s.pos + a : Nat) : Int) := by rw [IntWalk.i64_in _ (by omega)]; omega
  by_cases hl : s.pos + a < p.e.toks.length
  · obtain ⟨b, off, t, hA, hb, ht, q0, q1, q2, q3⟩ := h.tok hl
    rw [hA] at c0
    have h1 : ((s.pos + a : Nat) : Int) < (p.e.toks.length : Int) := by omega
    have h0 : (0 : Int) ≤ ((s.pos + a : Nat) : Int) := by omega
    have HE := Lib.hid (kindP_at (k := k) ht)
    clear ht hA q1 q2 q3
    go_enter Tryz.func129, Tryz.ntmps129
    go_wp2_with fail
    go_ret
    rw [HE.out]
    exact ⟨rfl, rfl⟩
  · have h1 : ¬ ((s.pos + a : Nat) : Int) < (p.e.toks.length : Int) := by omega
    have HE := Lib.hid (kindP_off (k := k) hl)
    clear hl
    go_enter Tryz.func129, Tryz.ntmps129
    go_wp2_with fail
    go_ret
    rw [HE.out]
    exact ⟨rfl, rfl⟩
theorem RowB.at1 {w : World} {B n : Nat} {A : Option Addr} {ss : List Bs} (h : RowB w B A n ss) {k : Nat} (hk : k < n) :
   ∃ b off s, A = some ⟨b, off, none⟩ ∧ b < B ∧ ss[k]? = some s ∧ w.cell? ⟨b, off + k, none⟩ = some (.string ⟨s.toArray⟩) := by
  obtain ⟨b, off, s, h1, h2, h3, h4⟩ := h.at_ 1 (fun _ => rfl) (by omega) hk
  have := h4 0 _ rfl
  rw [Nat.mul_one] at this
  exact ⟨b, off, s, h1, h2, h3, this⟩
def baL (l : Bs) : ByteArray := ⟨l.toArray⟩
theorem baL_inj {a b : Bs} (h : baL a = baL b) : a = b := by
  have := congrArg (fun x : ByteArray => x.data.toList) h
  simpa [baL] using this
theorem contains_map (ws : List Bs) (x : Bs) : Lib.containsS (ws.map baL) (baL x) = ws.contains x := by
  rw [Bool.eq_iff_iff, Lib.containsS_iff, List.contains_iff_mem, List.mem_map]
  exact ⟨fun ⟨y, hy, he⟩ => baL_inj he ▸ hy, fun h => ⟨x, h, rfl⟩⟩
theorem RowB.cells {w : World} {B n : Nat} {b off : Nat} {ws : List Bs} (h : RowB w B (some ⟨b, off, none⟩) n ws) : ∀ j, j < (ws.map baL).length → w.cell? ⟨b, off + j, none⟩ = some (.string ((ws.map baL).getD j ByteArray.empty)) := by
  intro j hj
  rw [List.length_map] at hj
  obtain ⟨b', off', s, e1, _, h2, h3⟩ := h.at1 (k := j) (by have := h.len; omega)
  injection e1 with e1
  injection e1 with e1 e2
  subst e1 e2
  rw [h3, List.getD_eq_getElem?_getD, List.getElem?_map, h2]
  rfl
theorem contains_c {w : World} {B n c : Nat} {A : Option Addr} {ws : List Bs} (x : Bs) (hr : RowB w B A n ws) (hn : n ≤ maxLen) : Calls Tryz.prog 130 #[.slice A n c, .string ⟨x.toArray⟩] w fun e w' => e = .returned (.bool (ws.contains x)) ∧ w' = w := by
  have hl := hr.len
  unfold maxLen at hn
  rcases Nat.eq_zero_or_pos n with h0 | h0
  · subst h0
    have : ws = [] := List.eq_nil_of_length_eq_zero hl
    subst this
    exact Tryz.slices_Contains_string_empty A c _ w
  · obtain ⟨b, off, s, rfl, _⟩ := hr.at1 h0
    have h := Tryz.slices_Contains_string b off n c (ws.map baL) (baL x) w (by rw [List.length_map, hl]; exact Nat.le_refl _) (by omega) hr.cells
    rw [List.take_of_length_le (by rw [List.length_map, hl]; exact Nat.le_refl _), contains_map] at h
    exact h
theorem isP_eq (e : Src) (s : Ps) (a : Nat) (ws : List Bs) : isP e s a ws = ((isKindP e s a 1 || isKindP e s a 4) && ws.contains (textP e (s.pos + a))) := by
  unfold isP isKindP textP
  cases e.toks[s.pos + a]? <;> rfl
theorem textP_at {e : Src} {i : Nat} {t : Tk} (h : e.toks[i]? = some t) : textP e i = t.text := by unfold textP; rw [h]
set_option maxRecDepth 100000 in
set_option maxHeartbeats 1000000 in
theorem is_c {p : Pp} {w : World} {s : Ps} {rv : Value} (h : PsAt p w s rv) (a : Nat) (ha : a ≤ 1) {A : Option Addr} {n c B : Nat} (ws : List Bs) (hr : RowB w B A n ws) (hn : n ≤ 100) : Calls Tryz.prog 80 #[.pointer (some ⟨p.pb, 0, none⟩), .int .i64 (a : Int), .slice A n c] w (BPost w (isP p.e s a ws)) := by
  have hok := h.ok
  have hfew := h.few
  obtain ⟨⟨c0, c1, -, -, -, -⟩, -⟩ := h.cells
  have hw : IntKind.i64.wrap ((s.pos : Int) + (a : Int)) = ((s.pos + a : Nat) : Int) := by rw [IntWalk.i64_in _ (by omega)]; omega
  have k1 := isKind_c h a ha 1
  have k4 := isKind_c h a ha 4
  have HE := Lib.hid (isP_eq p.e s a ws)
  have hlt : (isKindP p.e s a 1 || isKindP p.e s a 4) = true → s.pos + a < p.e.toks.length := fun hh => by
    rw [Bool.or_eq_true] at hh
    rcases hh with hh | hh <;> exact isKindP_lt hh
  cases e1 : isKindP p.e s a 1
  · cases e4 : isKindP p.e s a 4
    · rw [e1, e4] at HE
      rw [e1] at k1
      rw [e4] at k4
      clear e1 e4 hlt
      go_enter Tryz.func80, Tryz.ntmps80
      go_wp2_with (first | (go_at_call 129; with_reducible refine k1.mono ?_; rintro e w1 ⟨rfl, rfl⟩) | (go_at_call 129; with_reducible refine k4.mono ?_; rintro e w1 ⟨rfl, rfl⟩))
      refine bodyPost_ret (by simp [results, Tryz.results80, go_sem]; rfl) rfl ?_
      unfold BPost
      rw [HE.out]
      exact ⟨by simp, by (repeat (first | (with_reducible exact Below.refl _ _) | (with_reducible assumption) | (with_reducible refine Below.drew ?_) | (with_reducible refine below_drewN ?_ _) | ((with_reducible refine Below.setCell ?_ ?_ _); rotate_left; (focus (first | (simp; done) | (simp; omega) | omega))) | ((with_reducible refine Below.alloc ?_ ?_ _); rotate_left; (focus (first | (simp; done) | (simp; omega) | omega))) | ((with_reducible apply below_step1); (focus (with_reducible assumption)))))⟩
    · rw [e1, e4] at HE hlt
      have hl := hlt rfl
      obtain ⟨b, off, t, hA, hb, ht, q0, q1, q2, q3⟩ := h.tok hl
      rw [textP_at ht] at HE
      rw [hA] at c0
      have h1 : ((s.pos + a : Nat) : Int) < (p.e.toks.length : Int) := by omega
      have h0 : (0 : Int) ≤ ((s.pos + a : Nat) : Int) := by omega
      have hC := fun k => contains_c (w := w.drewN k) (c := c) t.text (hr.keep fun _ _ => rfl) (by unfold maxLen; omega)
      rw [e1] at k1
      rw [e4] at k4
      clear e1 e4 hlt ht hA hl q0 q2 q3
      go_enter Tryz.func80, Tryz.ntmps80
      go_wp2_with (first | (go_at_call 129; with_reducible refine k1.mono ?_; rintro e w1 ⟨rfl, rfl⟩) | (go_at_call 129; with_reducible refine k4.mono ?_; rintro e w1 ⟨rfl, rfl⟩))
      go_quiet ((go_at_call 130; exact Calls.quiet_of_same (hC _)))
      go_wp2_with fail
      refine bodyPost_ret (by simp [results, Tryz.results80, go_sem]; rfl) rfl ?_
      unfold BPost
      rw [HE.out]
      exact ⟨by simp, by (repeat (first | (with_reducible exact Below.refl _ _) | (with_reducible assumption) | (with_reducible refine Below.drew ?_) | (with_reducible refine below_drewN ?_ _) | ((with_reducible refine Below.setCell ?_ ?_ _); rotate_left; (focus (first | (simp; done) | (simp; omega) | omega))) | ((with_reducible refine Below.alloc ?_ ?_ _); rotate_left; (focus (first | (simp; done) | (simp; omega) | omega))) | ((with_reducible apply below_step1); (focus (with_reducible assumption)))))⟩
  · rw [e1] at HE hlt
    have hl := hlt rfl
    obtain ⟨b, off, t, hA, hb, ht, q0, q1, q2, q3⟩ := h.tok hl
    rw [textP_at ht] at HE
    rw [hA] at c0
    have h1 : ((s.pos + a : Nat) : Int) < (p.e.toks.length : Int) := by omega
    have h0 : (0 : Int) ≤ ((s.pos + a : Nat) : Int) := by omega
    have hC := fun k => contains_c (w := w.drewN k) (c := c) t.text (hr.keep fun _ _ => rfl) (by unfold maxLen; omega)
    rw [e1] at k1
    clear e1 hlt ht hA hl q0 q2 q3 k4
    go_enter Tryz.func80, Tryz.ntmps80
    go_wp2_with (first | (go_at_call 129; with_reducible refine k1.mono ?_; rintro e w1 ⟨rfl, rfl⟩))
    go_quiet ((go_at_call 130; exact Calls.quiet_of_same (hC _)))
    go_wp2_with fail
    refine bodyPost_ret (by simp [results, Tryz.results80, go_sem]; rfl) rfl ?_
    unfold BPost
    rw [HE.out]
    exact ⟨by simp, by (repeat (first | (with_reducible exact Below.refl _ _) | (with_reducible assumption) | (with_reducible refine Below.drew ?_) | (with_reducible refine below_drewN ?_ _) | ((with_reducible refine Below.setCell ?_ ?_ _); rotate_left; (focus (first | (simp; done) | (simp; omega) | omega))) | ((with_reducible refine Below.alloc ?_ ?_ _); rotate_left; (focus (first | (simp; done) | (simp; omega) | omega))) | ((with_reducible apply below_step1); (focus (with_reducible assumption)))))⟩
theorem fail_t {e : Src} {s : Ps} (h : s.failed = true) : s.fail e = { s with pos := e.toks.length } := by
  unfold Ps.fail
  simp [h]
theorem fail_f {e : Src} {s : Ps} {z : Int} (h : s.failed = false) (hz : (match e.toks[s.pos]? with | some t => t.pos | none => e.fin) = z) : s.fail e = { { { s with failed := true } with off := z } with pos := e.toks.length } := by
  unfold Ps.fail
  rw [if_neg (by simp [h])]
  subst hz
  rfl
set_option maxRecDepth 100000 in
set_option maxHeartbeats 1000000 in
theorem fail_c {p : Pp} {w : World} {s : Ps} {rv : Value} (h : PsAt p w s rv) : Calls Tryz.prog 12 #[.pointer (some ⟨p.pb, 0, none⟩)] w (GoPost p w (s.fail p.e) rv (.tuple #[])) := by
  have hok := h.ok
  have hfew := h.few
  have HP := Lib.hid h
  obtain ⟨⟨c0, c1, c2, c3, c4, -⟩, ⟨-, f1, -, f3, f4, -⟩⟩ := h.cells
  have fin : ∀ (w1 : World) (s1 : Ps), PsAt p w1 s1 rv → PFr (· = p.pb) w w1 → s.fail p.e = { s1 with pos := p.e.toks.length } → GoPost p w (s.fail p.e) rv (.tuple #[]) (.returned (.tuple #[])) (w1.setCell ⟨p.pb, 1, none⟩ (.int .i64 (p.e.toks.length : Int))) := by
    intro w1 s1 h1 h2 h3
    unfold GoPost
    rw [h3]
    exact ⟨rfl, h1.setPos _ (Nat.le_refl _), by (repeat (first | (with_reducible exact PFr.refl _ _) | (with_reducible assumption) | (with_reducible refine PFr.drew ?_) | (with_reducible refine PFr.drewN ?_ _) | ((with_reducible refine PFr.setCell ?_ ?_ _); rotate_left; (focus (first | (simp; done) | (simp; omega) | omega | (right; simp; done) | (right; simp; omega) | (right; omega)))) | (with_reducible refine PFr.alloc ?_ _) | ((with_reducible apply PFr.step); (focus (with_reducible assumption)))))⟩
  cases e3 : s.failed
  · have HF := fun z => fail_f (e := p.e) (z := z) e3
    rw [e3] at c3
    go_enter Tryz.func12, Tryz.ntmps12
    go_wp2_with fail
    obtain ⟨w1, hw1⟩ : ∃ w1, (w.setCell ⟨p.pb, 3, none⟩ (.bool true)).setCell ⟨p.pb, 4, none⟩ (.int .i64 p.e.fin) = w1 := ⟨_, rfl⟩
    have P1 := (HP.out.setFailed true).setOff p.e.fin
    have F1 : PFr (· = p.pb) w ((w.setCell ⟨p.pb, 3, none⟩ (.bool true)).setCell ⟨p.pb, 4, none⟩ (.int .i64 p.e.fin)) := by (repeat (first | (with_reducible exact PFr.refl _ _) | (with_reducible assumption) | (with_reducible refine PFr.drew ?_) | (with_reducible refine PFr.drewN ?_ _) | ((with_reducible refine PFr.setCell ?_ ?_ _); rotate_left; (focus (first | (simp; done) | (simp; omega) | omega | (right; simp; done) | (right; simp; omega) | (right; omega)))) | (with_reducible refine PFr.alloc ?_ _) | ((with_reducible apply PFr.step); (focus (with_reducible assumption)))))
    rw [hw1] at P1 F1 ⊢
    clear hw1 c0 c1 c2 c3 c4 f1 f3 f4 e3 HP
    have HP1 := Lib.hid P1
    obtain ⟨⟨c0, c1, c2, c3, c4, -⟩, ⟨-, f1, -, f3, f4, -⟩⟩ := P1.cells
    simp only at c1 c3 c4
    by_cases hl : s.pos < p.e.toks.length
    · obtain ⟨b, off, t, hA, hb, ht, q0, q1, q2, q3⟩ := P1.tok hl
      have HA := Lib.hid hA
      rw [hA] at c0
      clear hA
      have h1 : (s.pos : Int) < (p.e.toks.length : Int) := by omega
      have h0 : (0 : Int) ≤ (s.pos : Int) := by omega
      have hne : b ≠ p.pb := by omega
      have HF2 := Lib.hid (HF t.pos (by rw [ht]))
      clear ht q0 q1 q2 HF P1
      go_quiet (fail)
      go_wp2_with fail
      rename_i nq
      have P2 := HP1.out.drewN nq
      have F2 := F1.drewN nq
      rw [show w1.cell? = (w1.drewN nq).cell? from rfl] at q3
      generalize w1.drewN nq = w2 at P2 F2 q3 ⊢
      clear HP1 F1 f1 f3 f4 c0 c1 c2 c3 c4
      obtain ⟨⟨c0, c1, -, -, -, -⟩, ⟨-, -, -, -, f4, -⟩⟩ := P2.cells
      rw [HA.out] at c0
      go_still_tail 14, (by kernel_rfl)
      change wpList _ _ _ _ _ w2.drew
      have P3 := P2.drew
      have F3 := F2.drew
      clear c0 c1 f4 q3 P2 F2
      generalize w2.drew = w3 at P3 F3 ⊢
      obtain ⟨⟨-, -, -, -, e4, -⟩, ⟨-, -, -, -, f4, -⟩⟩ := P3.cells
      obtain ⟨⟨c0, c1, -, -, -, -⟩, ⟨-, f1, -, -, -, -⟩⟩ := (P3.setOff t.pos).cells
      go_wp2_with fail
      go_end0
      exact fin _ _ (P3.setOff _) (by (repeat (first | (with_reducible exact PFr.refl _ _) | (with_reducible assumption) | (with_reducible refine PFr.drew ?_) | (with_reducible refine PFr.drewN ?_ _) | ((with_reducible refine PFr.setCell ?_ ?_ _); rotate_left; (focus (first | (simp; done) | (simp; omega) | omega | (right; simp; done) | (right; simp; omega) | (right; omega)))) | (with_reducible refine PFr.alloc ?_ _) | ((with_reducible apply PFr.step); (focus (with_reducible assumption)))))) HF2.out
    · have h1 : ¬ (s.pos : Int) < (p.e.toks.length : Int) := by omega
      have HF2 := Lib.hid (HF p.e.fin (by rw [List.getElem?_eq_none (by omega)]))
      clear hl HF P1
      go_quiet (fail)
      go_wp2_with fail
      go_end0
      exact fin _ _ (HP1.out.drewN _) (F1.drewN _) HF2.out
  · have HF := Lib.hid (fail_t (e := p.e) e3)
    rw [e3] at c3
    clear e3
    go_enter Tryz.func12, Tryz.ntmps12
    go_wp2_with fail
    go_end0
    exact fin _ _ HP.out (PFr.refl _ _) HF.out
end Go.Proofs.YtgnmnaclndkmdaaGreatDoor
