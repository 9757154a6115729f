/- Bounds on what the parser of expressions does: it only goes forward, and has few references. Plain Lean, no condition. Small general lemmas: worlds that grew by one row, lists that are walked one by one, new rows. No condition. Rows that were just laid, and rows in a later world. No condition. Rows of tokens and of texts. No condition. The parser in memory: where it lies and what it holds. No condition. -/
import Derived.Test.YtpnfbehbheddeaaGreatDoorBn02
import Derived.Test.YtpnfbehbheddeaaGreatDoorBn00
namespace Go.Proofs.YtpnfbehbheddeaaGreatDoor
set_option maxRecDepth 100000
set_option maxHeartbeats 8000000
set_option linter.unusedVariables false
set_option linter.unusedSimpArgs false
def Src.meas (e : Src) (s : Ps) : Nat := s.refs.length + 3 * (e.toks.length - s.pos)
structure StepP (e : Src) (j : Nat) (s s' : Ps) : Prop where
  le : s.pos ≤ s'.pos
  ok : s'.pos ≤ e.toks.length
  refs : s.refs.length ≤ s'.refs.length
  meas : e.meas s' ≤ e.meas s + j
section
variable {e : Src} {s s1 s2 : Ps} {i j k : Nat}
theorem StepP.refl (h : s.pos ≤ e.toks.length) : StepP e j s s := ⟨Nat.le_refl _, h, Nat.le_refl _, by omega⟩
theorem StepP.trans (h : StepP e i s s1) (h2 : StepP e j s1 s2) (hk : i + j ≤ k) : StepP e k s s2 := ⟨Nat.le_trans h.le h2.le, h2.ok, Nat.le_trans h.refs h2.refs, by have := h.meas; have := h2.meas; omega⟩
theorem isP_lt {a : Nat} {ws : List Bs} (h : isP e s a ws = true) : s.pos + a < e.toks.length := by
  unfold isP at h
  cases h1 : e.toks[s.pos + a]? with
  | none => rw [h1] at h; cases h
  | some t => exact (List.getElem?_eq_some_iff.1 h1).1
theorem isKindP_lt {a : Nat} {k : Int} (h : isKindP e s a k = true) : s.pos + a < e.toks.length := by
  unfold isKindP at h
  cases h1 : e.toks[s.pos + a]? with
  | none => rw [h1] at h; cases h
  | some t => exact (List.getElem?_eq_some_iff.1 h1).1
theorem step_fail (h : s.pos ≤ e.toks.length) : StepP e 0 s (s.fail e) := ⟨h, Nat.le_refl _, Nat.le_refl _, by simp [Src.meas, Ps.fail]⟩
theorem fail_more (h : s.pos < e.toks.length) : e.meas (s.fail e) + 3 ≤ e.meas s := by simp [Src.meas, Ps.fail]; omega
theorem step_next (h : s.pos < e.toks.length) : StepP e 0 s { s with pos := s.pos + 1 } := ⟨Nat.le_succ _, h, Nat.le_refl _, by simp [Src.meas]; omega⟩
theorem next_more (h : s.pos < e.toks.length) : e.meas { s with pos := s.pos + 1 } + 3 ≤ e.meas s := by simp [Src.meas]; omega
theorem step_expect (ws : List Bs) (h : s.pos ≤ e.toks.length) : StepP e 0 s (expectP e s ws).2 := by
  unfold expectP
  by_cases hi : isP e s 0 ws = true
  · rw [if_pos hi]; exact step_next (isP_lt hi)
  · rw [if_neg hi]; exact step_fail h
theorem expect_more (ws : List Bs) (h : s.pos < e.toks.length) : e.meas (expectP e s ws).2 + 3 ≤ e.meas s := by
  unfold expectP
  by_cases hi : isP e s 0 ws = true
  · rw [if_pos hi]; exact next_more (isP_lt hi)
  · rw [if_neg hi]; exact fail_more h
theorem step_take (k : Int) (h : s.pos ≤ e.toks.length) : StepP e 0 s (takeP e s k).2 := by
  unfold takeP
  by_cases hi : isKindP e s 0 k = true
  · rw [if_pos hi]; exact step_next (isKindP_lt hi)
  · rw [if_neg hi]; exact step_fail h
theorem take_more (k : Int) (h : s.pos < e.toks.length) : e.meas (takeP e s k).2 + 3 ≤ e.meas s := by
  unfold takeP
  by_cases hi : isKindP e s 0 k = true
  · rw [if_pos hi]; exact next_more (isKindP_lt hi)
  · rw [if_neg hi]; exact fail_more h
theorem take_refs (k : Int) : (takeP e s k).2.refs = s.refs := by
  unfold takeP
  split <;> rfl
theorem expect_refs (ws : List Bs) : (expectP e s ws).2.refs = s.refs := by
  unfold expectP
  split <;> rfl
theorem step_ref (right : Bool) (h : s.pos ≤ e.toks.length) : StepP e 1 s (refP e right s).2 := by
  have h1 := step_take (e := e) (s := s) 1 h
  have h2 := h1.meas
  refine ⟨h1.le, h1.ok, by simp [refP], ?_⟩
  unfold refP Src.meas at *
  simp only [take_refs, List.length_append, List.length_cons, List.length_nil] at h2 ⊢
  omega
theorem StepP.after (h : StepP e 0 s s1) (hm : e.meas s1 + 3 ≤ e.meas s) (h2 : StepP e j s1 s2) (hk : j ≤ k + 3) : StepP e k s s2 := ⟨Nat.le_trans h.le h2.le, h2.ok, Nat.le_trans h.refs h2.refs, by have := h2.meas; omega⟩
end
theorem fun_ar (w : Bs) : (arity (funP w)).toNat - 1 ≤ 2 := by
  unfold funP
  (repeat' split) <;> decide
theorem parse_steps (e : Src) : ∀ f, (∀ lv s, s.pos ≤ e.toks.length → StepP e 1 s (parseP e f lv s).2) ∧ (∀ lv x s, s.pos ≤ e.toks.length → StepP e 0 s (chainP e f lv x s).2) ∧ (∀ k l s, s.pos ≤ e.toks.length → StepP e k s (argsP e f k l s).2) := by
  intro f
  induction f with
  | zero =>
    refine ⟨fun lv s h => ?_, fun lv x s h => ?_, fun k l s h => ?_⟩
    · unfold parseP; exact StepP.refl h
    · unfold chainP; exact StepP.refl h
    · unfold argsP; exact StepP.refl h
  | succ f ih =>
    obtain ⟨ihp, ihc, iha⟩ := ih
    have chainlike : ∀ lv s, s.pos ≤ e.toks.length → StepP e 1 s (chainP e f (lv + 1) (parseP e f lv s).1 (parseP e f lv s).2).2 := fun lv s h => by
      have h1 := ihp lv s h
      exact h1.trans (ihc _ _ _ h1.ok) (by omega)
    refine ⟨fun lv s h => ?_, fun lv x s h => ?_, fun k l s h => ?_⟩
    · match lv with
      | 0 =>
        unfold parseP
        by_cases h1 : isKindP e s 0 2 = true
        · simp only [if_pos h1]; exact (step_take 2 h).trans (StepP.refl (j := 0) (step_take 2 h).ok) (by omega)
        simp only [if_neg h1]
        by_cases h2 : isKindP e s 0 3 = true
        · simp only [if_pos h2]; exact (step_take 3 h).trans (StepP.refl (j := 0) (step_take 3 h).ok) (by omega)
        simp only [if_neg h2]
        by_cases h3 : isP e s 0 [[40]] = true
        · simp only [if_pos h3]
          have q0 := step_next (isP_lt h3)
          have q1 := ihp 6 _ q0.ok
          exact (q0.trans q1 (k := 1) (by omega)).trans (step_expect [[41]] q1.ok) (by omega)
        simp only [if_neg h3]
        by_cases h4 : isP e s 0 wFuncs = true ∧ isP e s 1 [[40]] = true
        · simp only [if_pos h4]
          have q0 := step_take (e := e) (s := s) 1 h
          have m0 := take_more (e := e) (s := s) 1 (isP_lt h4.1)
          have q1 := step_expect (e := e) [[40]] q0.ok
          have q2 := ihp 6 _ q1.ok
          have q3 := iha ((arity (funP (takeP e s 1).1.text)).toNat - 1) [(parseP e f 6 (expectP e (takeP e s 1).2 [[40]]).2).1] _ q2.ok
          have hk := fun_ar (takeP e s 1).1.text
          have q4 := step_expect (e := e) [[41]] q3.ok
          exact q0.after m0 (j := 4) (((q1.trans q2 (k := 1) (by omega)).trans q3 (k := 4) (by omega)).trans q4 (by omega)) (by omega)
        simp only [if_neg h4]
        by_cases h5 : isP e s 0 [wLeft, wRight] = true ∧ isP e s 1 [[46]] = true
        · simp only [if_pos h5]
          have q0 := step_expect (e := e) (s := s) [wLeft, wRight] h
          have q1 := step_expect (e := e) [[46]] q0.ok
          exact (q0.trans q1 (k := 0) (by omega)).trans (step_ref _ q1.ok) (by omega)
        simp only [if_neg h5]
        exact step_ref false h
      | 1 =>
        unfold parseP
        by_cases h1 : isP e s 0 [[45]] = true
        · simp only [if_pos h1]
          have q0 := step_next (isP_lt h1)
          by_cases h2 : isKindP e { s with pos := s.pos + 1 } 0 2 = true
          · simp only [if_pos h2]
            exact q0.trans (step_take 2 q0.ok) (by omega)
          · simp only [if_neg h2]
            exact q0.trans (ihp 1 _ q0.ok) (by omega)
        simp only [if_neg h1]
        by_cases h2 : isP e s 0 [wNot] = true
        · simp only [if_pos h2]
          have q0 := step_next (isP_lt h2)
          exact q0.trans (ihp 1 _ q0.ok) (by omega)
        simp only [if_neg h2]
        exact ihp 0 s h
      | 4 =>
        unfold parseP
        have q0 := ihp 3 s h
        by_cases h1 : isP e (parseP e f 3 s).2 0 [[61], [60]] = true
        · simp only [if_pos h1]
          have q1 := step_expect (e := e) [[61], [60]] q0.ok
          have m1 := expect_more (e := e) (s := (parseP e f 3 s).2) [[61], [60]] (isP_lt h1)
          exact q0.trans (q1.after m1 (ihp 3 _ q1.ok) (k := 0) (by omega)) (by omega)
        simp only [if_neg h1]
        by_cases h2 : isP e (parseP e f 3 s).2 0 [[60, 61]] = true
        · simp only [if_pos h2]
          have q1 := step_next (isP_lt h2)
          have m1 := next_more (isP_lt h2)
          exact q0.trans (q1.after m1 (ihp 3 _ q1.ok) (k := 0) (by omega)) (by omega)
        simp only [if_neg h2]
        exact q0
      | 2 => unfold parseP; exact chainlike 1 s h
      | 3 => unfold parseP; exact chainlike 2 s h
      | lv + 5 => unfold parseP; exact chainlike (lv + 4) s h
    · unfold chainP
      by_cases h1 : isP e s 0 (opsP lv) = true
      · simp only [if_pos h1]
        have q0 := step_expect (e := e) (s := s) (opsP lv) h
        have m0 := expect_more (e := e) (s := s) (opsP lv) (isP_lt h1)
        have q1 := ihp (lv - 1) _ q0.ok
        exact q0.after m0 (q1.trans (ihc _ _ _ q1.ok) (k := 1) (by omega)) (by omega)
      · simp only [if_neg h1]
        exact StepP.refl h
    · match k with
      | 0 => unfold argsP; exact StepP.refl h
      | k + 1 =>
        unfold argsP
        have q0 := step_expect (e := e) (s := s) [[44]] h
        have q1 := ihp 6 _ q0.ok
        exact (q0.trans q1 (k := 1) (by omega)).trans (iha _ _ _ q1.ok) (by omega)
theorem parse_step (e : Src) (f lv : Nat) (s : Ps) (h : s.pos ≤ e.toks.length) : StepP e 1 s (parseP e f lv s).2 := (parse_steps e f).1 lv s h
open Go.RowKit
theorem grown_two {w w1 w2 : World} {r r1 : Option Nat} {m : Nat} (h : w.grownBy w1 r) (hr : r1 = r ∨ r1 = some m) (hm : w.heap.size ≤ m) (h1 : w1.grownBy w2 r1) : w.grownBy w2 r :=
  ⟨h1.os.trans h.os, h1.tape.trans h.tape, h1.output.trans h.output, Nat.le_trans h.size h1.size, fun k hk hne => (h1.block k (Nat.lt_of_lt_of_le hk h.size) (by
    rcases hr with e | e
    · rw [e]; exact hne
    · rw [e]; intro h0; injection h0 with h0; omega)).trans (h.block k hk hne)⟩
theorem take_all_succ {α : Type} (p : α → Bool) (l : List α) (k : Nat) (v : α) (h : l[k]? = some v) : (l.take (k + 1)).all p = ((l.take k).all p && p v) := by
  rw [List.take_add_one, h]; simp
theorem all_not_at {α : Type} (p : α → Bool) (l : List α) (k : Nat) (v : α) (h : l[k]? = some v) (hp : p v = false) : l.all p = false := by
  rw [Bool.eq_false_iff]
  intro h1
  have := List.all_eq_true.1 h1 v (List.mem_of_getElem? h)
  rw [hp] at this
  cases this
theorem RowOf.later {α : Type} {cells : α → List Value} {w w' : World} {A : Option Addr} {n : Nat} {xs : List α} (h : RowOf cells w w.heap.size A n xs) (hb : Below w.heap.size w w') : RowOf cells w' w'.heap.size A n xs := (h.below hb).more hb.size
abbrev RowK := @RowOf Tk Tk.cells
theorem stK : SliceTy Tryz.prog 47 100 4 40 := SliceTy.mk' Tryz.underlying47 (z := .agg #[.int .i64 0, .string ⟨#[]⟩, .int .i64 0, .int .i64 0]) (by kernel_rfl) rfl (by decide) (by decide)
theorem RowK.at4 {w : World} {B n : Nat} {A : Option Addr} {ts : List Tk} (h : RowK w B A n ts) {k : Nat} (hk : k < n) :
   ∃ b off t, A = some ⟨b, off, none⟩ ∧ b < B ∧ ts[k]? = some t ∧ w.cell? ⟨b, off + k * 4, none⟩ = some (.int .i64 t.kind) ∧ w.cell? ⟨b, off + k * 4 + 1, none⟩ = some (.string ⟨t.text.toArray⟩) ∧ w.cell? ⟨b, off + k * 4 + 2, none⟩ = some (.int .i64 t.int) ∧ w.cell? ⟨b, off + k * 4 + 3, none⟩ = some (.int .i64 t.pos) := by
  obtain ⟨b, off, t, h1, h2, h3, h4⟩ := h.at_ 4 (fun _ => rfl) (by omega) hk
  exact ⟨b, off, t, h1, h2, h3, h4 0 _ rfl, h4 1 _ rfl, h4 2 _ rfl, h4 3 _ rfl⟩
theorem stS : SliceTy Tryz.prog 25 9 1 16 := SliceTy.mk' Tryz.underlying25 (z := .string ⟨#[]⟩) (by kernel_rfl) rfl (by decide) (by decide)
def strV (l : List UInt8) : Value := .string ⟨l.toArray⟩
abbrev RowB := @RowOf (List UInt8) (fun l => [strV l])
structure PFr (S : Nat → Prop) (w w' : World) : Prop where
  os : w'.os = w.os
  tape : w'.tape = w.tape
  output : w'.output = w.output
  size : w.heap.size ≤ w'.heap.size
  block : ∀ k, k < w.heap.size → ¬ S k → w'.heap[k]? = w.heap[k]?
section
variable {S S' : Nat → Prop} {a w w' : World}
theorem PFr.refl (S : Nat → Prop) (w : World) : PFr S w w := ⟨rfl, rfl, rfl, Nat.le_refl _, fun _ _ _ => rfl⟩
theorem PFr.trans (h : PFr S a w) (h2 : PFr S' w w') (hS : ∀ k, k < a.heap.size → S' k → S k) : PFr S a w' :=
  ⟨h2.os.trans h.os, h2.tape.trans h.tape, h2.output.trans h.output, Nat.le_trans h.size h2.size, fun k hk hn => (h2.block k (Nat.lt_of_lt_of_le hk h.size) fun x => hn (hS k hk x)).trans (h.block k hk hn)⟩
theorem PFr.mono (h : PFr S' a w) (hS : ∀ k, k < a.heap.size → S' k → S k) : PFr S a w := ⟨h.os, h.tape, h.output, h.size, fun k hk hn => h.block k hk fun x => hn (hS k hk x)⟩
theorem PFr.of_below (h : Below a.heap.size a w) : PFr S a w := ⟨h.os, h.tape, h.output, h.size, fun k hk _ => h.block k hk⟩
theorem PFr.drew (h : PFr S a w) : PFr S a w.drew := ⟨h.os, h.tape, h.output, h.size, h.block⟩
theorem PFr.drewN (h : PFr S a w) (n : Nat) : PFr S a (w.drewN n) := ⟨h.os, h.tape, h.output, h.size, h.block⟩
theorem PFr.step (hb : Below w.heap.size w w') (h : PFr S a w) : PFr S a w' := h.trans (PFr.of_below (S := S) hb) fun _ _ x => x
theorem PFr.alloc (h : PFr S a w) (o : Obj) : PFr S a (w.alloc o) := h.step ((Below.refl w.heap.size w).alloc (Nat.le_refl _) o)
theorem PFr.setCell {q : Addr} (h : PFr S a w) (hq : S q.block ∨ a.heap.size ≤ q.block) (u : Value) : PFr S a (w.setCell q u) :=
  ⟨h.os, h.tape, h.output, by simpa [World.setCell] using h.size, fun k hk hn => (Below.heap_setCell w q u k (by
    rintro rfl
    rcases hq with hq | hq
    · exact hn hq
    · omega)).trans (h.block k hk hn)⟩
theorem PFr.grown {row : Option Nat} (h : PFr S a w) (hg : w.grownBy w' row) (hr : ∀ k, row = some k → k < a.heap.size → S k) : PFr S a w' :=
  ⟨hg.os.trans h.os, hg.tape.trans h.tape, hg.output.trans h.output, Nat.le_trans h.size hg.size, fun k hk hn => (hg.block k (Nat.lt_of_lt_of_le hk h.size) fun x => hn (hr k x.symm hk)).trans (h.block k hk hn)⟩
end
structure Pp where
  pb : Nat
  TA : Option Addr
  c : Nat
  e : Src
  res : Array Value
def refC (r : Tk × Bool) : List Value := r.1.cells ++ [.bool r.2]
def psC (p : Pp) (s : Ps) (rv : Value) : Array Value := #[.slice p.TA p.e.toks.length p.c, .int .i64 s.pos, .int .i64 p.e.fin, .bool s.failed, .int .i64 s.off, rv] ++ p.res
structure PsAt (p : Pp) (w : World) (s : Ps) (rv : Value) : Prop where
  blk : w.heap[p.pb]? = some (.cells (psC p s rv) 69 (0, 0))
  toks : RowK w p.pb p.TA p.e.toks.length p.e.toks
  ok : s.pos ≤ p.e.toks.length
  few : p.e.toks.length ≤ 100000
  refs : w.ownsRow (p.pb + 1) 105 5 rv s.refs.length (s.refs.flatMap refC)
section
variable {p : Pp} {w w' : World} {s : Ps} {rv : Value}
theorem PsAt.lt (h : PsAt p w s rv) : p.pb < w.heap.size := by
  rcases Nat.lt_or_ge p.pb w.heap.size with hl | hl
  · exact hl
  · have := h.blk
    rw [Array.getElem?_eq_none hl] at this
    cases this
theorem PsAt.below (h : PsAt p w s rv) (hb : Below w.heap.size w w') : PsAt p w' s rv :=
  ⟨(hb.block _ h.lt).trans h.blk, h.toks.below (hb.mono (Nat.le_of_lt h.lt)), h.ok, h.few, own_below h.refs hb⟩
theorem PsAt.alloc (h : PsAt p w s rv) (o : Obj) : PsAt p (w.alloc o) s rv := h.below ((Below.refl w.heap.size w).alloc (Nat.le_refl _) o)
theorem PsAt.drew (h : PsAt p w s rv) : PsAt p w.drew s rv := h.below (Below.refl _ _).drew
theorem PsAt.drewN (h : PsAt p w s rv) (n : Nat) : PsAt p (w.drewN n) s rv := h.below (below_drewN (Below.refl _ _) n)
theorem PsAt.cells (h : PsAt p w s rv) : (w.cell? ⟨p.pb, 0, none⟩ = some (.slice p.TA p.e.toks.length p.c) ∧ w.cell? ⟨p.pb, 1, none⟩ = some (.int .i64 s.pos) ∧ w.cell? ⟨p.pb, 2, none⟩ = some (.int .i64 p.e.fin) ∧ w.cell? ⟨p.pb, 3, none⟩ = some (.bool s.failed) ∧ w.cell? ⟨p.pb, 4, none⟩ = some (.int .i64 s.off) ∧ w.cell? ⟨p.pb, 5, none⟩ = some rv)
   ∧ (w.frozen? ⟨p.pb, 0, none⟩ = false ∧ w.frozen? ⟨p.pb, 1, none⟩ = false ∧ w.frozen? ⟨p.pb, 2, none⟩ = false ∧ w.frozen? ⟨p.pb, 3, none⟩ = false ∧ w.frozen? ⟨p.pb, 4, none⟩ = false ∧ w.frozen? ⟨p.pb, 5, none⟩ = false) := by
  have hc : ∀ i, w.cell? ⟨p.pb, i, none⟩ = (psC p s rv)[i]? := fun i => cell_of_row w p.pb i _ _ (0, 0) h.blk
  have hf : ∀ i, w.frozen? ⟨p.pb, i, none⟩ = false := fun i => by simp [World.frozen?, h.blk]
  refine ⟨⟨?_, ?_, ?_, ?_, ?_, ?_⟩, hf 0, hf 1, hf 2, hf 3, hf 4, hf 5⟩ <;>
  · rw [hc]
    unfold psC
    rw [Array.getElem?_append_left (by simp)]
    rfl
theorem heap_set {w : World} {b i : Nat} {cs : Array Value} {te : TypeId} (h : w.heap[b]? = some (.cells cs te (0, 0))) (u : Value) : (w.setCell ⟨b, i, none⟩ u).heap[b]? = some (.cells (cs.set! i u) te (0, 0)) := by
  simp only [World.setCell, Array.getElem?_modify, h]
  simp
theorem PsAt.set (h : PsAt p w s rv) (i : Nat) (u : Value) (s' : Ps) (hc : (psC p s rv).set! i u = psC p s' rv) (hr : s'.refs = s.refs) (hok : s'.pos ≤ p.e.toks.length) : PsAt p (w.setCell ⟨p.pb, i, none⟩ u) s' rv := by
  have hkeep : ∀ k, k ≠ p.pb → (w.setCell ⟨p.pb, i, none⟩ u).heap[k]? = w.heap[k]? := fun k hk => Below.heap_setCell w ⟨p.pb, i, none⟩ u k hk
  refine ⟨?_, h.toks.keep fun q hq => World.cell?_of_block (hkeep _ (by omega)), hok, h.few, ?_⟩
  · rw [heap_set h.blk, hc]
  · rw [hr]
    refine ⟨h.refs.1, ?_⟩
    rcases h.refs.2 with h2 | ⟨g, cap, cur, h3, h4, h5, h6⟩
    · exact .inl h2
    · exact .inr ⟨g, cap, cur, h3, h4, (hkeep _ (by omega)).trans h5, h6⟩
theorem psC_pos (k : Nat) : (psC p s rv).set! 1 (.int .i64 (k : Int)) = psC p { s with pos := k } rv := by
  unfold psC
  rw [Array.set!_eq_setIfInBounds, Array.setIfInBounds_append_left (by simp)]
  rfl
theorem PsAt.setPos (h : PsAt p w s rv) (k : Nat) (hk : k ≤ p.e.toks.length) : PsAt p (w.setCell ⟨p.pb, 1, none⟩ (.int .i64 (k : Int))) { s with pos := k } rv :=
  h.set 1 _ _ (psC_pos k) rfl hk
theorem PsAt.setNext (h : PsAt p w s rv) (hk : s.pos + 1 ≤ p.e.toks.length) : PsAt p (w.setCell ⟨p.pb, 1, none⟩ (.int .i64 ((s.pos : Int) + 1))) { s with pos := s.pos + 1 } rv := h.setPos (s.pos + 1) hk
theorem psC_failed (b : Bool) : (psC p s rv).set! 3 (.bool b) = psC p { s with failed := b } rv := by
  unfold psC
  rw [Array.set!_eq_setIfInBounds, Array.setIfInBounds_append_left (by simp)]
  rfl
theorem PsAt.setFailed (h : PsAt p w s rv) (b : Bool) : PsAt p (w.setCell ⟨p.pb, 3, none⟩ (.bool b)) { s with failed := b } rv :=
  h.set 3 _ _ (psC_failed b) rfl h.ok
theorem psC_off (z : Int) : (psC p s rv).set! 4 (.int .i64 z) = psC p { s with off := z } rv := by
  unfold psC
  rw [Array.set!_eq_setIfInBounds, Array.setIfInBounds_append_left (by simp)]
  rfl
theorem PsAt.setOff (h : PsAt p w s rv) (z : Int) : PsAt p (w.setCell ⟨p.pb, 4, none⟩ (.int .i64 z)) { s with off := z } rv :=
  h.set 4 _ _ (psC_off z) rfl h.ok
theorem PsAt.tok (h : PsAt p w s rv) {k : Nat} (hk : k < p.e.toks.length) : ∃ b off t, p.TA = some ⟨b, off, none⟩ ∧ b < p.pb ∧ p.e.toks[k]? = some t ∧ w.cell? ⟨b, off + k * 4, none⟩ = some (.int .i64 t.kind) ∧ w.cell? ⟨b, off + k * 4 + 1, none⟩ = some (.string ⟨t.text.toArray⟩) ∧ w.cell? ⟨b, off + k * 4 + 2, none⟩ = some (.int .i64 t.int) ∧ w.cell? ⟨b, off + k * 4 + 3, none⟩ = some (.int .i64 t.pos) :=
  RowK.at4 h.toks hk
end
theorem alloc_ex {p : Pp} {w : World} {s : Ps} {rv : Value} (h : PsAt p w s rv) (S : Nat → Prop) (cs : Array Value) (te : TypeId) :
    ∃ z w0, w.heap.size = z ∧ w.alloc (.cells cs te) = w0 ∧ PsAt p w0 s rv ∧ PFr S w w0 ∧ w0.heap[z]? = some (.cells cs te) ∧ w.heap.size ≤ z ∧ p.pb < z ∧ z < w0.heap.size :=
  ⟨_, _, rfl, rfl, h.alloc _, (PFr.refl S w).alloc _, heap_alloc_new w _, Nat.le_refl _, h.lt, by simp⟩
theorem PsAt.far {p : Pp} {w w' : World} {s : Ps} {rv : Value} {z : Nat} {cs : Array Value} {te : TypeId} (h : PsAt p w s rv) (hz : w.heap[z]? = some (.cells cs te (0, 0))) (hte : te ≠ 105) (hlt : p.pb < z) (hf : PFr (· = z) w w') : PsAt p w' s rv := by
  have hl := h.lt
  refine ⟨(hf.block _ hl (by omega)).trans h.blk, h.toks.keep fun q hq => World.cell?_of_block (hf.block _ (by omega) (by omega)), h.ok, h.few, h.refs.1, ?_⟩
  rcases h.refs.2 with h2 | ⟨g, cap, cur, h3, h4, h5, h6⟩
  · exact .inl h2
  · refine .inr ⟨g, cap, cur, h3, h4, (hf.block _ ?_ ?_).trans h5, h6⟩
    · rcases Nat.lt_or_ge g w.heap.size with hl | hl
      · exact hl
      · rw [Array.getElem?_eq_none hl] at h5; cases h5
    · rintro rfl
      rw [hz] at h5
      injection h5 with h5
      injection h5 with _ h5
      exact hte h5
theorem blk_cells {w : World} {b : Nat} {cs : Array Value} {t : TypeId} (h : w.heap[b]? = some (.cells cs t (0, 0))) : (∀ i, w.cell? ⟨b, i, none⟩ = cs[i]?) ∧ (∀ i, w.frozen? ⟨b, i, none⟩ = false) :=
  ⟨fun i => cell_of_row w b i cs t (0, 0) h, fun i => by simp [World.frozen?, h]⟩
def BPost (w : World) (b : Bool) (e : Ending) (w' : World) : Prop := e = .returned (.bool b) ∧ Below w.heap.size w w'
def GoPost (p : Pp) (w : World) (s' : Ps) (rv : Value) (v : Value) (e : Ending) (w' : World) : Prop := e = .returned v ∧ PsAt p w' s' rv ∧ PFr (· = p.pb) w w'
theorem pfrQ {P : Prop} (h : P := by (repeat (first | (with_reducible exact PFr.refl _ _) | (with_reducible assumption) | (with_reducible refine PFr.drew ?_) | (with_reducible refine PFr.drewN ?_ _) | ((with_reducible refine PFr.setCell ?_ ?_ _); rotate_left; (focus (first | (simp; done) | (simp; omega) | omega | (right; simp; done) | (right; simp; omega) | (right; omega)))) | (with_reducible refine PFr.alloc ?_ _) | ((with_reducible apply PFr.step); (focus (with_reducible assumption)))))) : P := h
end Go.Proofs.YtpnfbehbheddeaaGreatDoor
