/- Texts made of pieces: what the scanner reads of them, and that their parentheses are balanced. Plain Lean, no program in sight. Rows of tokens and of texts. No condition. The parser in memory: where it lies and what it holds. No condition. -/
import Derived.Test.YtpnfbehbheddeaaGreatDoorBn05
import Derived.Test.YtpnfbehbheddeaaGreatDoorBn06
import Derived.Test.YtpnfbehbheddeaaGreatDoorBn03
import Derived.Test.YtpnfbehbheddeaaGreatDoorBn00
import Derived.Test.YtpnfbehbheddeaaGreatDoorBn04
namespace Go.Proofs.YtpnfbehbheddeaaGreatDoor
set_option maxRecDepth 100000
set_option maxHeartbeats 8000000
set_option linter.unusedVariables false
set_option linter.unusedSimpArgs false
def RdF (s : Bs) (ts : List Tk) (A : Option UInt8 → Bool) : Prop := ∀ (S : Bs) (p : Nat) (acc : List Tk) (X : List Tk × Nat × Int) (r : Bs), S.drop p = s ++ r → A r.head? = true → ScanTo S p acc X → acc.length + ts.length ≤ 4096 → ∃ ts', sameTk ts' ts ∧ ScanTo S (p + s.length) (acc ++ ts') X
theorem sameTk_app {a b c d : List Tk} (h1 : sameTk a b) (h2 : sameTk c d) : sameTk (a ++ c) (b ++ d) := by
  unfold sameTk at *
  rw [List.map_append, List.map_append, h1, h2]
theorem sameTk_length {l m : List Tk} (h : sameTk l m) : l.length = m.length := by simpa using congrArg List.length h
theorem drop_app {S s r : Bs} {p : Nat} (h : S.drop p = s ++ r) : S.drop (p + s.length) = r := by
  rw [← List.drop_drop, h, List.drop_left]
theorem RdF.app {s1 s2 : Bs} {ts1 ts2 : List Tk} {A1 A2 : Option UInt8 → Bool} (h1 : RdF s1 ts1 A1) (h2 : RdF s2 ts2 A2) (hn : s2 ≠ []) (hA : A1 s2.head? = true) : RdF (s1 ++ s2) (ts1 ++ ts2) A2 := by
  intro S p acc X r hS hr hX hl
  rw [List.append_assoc] at hS
  rw [List.length_append] at hl
  have hh : (s2 ++ r).head? = s2.head? := by cases s2 with
    | nil => exact absurd rfl hn
    | cons c s2 => rfl
  obtain ⟨t1, a1, a2⟩ := h1 S p acc X (s2 ++ r) hS (by rw [hh]; exact hA) hX (by omega)
  have hS2 := drop_app hS
  obtain ⟨t2, b1, b2⟩ := h2 S (p + s1.length) (acc ++ t1) X r hS2 hr a2 (by rw [List.length_append, sameTk_length a1]; omega)
  exact ⟨t1 ++ t2, sameTk_app a1 b1, by rw [List.length_append, ← Nat.add_assoc, ← List.append_assoc]; exact b2⟩
theorem RdF.weak {s : Bs} {ts : List Tk} {A B : Option UInt8 → Bool} (h : RdF s ts A) (hAB : ∀ o, B o = true → A o = true) : RdF s ts B := fun S p acc X r h1 h2 h3 h4 => h S p acc X r h1 (hAB _ h2) h3 h4
theorem RdF.sp : RdF [32] [] (fun _ => true) := by
  intro S p acc X r hS _ hX _
  have hc : S[p]? = some 32 := by
    have := congrArg (fun l : Bs => l[0]?) hS
    simpa using this
  exact ⟨[], rfl, by rw [List.append_nil]; exact hX.ws hc (.inl rfl)⟩
theorem RdF.tok {w : Bs} {t : Tk} {A : Option UInt8 → Bool} (ht : ∀ r : Bs, A r.head? = true → tokO (w ++ r) = (t, w.length, 0)) (hw : w ≠ []) (hws : ∀ c ∈ w.head?, ¬ wsB c) : RdF w [t] A := by
  intro S p acc X r hS hr hX hl
  obtain ⟨c, w', rfl⟩ : ∃ c w', w = c :: w' := by cases w with
    | nil => exact absurd rfl hw
    | cons c w' => exact ⟨c, w', rfl⟩
  have hc : S[p]? = some c := by
    have := congrArg (fun l : Bs => l[0]?) hS
    simpa using this
  obtain ⟨-, -, h3⟩ := hX.tok hc (hws c rfl) (t := t) (n := (c :: w').length) (e := 0) (by rw [hS]; exact ht r hr)
  simp only [List.length_cons, List.length_nil] at hl
  obtain ⟨h4, -, -⟩ := h3 rfl (by omega)
  exact ⟨[{ t with pos := (p : Int) }], rfl, h4⟩
def afterN (o : Option UInt8) : Bool := match o with
  | none => true
  | some c => !inNm c
def afterD (o : Option UInt8) : Bool := match o with
  | none => true
  | some c => !isDig c
theorem takeWhile_after {p : UInt8 → Bool} {A : Option UInt8 → Bool} (hA : ∀ c, A (some c) = true → p c = false) {r : Bs} (hr : A r.head? = true) : ∀ l : Bs, l.all p = true → (l ++ r).takeWhile p = l
  | [], _ => by
    cases r with
    | nil => rfl
    | cons c r => rw [List.nil_append, List.takeWhile_cons, hA c hr]; rfl
  | a :: l, h => by
    rw [List.all_cons, Bool.and_eq_true] at h
    rw [List.cons_append, List.takeWhile_cons, h.1, if_pos rfl, takeWhile_after hA hr l h.2]
theorem rd_name {w : Bs} (h : isNameB w = true) : RdF w [⟨1, w, 0, 0⟩] afterN := by
  have h' := h
  unfold isNameB at h
  simp only [Bool.and_eq_true, decide_eq_true_eq] at h
  obtain ⟨h1, h2, h3⟩ := h
  obtain ⟨c, w, rfl⟩ : ∃ c w', w = c :: w' := by cases w with
    | nil => exact absurd rfl h1
    | cons c w' => exact ⟨c, w', rfl⟩
  rw [isNameB_ref] at h'
  simp only [Bool.and_eq_true, decide_eq_true_eq] at h'
  obtain ⟨-, h4, h5⟩ := h'
  rw [List.all_cons, Bool.and_eq_true] at h5
  refine RdF.tok (fun r hr => ?_) (by simp) (fun d hd hw => ?_)
  · have e1 : (w ++ r).takeWhile inNm = w := takeWhile_after (A := afterN) (fun c hc => by unfold afterN at hc; simpa using hc) hr w h5.2
    have e2 : nameLen (c :: w ++ r) = (c :: w).length := by
      rw [List.cons_append, nameLen, if_pos h4, e1, List.length_cons, Nat.add_comm]
    unfold tokO
    rw [if_pos (show isLet ((c :: w ++ r).getD 0 0) = true from h4), e2, if_neg (by omega), List.take_left]
  · have hd : d = c := by simpa using hd.symm
    subst hd
    unfold wsB at hw
    rcases hw with rfl | rfl | rfl | rfl | rfl <;> revert h4 <;> decide
theorem rd_digit {u : Nat} (hu : u ≤ 9) : RdF (Lib.decDigits u) [⟨2, [], (u : Int), 0⟩] afterD := by
  obtain ⟨-, d2, d3, -⟩ := digits_facts u u (Nat.le_refl _)
  have hp := pInt_digits u (by omega)
  generalize Lib.decDigits u = d at d2 d3 hp
  obtain ⟨c, w, rfl⟩ : ∃ c w', d = c :: w' := by cases d with
    | nil => exact absurd rfl d3
    | cons c w' => exact ⟨c, w', rfl⟩
  have hc : isDig c = true := by rw [List.all_cons, Bool.and_eq_true] at d2; exact d2.1
  have hl : isLet c = false := by
    cases hq : isLet c with
    | false => rfl
    | true =>
      have := isDig_nat hc
      unfold isLet at hq
      simp at hq
      omega
  refine RdF.tok (fun r hr => ?_) (by simp) (fun e he hw => ?_)
  · have e1 : (c :: w ++ r).takeWhile isDig = c :: w := takeWhile_after (A := afterD) (fun c hc => by unfold afterD at hc; simpa using hc) hr _ d2
    unfold tokO
    rw [if_neg (show ¬ isLet ((c :: w ++ r).getD 0 0) = true from by show ¬ isLet c = true; rw [hl]; simp), if_pos (show isDig ((c :: w ++ r).getD 0 0) = true from hc), e1, hp]
    rfl
  · have he : e = c := by simpa using he.symm
    subst he
    unfold wsB at hw
    rcases hw with rfl | rfl | rfl | rfl | rfl <;> revert hc <;> decide
theorem rd_text {t : Bs} (h : t.length ≤ 32) : RdF (34 :: (t.flatMap qbyte ++ [34])) [⟨3, t, 0, 0⟩] (fun _ => true) := by
  refine RdF.tok (fun r _ => ?_) (by simp) (fun e he hw => ?_)
  · unfold tokO
    have he : (34 :: (t.flatMap qbyte ++ [34]) ++ r).drop 1 = t.flatMap qbyte ++ 34 :: r := by simp
    have hd : (34 :: (t.flatMap qbyte ++ [34]) ++ r : Bs).getD 0 0 = (34 : UInt8) := rfl
    rw [hd, if_neg (by decide), if_neg (by decide), if_pos rfl, he, unqR_quote]
    simp only
    rw [if_neg (by omega)]
    simp
  · have he : e = 34 := by simpa using he.symm
    subst he
    unfold wsB at hw
    revert hw
    decide
theorem rd_sign {c : UInt8} {w : Bs} {A : Option UInt8 → Bool} (h1 : isLet c = false) (h2 : isDig c = false) (h3 : c ≠ 34) (hws : ¬ wsB c) (hs : ∀ r : Bs, A r.head? = true → signLen (c :: w ++ r) = (c :: w).length) : RdF (c :: w) [⟨4, c :: w, 0, 0⟩] A := by
  refine RdF.tok (fun r hr => ?_) (by simp) (fun e he hw => ?_)
  · have hl := hs r hr
    unfold tokO
    rw [show (c :: w ++ r).getD 0 0 = c from rfl, if_neg (by rw [h1]; simp), if_neg (by rw [h2]; simp), if_neg h3, hl, if_neg (by simp), List.take_left]
  · have he : e = c := by simpa using he.symm
    subst he
    exact hws hw
theorem signLen_one {c : UInt8} (h1 : signL.contains c = true) (h2 : c ≠ 43) (h3 : c ≠ 60) (r : Bs) : signLen (c :: r) = 1 := by
  unfold signLen
  rw [if_neg, if_pos ⟨by simp, h1⟩]
  cases r with
  | nil => simp
  | cons d r => simp [h2, h3]
theorem signLen_not {c d : UInt8} (h1 : signL.contains c = true) (h2 : [c, d] ≠ [43, 43]) (h3 : [c, d] ≠ [60, 61]) (r : Bs) : signLen (c :: d :: r) = 1 := by
  unfold signLen
  rw [if_neg, if_pos ⟨by simp, h1⟩]
  simp only [List.take_succ_cons, List.take_zero]
  intro h
  rcases h with h | h
  · exact h2 h
  · exact h3 h
def anyR (_ : Option UInt8) : Bool := true
theorem rd_one {c : UInt8} (h1 : signL.contains c = true) (h2 : c ≠ 43) (h3 : c ≠ 60) (h4 : isLet c = false) (h5 : isDig c = false) (h6 : c ≠ 34) (hws : ¬ wsB c) : RdF [c] [⟨4, [c], 0, 0⟩] anyR := rd_sign h4 h5 h6 hws fun r _ => signLen_one h1 h2 h3 r
def spR (o : Option UInt8) : Bool := o == some 32
theorem rd_plus : RdF [43] [⟨4, [43], 0, 0⟩] spR := rd_sign (by decide) (by decide) (by decide) (by unfold wsB; decide) fun r hr => by
  cases r with
  | nil => cases hr
  | cons d r =>
    have hd : d = 32 := by simpa [spR] using hr
    subst hd
    exact signLen_not (by decide) (by decide) (by decide) r
theorem rd_two {c d : UInt8} (h : [c, d] = [43, 43] ∨ [c, d] = [60, 61]) : RdF [c, d] [⟨4, [c, d], 0, 0⟩] anyR := by
  have key : ∀ r : Bs, signLen ([c, d] ++ r) = 2 := fun r => by
    unfold signLen
    rw [if_pos]
    simpa using h
  rcases h with h | h <;> (injection h with h1 h2; injection h2 with h2; subst h1 h2; exact rd_sign (by decide) (by decide) (by decide) (by unfold wsB; decide) fun r _ => key r)
def noEq (o : Option UInt8) : Bool := match o with
  | none => true
  | some c => c != 61
theorem rd_less : RdF [60] [⟨4, [60], 0, 0⟩] noEq := rd_sign (by decide) (by decide) (by decide) (by unfold wsB; decide) fun r hr => by
  cases r with
  | nil => decide
  | cons d r =>
    have hd : d ≠ 61 := by simpa [noEq] using hr
    exact signLen_not (by decide) (by simp) (by simpa using hd) r
def stepPar (n : Nat) (t : Tk) : Option Nat := if parW t = 1 then some (n + 1) else if parW t = -1 then (if n = 0 then none else some (n - 1)) else some n
def runP : Nat → List Tk → Option Nat
  | n, [] => some n
  | n, t :: l => (stepPar n t).bind fun m => runP m l
theorem runP_app : ∀ (a b : List Tk) (n : Nat), runP n (a ++ b) = (runP n a).bind fun m => runP m b
  | [], b, n => rfl
  | t :: a, b, n => by
    rw [List.cons_append, runP, runP]
    cases stepPar n t with
    | none => rfl
    | some m => exact runP_app a b m
theorem parW_cases (t : Tk) : parW t = 1 ∨ parW t = -1 ∨ parW t = 0 := by
  unfold parW
  (repeat' split) <;> simp
theorem stepPar_some {n m : Nat} {t : Tk} (h : stepPar n t = some m) : (m : Int) = n + parW t := by
  unfold stepPar at h
  rcases parW_cases t with hp | hp | hp
  · rw [if_pos hp] at h; injection h with h; omega
  · rw [if_neg (by omega), if_pos hp] at h
    split at h
    · cases h
    · injection h with h; omega
  · rw [if_neg (by omega), if_neg (by omega)] at h; injection h with h; omega
theorem runP_bal : ∀ (l : List Tk) (n m : Nat), runP n l = some m → (∀ i, 0 ≤ (n : Int) + bal l i) ∧ (n : Int) + bal l l.length = m
  | [], n, m, h => by
    rw [runP] at h
    injection h with h
    subst h
    refine ⟨fun i => ?_, ?_⟩
    · simp only [bal, List.take_nil, List.map_nil, List.sum_nil]; omega
    · simp [bal]
  | t :: l, n, m, h => by
    have hb : ∀ i, bal (t :: l) (i + 1) = parW t + bal l i := fun i => by unfold bal; rw [List.take_succ_cons, List.map_cons, List.sum_cons]
    have h0 : bal (t :: l) 0 = 0 := rfl
    rw [runP] at h
    cases hs : stepPar n t with
    | none => rw [hs] at h; cases h
    | some n' =>
      rw [hs] at h
      have h2 := stepPar_some hs
      obtain ⟨q1, q2⟩ := runP_bal l n' m h
      refine ⟨fun i => ?_, ?_⟩
      · cases i with
        | zero => rw [h0]; omega
        | succ i => rw [hb]; have := q1 i; omega
      · rw [List.length_cons, hb]; omega
open Go.RowKit
abbrev RowK := @RowOf Tk Tk.cells
theorem stK : SliceTy Tryz.prog 47 100 4 40 := SliceTy.mk' Tryz.underlying47 (z := .agg #[.int .i64 0, .string ⟨#[]⟩, .int .i64 0, .int .i64 0]) (by kernel_rfl) rfl (by decide) (by decide)
theorem RowK.at4 {w : World} {B n : Nat} {A : Option Addr} {ts : List Tk} (h : RowK w B A n ts) {k : Nat} (hk : k < n) :
   ∃ b off t, A = some ⟨b, off, none⟩ ∧ b < B ∧ ts[k]? = some t ∧ w.cell? ⟨b, off + k * 4, none⟩ = some (.int .i64 t.kind) ∧ w.cell? ⟨b, off + k * 4 + 1, none⟩ = some (.string ⟨t.text.toArray⟩) ∧ w.cell? ⟨b, off + k * 4 + 2, none⟩ = some (.int .i64 t.int) ∧ w.cell? ⟨b, off + k * 4 + 3, none⟩ = some (.int .i64 t.pos) := by
  obtain ⟨b, off, t, h1, h2, h3, h4⟩ := h.at_ 4 (fun _ => rfl) (by omega) hk
  exact ⟨b, off, t, h1, h2, h3, h4 0 _ rfl, h4 1 _ rfl, h4 2 _ rfl, h4 3 _ rfl⟩
theorem stS : SliceTy Tryz.prog 25 9 1 16 := SliceTy.mk' Tryz.underlying25 (z := .string ⟨#[]⟩) (by kernel_rfl) rfl (by decide) (by decide)
def strV (l : List UInt8) : Value := .string ⟨l.toArray⟩
abbrev RowB := @RowOf (List UInt8) (fun l => [strV l])
structure PFr (S : Nat → Prop) (w w' : World) : Prop where
  os : w'.os = w.os
  tape : w'.tape = w.tape
  output : w'.output = w.output
  size : w.heap.size ≤ w'.heap.size
  block : ∀ k, k < w.heap.size → ¬ S k → w'.heap[k]? = w.heap[k]?
section
variable {S S' : Nat → Prop} {a w w' : World}
theorem PFr.refl (S : Nat → Prop) (w : World) : PFr S w w := ⟨rfl, rfl, rfl, Nat.le_refl _, fun _ _ _ => rfl⟩
theorem PFr.trans (h : PFr S a w) (h2 : PFr S' w w') (hS : ∀ k, k < a.heap.size → S' k → S k) : PFr S a w' :=
  ⟨h2.os.trans h.os, h2.tape.trans h.tape, h2.output.trans h.output, Nat.le_trans h.size h2.size, fun k hk hn => (h2.block k (Nat.lt_of_lt_of_le hk h.size) fun x => hn (hS k hk x)).trans (h.block k hk hn)⟩
theorem PFr.mono (h : PFr S' a w) (hS : ∀ k, k < a.heap.size → S' k → S k) : PFr S a w := ⟨h.os, h.tape, h.output, h.size, fun k hk hn => h.block k hk fun x => hn (hS k hk x)⟩
theorem PFr.of_below (h : Below a.heap.size a w) : PFr S a w := ⟨h.os, h.tape, h.output, h.size, fun k hk _ => h.block k hk⟩
theorem PFr.drew (h : PFr S a w) : PFr S a w.drew := ⟨h.os, h.tape, h.output, h.size, h.block⟩
theorem PFr.drewN (h : PFr S a w) (n : Nat) : PFr S a (w.drewN n) := ⟨h.os, h.tape, h.output, h.size, h.block⟩
theorem PFr.step (hb : Below w.heap.size w w') (h : PFr S a w) : PFr S a w' := h.trans (PFr.of_below (S := S) hb) fun _ _ x => x
theorem PFr.alloc (h : PFr S a w) (o : Obj) : PFr S a (w.alloc o) := h.step ((Below.refl w.heap.size w).alloc (Nat.le_refl _) o)
theorem PFr.setCell {q : Addr} (h : PFr S a w) (hq : S q.block ∨ a.heap.size ≤ q.block) (u : Value) : PFr S a (w.setCell q u) :=
  ⟨h.os, h.tape, h.output, by simpa [World.setCell] using h.size, fun k hk hn => (Below.heap_setCell w q u k (by
    rintro rfl
    rcases hq with hq | hq
    · exact hn hq
    · omega)).trans (h.block k hk hn)⟩
theorem PFr.grown {row : Option Nat} (h : PFr S a w) (hg : w.grownBy w' row) (hr : ∀ k, row = some k → k < a.heap.size → S k) : PFr S a w' :=
  ⟨hg.os.trans h.os, hg.tape.trans h.tape, hg.output.trans h.output, Nat.le_trans h.size hg.size, fun k hk hn => (hg.block k (Nat.lt_of_lt_of_le hk h.size) fun x => hn (hr k x.symm hk)).trans (h.block k hk hn)⟩
end
structure Pp where
  pb : Nat
  TA : Option Addr
  c : Nat
  e : Src
  res : Array Value
def refC (r : Tk × Bool) : List Value := r.1.cells ++ [.bool r.2]
def psC (p : Pp) (s : Ps) (rv : Value) : Array Value := #[.slice p.TA p.e.toks.length p.c, .int .i64 s.pos, .int .i64 p.e.fin, .bool s.failed, .int .i64 s.off, rv] ++ p.res
structure PsAt (p : Pp) (w : World) (s : Ps) (rv : Value) : Prop where
  blk : w.heap[p.pb]? = some (.cells (psC p s rv) 69 (0, 0))
  toks : RowK w p.pb p.TA p.e.toks.length p.e.toks
  ok : s.pos ≤ p.e.toks.length
  few : p.e.toks.length ≤ 100000
  refs : w.ownsRow (p.pb + 1) 105 5 rv s.refs.length (s.refs.flatMap refC)
section
variable {p : Pp} {w w' : World} {s : Ps} {rv : Value}
theorem PsAt.lt (h : PsAt p w s rv) : p.pb < w.heap.size := by
  rcases Nat.lt_or_ge p.pb w.heap.size with hl | hl
  · exact hl
  · have := h.blk
    rw [Array.getElem?_eq_none hl] at this
    cases this
theorem PsAt.below (h : PsAt p w s rv) (hb : Below w.heap.size w w') : PsAt p w' s rv :=
  ⟨(hb.block _ h.lt).trans h.blk, h.toks.below (hb.mono (Nat.le_of_lt h.lt)), h.ok, h.few, own_below h.refs hb⟩
theorem PsAt.alloc (h : PsAt p w s rv) (o : Obj) : PsAt p (w.alloc o) s rv := h.below ((Below.refl w.heap.size w).alloc (Nat.le_refl _) o)
theorem PsAt.drew (h : PsAt p w s rv) : PsAt p w.drew s rv := h.below (Below.refl _ _).drew
theorem PsAt.drewN (h : PsAt p w s rv) (n : Nat) : PsAt p (w.drewN n) s rv := h.below (below_drewN (Below.refl _ _) n)
theorem PsAt.cells (h : PsAt p w s rv) : (w.cell? ⟨p.pb, 0, none⟩ = some (.slice p.TA p.e.toks.length p.c) ∧ w.cell? ⟨p.pb, 1, none⟩ = some (.int .i64 s.pos) ∧ w.cell? ⟨p.pb, 2, none⟩ = some (.int .i64 p.e.fin) ∧ w.cell? ⟨p.pb, 3, none⟩ = some (.bool s.failed) ∧ w.cell? ⟨p.pb, 4, none⟩ = some (.int .i64 s.off) ∧ w.cell? ⟨p.pb, 5, none⟩ = some rv)
   ∧ (w.frozen? ⟨p.pb, 0, none⟩ = false ∧ w.frozen? ⟨p.pb, 1, none⟩ = false ∧ w.frozen? ⟨p.pb, 2, none⟩ = false ∧ w.frozen? ⟨p.pb, 3, none⟩ = false ∧ w.frozen? ⟨p.pb, 4, none⟩ = false ∧ w.frozen? ⟨p.pb, 5, none⟩ = false) := by
  have hc : ∀ i, w.cell? ⟨p.pb, i, none⟩ = (psC p s rv)[i]? := fun i => cell_of_row w p.pb i _ _ (0, 0) h.blk
  have hf : ∀ i, w.frozen? ⟨p.pb, i, none⟩ = false := fun i => by simp [World.frozen?, h.blk]
  refine ⟨⟨?_, ?_, ?_, ?_, ?_, ?_⟩, hf 0, hf 1, hf 2, hf 3, hf 4, hf 5⟩ <;>
  · rw [hc]
    unfold psC
    rw [Array.getElem?_append_left (by simp)]
    rfl
theorem heap_set {w : World} {b i : Nat} {cs : Array Value} {te : TypeId} (h : w.heap[b]? = some (.cells cs te (0, 0))) (u : Value) : (w.setCell ⟨b, i, none⟩ u).heap[b]? = some (.cells (cs.set! i u) te (0, 0)) := by
  simp only [World.setCell, Array.getElem?_modify, h]
  simp
theorem PsAt.set (h : PsAt p w s rv) (i : Nat) (u : Value) (s' : Ps) (hc : (psC p s rv).set! i u = psC p s' rv) (hr : s'.refs = s.refs) (hok : s'.pos ≤ p.e.toks.length) : PsAt p (w.setCell ⟨p.pb, i, none⟩ u) s' rv := by
  have hkeep : ∀ k, k ≠ p.pb → (w.setCell ⟨p.pb, i, none⟩ u).heap[k]? = w.heap[k]? := fun k hk => Below.heap_setCell w ⟨p.pb, i, none⟩ u k hk
  refine ⟨?_, h.toks.keep fun q hq => World.cell?_of_block (hkeep _ (by omega)), hok, h.few, ?_⟩
  · rw [heap_set h.blk, hc]
  · rw [hr]
    refine ⟨h.refs.1, ?_⟩
    rcases h.refs.2 with h2 | ⟨g, cap, cur, h3, h4, h5, h6⟩
    · exact .inl h2
    · exact .inr ⟨g, cap, cur, h3, h4, (hkeep _ (by omega)).trans h5, h6⟩
theorem psC_pos (k : Nat) : (psC p s rv).set! 1 (.int .i64 (k : Int)) = psC p { s with pos := k } rv := by
  unfold psC
  rw [Array.set!_eq_setIfInBounds, Array.setIfInBounds_append_left (by simp)]
  rfl
theorem PsAt.setPos (h : PsAt p w s rv) (k : Nat) (hk : k ≤ p.e.toks.length) : PsAt p (w.setCell ⟨p.pb, 1, none⟩ (.int .i64 (k : Int))) { s with pos := k } rv :=
  h.set 1 _ _ (psC_pos k) rfl hk
theorem PsAt.setNext (h : PsAt p w s rv) (hk : s.pos + 1 ≤ p.e.toks.length) : PsAt p (w.setCell ⟨p.pb, 1, none⟩ (.int .i64 ((s.pos : Int) + 1))) { s with pos := s.pos + 1 } rv := h.setPos (s.pos + 1) hk
theorem psC_failed (b : Bool) : (psC p s rv).set! 3 (.bool b) = psC p { s with failed := b } rv := by
  unfold psC
  rw [Array.set!_eq_setIfInBounds, Array.setIfInBounds_append_left (by simp)]
  rfl
theorem PsAt.setFailed (h : PsAt p w s rv) (b : Bool) : PsAt p (w.setCell ⟨p.pb, 3, none⟩ (.bool b)) { s with failed := b } rv :=
  h.set 3 _ _ (psC_failed b) rfl h.ok
theorem psC_off (z : Int) : (psC p s rv).set! 4 (.int .i64 z) = psC p { s with off := z } rv := by
  unfold psC
  rw [Array.set!_eq_setIfInBounds, Array.setIfInBounds_append_left (by simp)]
  rfl
theorem PsAt.setOff (h : PsAt p w s rv) (z : Int) : PsAt p (w.setCell ⟨p.pb, 4, none⟩ (.int .i64 z)) { s with off := z } rv :=
  h.set 4 _ _ (psC_off z) rfl h.ok
theorem PsAt.tok (h : PsAt p w s rv) {k : Nat} (hk : k < p.e.toks.length) : ∃ b off t, p.TA = some ⟨b, off, none⟩ ∧ b < p.pb ∧ p.e.toks[k]? = some t ∧ w.cell? ⟨b, off + k * 4, none⟩ = some (.int .i64 t.kind) ∧ w.cell? ⟨b, off + k * 4 + 1, none⟩ = some (.string ⟨t.text.toArray⟩) ∧ w.cell? ⟨b, off + k * 4 + 2, none⟩ = some (.int .i64 t.int) ∧ w.cell? ⟨b, off + k * 4 + 3, none⟩ = some (.int .i64 t.pos) :=
  RowK.at4 h.toks hk
end
theorem alloc_ex {p : Pp} {w : World} {s : Ps} {rv : Value} (h : PsAt p w s rv) (S : Nat → Prop) (cs : Array Value) (te : TypeId) :
    ∃ z w0, w.heap.size = z ∧ w.alloc (.cells cs te) = w0 ∧ PsAt p w0 s rv ∧ PFr S w w0 ∧ w0.heap[z]? = some (.cells cs te) ∧ w.heap.size ≤ z ∧ p.pb < z ∧ z < w0.heap.size :=
  ⟨_, _, rfl, rfl, h.alloc _, (PFr.refl S w).alloc _, heap_alloc_new w _, Nat.le_refl _, h.lt, by simp⟩
theorem PsAt.far {p : Pp} {w w' : World} {s : Ps} {rv : Value} {z : Nat} {cs : Array Value} {te : TypeId} (h : PsAt p w s rv) (hz : w.heap[z]? = some (.cells cs te (0, 0))) (hte : te ≠ 105) (hlt : p.pb < z) (hf : PFr (· = z) w w') : PsAt p w' s rv := by
  have hl := h.lt
  refine ⟨(hf.block _ hl (by omega)).trans h.blk, h.toks.keep fun q hq => World.cell?_of_block (hf.block _ (by omega) (by omega)), h.ok, h.few, h.refs.1, ?_⟩
  rcases h.refs.2 with h2 | ⟨g, cap, cur, h3, h4, h5, h6⟩
  · exact .inl h2
  · refine .inr ⟨g, cap, cur, h3, h4, (hf.block _ ?_ ?_).trans h5, h6⟩
    · rcases Nat.lt_or_ge g w.heap.size with hl | hl
      · exact hl
      · rw [Array.getElem?_eq_none hl] at h5; cases h5
    · rintro rfl
      rw [hz] at h5
      injection h5 with h5
      injection h5 with _ h5
      exact hte h5
theorem blk_cells {w : World} {b : Nat} {cs : Array Value} {t : TypeId} (h : w.heap[b]? = some (.cells cs t (0, 0))) : (∀ i, w.cell? ⟨b, i, none⟩ = cs[i]?) ∧ (∀ i, w.frozen? ⟨b, i, none⟩ = false) :=
  ⟨fun i => cell_of_row w b i cs t (0, 0) h, fun i => by simp [World.frozen?, h]⟩
def BPost (w : World) (b : Bool) (e : Ending) (w' : World) : Prop := e = .returned (.bool b) ∧ Below w.heap.size w w'
def GoPost (p : Pp) (w : World) (s' : Ps) (rv : Value) (v : Value) (e : Ending) (w' : World) : Prop := e = .returned v ∧ PsAt p w' s' rv ∧ PFr (· = p.pb) w w'
theorem pfrQ {P : Prop} (h : P := by (repeat (first | (with_reducible exact PFr.refl _ _) | (with_reducible assumption) | (with_reducible refine PFr.drew ?_) | (with_reducible refine PFr.drewN ?_ _) | ((with_reducible refine PFr.setCell ?_ ?_ _); rotate_left; (focus (first | (simp; done) | (simp; omega) | omega | (right; simp; done) | (right; simp; omega) | (right; omega)))) | (with_reducible refine PFr.alloc ?_ _) | ((with_reducible apply PFr.step); (focus (with_reducible assumption)))))) : P := h
end Go.Proofs.YtpnfbehbheddeaaGreatDoor
