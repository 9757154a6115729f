/- What the writer of expressions has written, the parser reads again: plain Lean, no program in sight. The trees are well-formed, and their columns have names. Bounds on what the parser of expressions does: it only goes forward, and has few references. Plain Lean, no condition. Two sources of which one holds the other's tokens and parentheses behind them: the parser of expressions answers alike. Plain Lean, no program in sight. The tokens' parentheses are balanced. -/
import Derived.Test.YtpnfbehbheddeaaGreatDoorBn03
namespace Go.Proofs.YtpnfbehbheddeaaGreatDoor
set_option maxRecDepth 100000
set_option maxHeartbeats 8000000
set_option linter.unusedVariables false
set_option linter.unusedSimpArgs false
def AtW (e : Src) (i : Nat) (L : List Tk) : Prop := ∀ j t, L[j]? = some t → ∃ t', e.toks[i + j]? = some t' ∧ t'.kind = t.kind ∧ t'.text = t.text ∧ t'.int = t.int
section
variable {e : Src} {i : Nat} {L M : List Tk} {t : Tk}
theorem AtW.head (h : AtW e i (t :: L)) : ∃ t', e.toks[i]? = some t' ∧ t'.kind = t.kind ∧ t'.text = t.text ∧ t'.int = t.int := h 0 t rfl
theorem AtW.tail (h : AtW e i (t :: L)) : AtW e (i + 1) L := fun j u hj => by
  have := h (j + 1) u hj
  rwa [show i + (j + 1) = i + 1 + j by omega] at this
end
section
variable {e : Src} {s : Ps} {L : List Tk} {t : Tk}
theorem isP_at {a i : Nat} (hi : s.pos + a = i) (h : AtW e i (t :: L)) (ws : List Bs) : isP e s a ws = ((t.kind == 1 || t.kind == 4) && ws.contains t.text) := by
  obtain ⟨t', h1, h2, h3, -⟩ := h.head
  unfold isP
  rw [hi, h1]
  simp only [h2, h3]
theorem isKindP_at {a i : Nat} (hi : s.pos + a = i) (h : AtW e i (t :: L)) (k : Int) : isKindP e s a k = (t.kind == k) := by
  obtain ⟨t', h1, h2, -⟩ := h.head
  unfold isKindP
  rw [hi, h1]
  simp only [h2]
theorem expect_at (h : AtW e s.pos (t :: L)) {ws : List Bs} (hk : (t.kind == 1 || t.kind == 4) = true) (hw : ws.contains t.text = true) : expectP e s ws = (t.text, { s with pos := s.pos + 1 }) := by
  unfold expectP textP
  rw [isP_at rfl h, hk, hw]
  obtain ⟨t', h1, -, h3, -⟩ := h.head
  simp only [Bool.and_self, if_true, h1, h3]
end
theorem wdK_kind (w : Bs) : ((wdK w).kind == 1 || (wdK w).kind == 4) = true := by
  unfold wdK
  split <;> rfl
def folW : List Bs := [wOr, wAnd, [43], [45], [43, 43], [42], [47], [61], [60], [60, 61], [40], [46]]
def Fol (e : Src) (i : Nat) (W : List Bs) : Prop := ∀ t, e.toks[i]? = some t → (t.kind == 1 || t.kind == 4) = true → W.contains t.text = false
theorem Fol.of {e : Src} {i : Nat} {W V : List Bs} (h : Fol e i W) (hv : ∀ x ∈ V, x ∈ W) : Fol e i V := fun t h1 h2 => by
  have h3 := h t h1 h2
  cases hc : V.contains t.text with
  | false => rfl
  | true =>
    rw [List.contains_iff_mem] at hc
    have := List.contains_iff_mem.2 (hv _ hc)
    rw [h3] at this
    cases this
theorem Fol.isP {e : Src} {s : Ps} {a : Nat} {W V : List Bs} (h : Fol e (s.pos + a) W) (hv : ∀ x ∈ V, x ∈ W) : isP e s a V = false := by
  unfold Go.Proofs.YtpnfbehbheddeaaGreatDoor.isP
  split
  · rename_i t ht
    cases hk : (t.kind == 1 || t.kind == 4) with
    | false => rfl
    | true => rw [(h.of hv) t ht hk]; rfl
  · rfl
theorem Fol.at {e : Src} {i : Nat} {t : Tk} {L : List Tk} {W : List Bs} (h : AtW e i (t :: L)) (hw : W.contains t.text = false) : Fol e i W := fun t' h1 _ => by
  obtain ⟨u, h2, -, h3, -⟩ := h.head
  rw [h1] at h2
  injection h2 with h2
  subst h2
  rw [h3]
  exact hw
theorem Fol.end_ {e : Src} {i : Nat} {W : List Bs} (h : e.toks.length ≤ i) : Fol e i W := fun t h1 _ => by
  rw [List.getElem?_eq_none h] at h1
  cases h1
section
variable {e : Src} {s s1 : Ps} {x : X} {b : Nat}
theorem chain_stop {lv : Nat} (h : isP e s (0 : Nat) (opsP lv) = false) : ∀ f, chainP e f lv x s = (x, s)
  | 0 => by unfold chainP; rfl
  | f + 1 => by
    unfold chainP
    rw [h]
    rfl
theorem ops_fol (lv : Nat) : ∀ w ∈ opsP lv, w ∈ folW := by
  unfold opsP
  split
  · decide
  · decide
  · decide
  · decide
  · simp
end
def Src.meas (e : Src) (s : Ps) : Nat := s.refs.length + 3 * (e.toks.length - s.pos)
structure StepP (e : Src) (j : Nat) (s s' : Ps) : Prop where
  le : s.pos ≤ s'.pos
  ok : s'.pos ≤ e.toks.length
  refs : s.refs.length ≤ s'.refs.length
  meas : e.meas s' ≤ e.meas s + j
section
variable {e : Src} {s s1 s2 : Ps} {i j k : Nat}
theorem StepP.refl (h : s.pos ≤ e.toks.length) : StepP e j s s := ⟨Nat.le_refl _, h, Nat.le_refl _, by omega⟩
theorem StepP.trans (h : StepP e i s s1) (h2 : StepP e j s1 s2) (hk : i + j ≤ k) : StepP e k s s2 := ⟨Nat.le_trans h.le h2.le, h2.ok, Nat.le_trans h.refs h2.refs, by have := h.meas; have := h2.meas; omega⟩
theorem isP_lt {a : Nat} {ws : List Bs} (h : isP e s a ws = true) : s.pos + a < e.toks.length := by
  unfold isP at h
  cases h1 : e.toks[s.pos + a]? with
  | none => rw [h1] at h; cases h
  | some t => exact (List.getElem?_eq_some_iff.1 h1).1
theorem isKindP_lt {a : Nat} {k : Int} (h : isKindP e s a k = true) : s.pos + a < e.toks.length := by
  unfold isKindP at h
  cases h1 : e.toks[s.pos + a]? with
  | none => rw [h1] at h; cases h
  | some t => exact (List.getElem?_eq_some_iff.1 h1).1
theorem step_fail (h : s.pos ≤ e.toks.length) : StepP e 0 s (s.fail e) := ⟨h, Nat.le_refl _, Nat.le_refl _, by simp [Src.meas, Ps.fail]⟩
theorem fail_more (h : s.pos < e.toks.length) : e.meas (s.fail e) + 3 ≤ e.meas s := by simp [Src.meas, Ps.fail]; omega
theorem step_next (h : s.pos < e.toks.length) : StepP e 0 s { s with pos := s.pos + 1 } := ⟨Nat.le_succ _, h, Nat.le_refl _, by simp [Src.meas]; omega⟩
theorem next_more (h : s.pos < e.toks.length) : e.meas { s with pos := s.pos + 1 } + 3 ≤ e.meas s := by simp [Src.meas]; omega
theorem step_expect (ws : List Bs) (h : s.pos ≤ e.toks.length) : StepP e 0 s (expectP e s ws).2 := by
  unfold expectP
  by_cases hi : isP e s 0 ws = true
  · rw [if_pos hi]; exact step_next (isP_lt hi)
  · rw [if_neg hi]; exact step_fail h
theorem expect_more (ws : List Bs) (h : s.pos < e.toks.length) : e.meas (expectP e s ws).2 + 3 ≤ e.meas s := by
  unfold expectP
  by_cases hi : isP e s 0 ws = true
  · rw [if_pos hi]; exact next_more (isP_lt hi)
  · rw [if_neg hi]; exact fail_more h
theorem step_take (k : Int) (h : s.pos ≤ e.toks.length) : StepP e 0 s (takeP e s k).2 := by
  unfold takeP
  by_cases hi : isKindP e s 0 k = true
  · rw [if_pos hi]; exact step_next (isKindP_lt hi)
  · rw [if_neg hi]; exact step_fail h
theorem take_more (k : Int) (h : s.pos < e.toks.length) : e.meas (takeP e s k).2 + 3 ≤ e.meas s := by
  unfold takeP
  by_cases hi : isKindP e s 0 k = true
  · rw [if_pos hi]; exact next_more (isKindP_lt hi)
  · rw [if_neg hi]; exact fail_more h
theorem take_refs (k : Int) : (takeP e s k).2.refs = s.refs := by
  unfold takeP
  split <;> rfl
theorem expect_refs (ws : List Bs) : (expectP e s ws).2.refs = s.refs := by
  unfold expectP
  split <;> rfl
theorem step_ref (right : Bool) (h : s.pos ≤ e.toks.length) : StepP e 1 s (refP e right s).2 := by
  have h1 := step_take (e := e) (s := s) 1 h
  have h2 := h1.meas
  refine ⟨h1.le, h1.ok, by simp [refP], ?_⟩
  unfold refP Src.meas at *
  simp only [take_refs, List.length_append, List.length_cons, List.length_nil] at h2 ⊢
  omega
theorem StepP.after (h : StepP e 0 s s1) (hm : e.meas s1 + 3 ≤ e.meas s) (h2 : StepP e j s1 s2) (hk : j ≤ k + 3) : StepP e k s s2 := ⟨Nat.le_trans h.le h2.le, h2.ok, Nat.le_trans h.refs h2.refs, by have := h2.meas; omega⟩
end
theorem fun_ar (w : Bs) : (arity (funP w)).toNat - 1 ≤ 2 := by
  unfold funP
  (repeat' split) <;> decide
theorem parse_steps (e : Src) : ∀ f, (∀ lv s, s.pos ≤ e.toks.length → StepP e 1 s (parseP e f lv s).2) ∧ (∀ lv x s, s.pos ≤ e.toks.length → StepP e 0 s (chainP e f lv x s).2) ∧ (∀ k l s, s.pos ≤ e.toks.length → StepP e k s (argsP e f k l s).2) := by
  intro f
  induction f with
  | zero =>
    refine ⟨fun lv s h => ?_, fun lv x s h => ?_, fun k l s h => ?_⟩
    · unfold parseP; exact StepP.refl h
    · unfold chainP; exact StepP.refl h
    · unfold argsP; exact StepP.refl h
  | succ f ih =>
    obtain ⟨ihp, ihc, iha⟩ := ih
    have chainlike : ∀ lv s, s.pos ≤ e.toks.length → StepP e 1 s (chainP e f (lv + 1) (parseP e f lv s).1 (parseP e f lv s).2).2 := fun lv s h => by
      have h1 := ihp lv s h
      exact h1.trans (ihc _ _ _ h1.ok) (by omega)
    refine ⟨fun lv s h => ?_, fun lv x s h => ?_, fun k l s h => ?_⟩
    · match lv with
      | 0 =>
        unfold parseP
        by_cases h1 : isKindP e s 0 2 = true
        · simp only [if_pos h1]; exact (step_take 2 h).trans (StepP.refl (j := 0) (step_take 2 h).ok) (by omega)
        simp only [if_neg h1]
        by_cases h2 : isKindP e s 0 3 = true
        · simp only [if_pos h2]; exact (step_take 3 h).trans (StepP.refl (j := 0) (step_take 3 h).ok) (by omega)
        simp only [if_neg h2]
        by_cases h3 : isP e s 0 [[40]] = true
        · simp only [if_pos h3]
          have q0 := step_next (isP_lt h3)
          have q1 := ihp 6 _ q0.ok
          exact (q0.trans q1 (k := 1) (by omega)).trans (step_expect [[41]] q1.ok) (by omega)
        simp only [if_neg h3]
        by_cases h4 : isP e s 0 wFuncs = true ∧ isP e s 1 [[40]] = true
        · simp only [if_pos h4]
          have q0 := step_take (e := e) (s := s) 1 h
          have m0 := take_more (e := e) (s := s) 1 (isP_lt h4.1)
          have q1 := step_expect (e := e) [[40]] q0.ok
          have q2 := ihp 6 _ q1.ok
          have q3 := iha ((arity (funP (takeP e s 1).1.text)).toNat - 1) [(parseP e f 6 (expectP e (takeP e s 1).2 [[40]]).2).1] _ q2.ok
          have hk := fun_ar (takeP e s 1).1.text
          have q4 := step_expect (e := e) [[41]] q3.ok
          exact q0.after m0 (j := 4) (((q1.trans q2 (k := 1) (by omega)).trans q3 (k := 4) (by omega)).trans q4 (by omega)) (by omega)
        simp only [if_neg h4]
        by_cases h5 : isP e s 0 [wLeft, wRight] = true ∧ isP e s 1 [[46]] = true
        · simp only [if_pos h5]
          have q0 := step_expect (e := e) (s := s) [wLeft, wRight] h
          have q1 := step_expect (e := e) [[46]] q0.ok
          exact (q0.trans q1 (k := 0) (by omega)).trans (step_ref _ q1.ok) (by omega)
        simp only [if_neg h5]
        exact step_ref false h
      | 1 =>
        unfold parseP
        by_cases h1 : isP e s 0 [[45]] = true
        · simp only [if_pos h1]
          have q0 := step_next (isP_lt h1)
          by_cases h2 : isKindP e { s with pos := s.pos + 1 } 0 2 = true
          · simp only [if_pos h2]
            exact q0.trans (step_take 2 q0.ok) (by omega)
          · simp only [if_neg h2]
            exact q0.trans (ihp 1 _ q0.ok) (by omega)
        simp only [if_neg h1]
        by_cases h2 : isP e s 0 [wNot] = true
        · simp only [if_pos h2]
          have q0 := step_next (isP_lt h2)
          exact q0.trans (ihp 1 _ q0.ok) (by omega)
        simp only [if_neg h2]
        exact ihp 0 s h
      | 4 =>
        unfold parseP
        have q0 := ihp 3 s h
        by_cases h1 : isP e (parseP e f 3 s).2 0 [[61], [60]] = true
        · simp only [if_pos h1]
          have q1 := step_expect (e := e) [[61], [60]] q0.ok
          have m1 := expect_more (e := e) (s := (parseP e f 3 s).2) [[61], [60]] (isP_lt h1)
          exact q0.trans (q1.after m1 (ihp 3 _ q1.ok) (k := 0) (by omega)) (by omega)
        simp only [if_neg h1]
        by_cases h2 : isP e (parseP e f 3 s).2 0 [[60, 61]] = true
        · simp only [if_pos h2]
          have q1 := step_next (isP_lt h2)
          have m1 := next_more (isP_lt h2)
          exact q0.trans (q1.after m1 (ihp 3 _ q1.ok) (k := 0) (by omega)) (by omega)
        simp only [if_neg h2]
        exact q0
      | 2 => unfold parseP; exact chainlike 1 s h
      | 3 => unfold parseP; exact chainlike 2 s h
      | lv + 5 => unfold parseP; exact chainlike (lv + 4) s h
    · unfold chainP
      by_cases h1 : isP e s 0 (opsP lv) = true
      · simp only [if_pos h1]
        have q0 := step_expect (e := e) (s := s) (opsP lv) h
        have m0 := expect_more (e := e) (s := s) (opsP lv) (isP_lt h1)
        have q1 := ihp (lv - 1) _ q0.ok
        exact q0.after m0 (q1.trans (ihc _ _ _ q1.ok) (k := 1) (by omega)) (by omega)
      · simp only [if_neg h1]
        exact StepP.refl h
    · match k with
      | 0 => unfold argsP; exact StepP.refl h
      | k + 1 =>
        unfold argsP
        have q0 := step_expect (e := e) (s := s) [[44]] h
        have q1 := ihp 6 _ q0.ok
        exact (q0.trans q1 (k := 1) (by omega)).trans (iha _ _ _ q1.ok) (by omega)
theorem parse_step (e : Src) (f lv : Nat) (s : Ps) (h : s.pos ≤ e.toks.length) : StepP e 1 s (parseP e f lv s).2 := (parse_steps e f).1 lv s h
def parW (t : Tk) : Int := if (t.kind == 1 || t.kind == 4) && t.text == [40] then 1 else if (t.kind == 1 || t.kind == 4) && t.text == [41] then -1 else 0
def bal (T : List Tk) (i : Nat) : Int := ((T.take i).map parW).sum
theorem bal_succ {T : List Tk} {i : Nat} {t : Tk} (h : T[i]? = some t) : bal T (i + 1) = bal T i + parW t := by
  unfold bal
  rw [List.take_add_one, h, Option.toList_some, List.map_append, List.sum_append]
  simp
structure Emb (e e' : Src) (k : Nat) : Prop where
  tok : ∀ (j : Nat) t, e.toks[j]? = some t → ∃ t', e'.toks[j + k]? = some t' ∧ t'.kind = t.kind ∧ t'.text = t.text ∧ t'.int = t.int
  rest : ∀ (j : Nat) t', e.toks.length ≤ j → e'.toks[j + k]? = some t' → t'.kind = 4 ∧ t'.text = [41]
  len : e.toks.length + k ≤ e'.toks.length
  names : ∀ (j : Nat) t, e.toks[j]? = some t → t.kind = 1 → parW t = 0
  zero : bal e.toks e.toks.length = 0
structure Rel (e : Src) (k : Nat) (s s' : Ps) : Prop where
  pos : s'.pos = s.pos + k
  le : s.pos ≤ e.toks.length
  f : s.failed = false
  f' : s'.failed = false
  refs : s'.refs.map (fun y => (y.1.text, y.2)) = s.refs.map (fun y => (y.1.text, y.2))
def Res {α : Type} (e : Src) (k : Nat) (d : Int) (r r' : α × Ps) : Prop := (r.2.failed = true ∧ r'.2.failed = true) ∨ (r'.1 = r.1 ∧ Rel e k r.2 r'.2 ∧ bal e.toks r.2.pos = d)
def same3 (t t' : Tk) : Prop := t'.kind = t.kind ∧ t'.text = t.text ∧ t'.int = t.int
theorem fail_failed (e : Src) (s : Ps) : (s.fail e).failed = true := rfl
theorem fl_expect {e : Src} {s : Ps} (h : s.failed = true) (ws : List Bs) : (expectP e s ws).2.failed = true := by
  unfold expectP
  split
  · exact h
  · rfl
theorem fl_take {e : Src} {s : Ps} (h : s.failed = true) (k : Int) : (takeP e s k).2.failed = true := by
  unfold takeP
  split
  · exact h
  · rfl
theorem fl_ref {e : Src} {s : Ps} (h : s.failed = true) (r : Bool) : (refP e r s).2.failed = true := fl_take h 1
theorem fl_all (e : Src) : ∀ f, (∀ lv s, s.failed = true → (parseP e f lv s).2.failed = true) ∧ (∀ lv x s, s.failed = true → (chainP e f lv x s).2.failed = true) ∧ (∀ k l s, s.failed = true → (argsP e f k l s).2.failed = true) := by
  intro f
  induction f with
  | zero =>
    refine ⟨fun lv s h => ?_, fun lv x s h => ?_, fun k l s h => ?_⟩
    · unfold parseP; exact h
    · unfold chainP; exact h
    · unfold argsP; exact h
  | succ f ih =>
    obtain ⟨ihp, ihc, iha⟩ := ih
    refine ⟨fun lv s h => ?_, fun lv x s h => ?_, fun k l s h => ?_⟩
    · match lv with
      | 0 =>
        unfold parseP
        simp only
        split
        · exact fl_take h 2
        split
        · exact fl_take h 3
        split
        · exact fl_expect (ihp 6 { s with pos := s.pos + 1 } h) _
        split
        · exact fl_expect (iha _ _ _ (ihp 6 _ (fl_expect (fl_take h 1) _))) _
        split
        · exact fl_ref (fl_expect (fl_expect h _) _) _
        · exact fl_ref h _
      | 1 =>
        unfold parseP
        simp only
        split
        · split
          · exact fl_take (s := { s with pos := s.pos + 1 }) h 2
          · exact ihp 1 { s with pos := s.pos + 1 } h
        split
        · exact ihp 1 { s with pos := s.pos + 1 } h
        · exact ihp 0 s h
      | 4 =>
        unfold parseP
        simp only
        have h1 := ihp 3 s h
        split
        · exact ihp 3 _ (fl_expect h1 _)
        split
        · exact ihp 3 { (parseP e f 3 s).2 with pos := (parseP e f 3 s).2.pos + 1 } h1
        · exact h1
      | 2 => unfold parseP; exact ihc _ _ _ (ihp _ _ h)
      | 3 => unfold parseP; exact ihc _ _ _ (ihp _ _ h)
      | lv + 5 => unfold parseP; exact ihc _ _ _ (ihp _ _ h)
    · unfold chainP
      split
      · exact ihc _ _ _ (ihp _ _ (fl_expect h _))
      · exact h
    · match k with
      | 0 => unfold argsP; exact h
      | k + 1 => unfold argsP; exact iha _ _ _ (ihp _ _ (fl_expect h _))
section
variable {e e' : Src} {k : Nat} {s s' : Ps}
theorem Rel.at (hE : Emb e e' k) (hR : Rel e k s s') {a : Nat} : (∃ t t', e.toks[s.pos + a]? = some t ∧ e'.toks[s'.pos + a]? = some t' ∧ same3 t t') ∨ (e.toks[s.pos + a]? = none ∧ (e'.toks[s'.pos + a]? = none ∨ ∃ t', e'.toks[s'.pos + a]? = some t' ∧ t'.kind = 4 ∧ t'.text = [41])) := by
  have hp : s'.pos + a = s.pos + a + k := by rw [hR.pos]; omega
  rw [hp]
  cases h : e.toks[s.pos + a]? with
  | some t =>
    obtain ⟨t', h1, h2⟩ := hE.tok _ t h
    exact .inl ⟨t, t', rfl, h1, h2⟩
  | none =>
    refine .inr ⟨rfl, ?_⟩
    cases h' : e'.toks[s.pos + a + k]? with
    | none => exact .inl rfl
    | some t' => exact .inr ⟨t', rfl, hE.rest _ t' (List.getElem?_eq_none_iff.1 h) h'⟩
theorem sim_isP (hE : Emb e e' k) (hR : Rel e k s s') {a : Nat} {ws : List Bs} (hw : ws.contains [41] = false) : isP e' s' a ws = isP e s a ws := by
  unfold isP
  rcases hR.at hE (a := a) with ⟨t, t', h1, h2, h3, h4, -⟩ | ⟨h1, h2 | ⟨t', h2, h3, h4⟩⟩
  · rw [h1, h2]; simp only [h3, h4]
  · rw [h1, h2]
  · rw [h1, h2]; simp only [h4, hw, Bool.and_false]
theorem sim_kind (hE : Emb e e' k) (hR : Rel e k s s') {a : Nat} {n : Int} (hn : n ≠ 4) : isKindP e' s' a n = isKindP e s a n := by
  unfold isKindP
  rcases hR.at hE (a := a) with ⟨t, t', h1, h2, h3, -, -⟩ | ⟨h1, h2 | ⟨t', h2, h3, h4⟩⟩
  · rw [h1, h2]; simp only [h3]
  · rw [h1, h2]
  · rw [h1, h2]; simp only [h3, beq_eq_false_iff_ne, ne_eq]; exact fun h => hn h.symm
theorem Rel.next (hR : Rel e k s s') (hl : s.pos < e.toks.length) : Rel e k { s with pos := s.pos + 1 } { s' with pos := s'.pos + 1 } := ⟨by have := hR.pos; simp only; omega, hl, hR.f, hR.f', hR.refs⟩
theorem isP_plain {ws : List Bs} (h : isP e s 0 ws = true) (h1 : ws.contains [40] = false) (h2 : ws.contains [41] = false) : bal e.toks (s.pos + 1) = bal e.toks s.pos := by
  unfold isP at h
  rw [Nat.add_zero] at h
  cases ht : e.toks[s.pos]? with
  | none => rw [ht] at h; cases h
  | some t =>
    rw [ht] at h
    simp only [Bool.and_eq_true] at h
    rw [bal_succ ht]
    have n1 : t.text ≠ [40] := fun q => by rw [q, h1] at h; cases h.2
    have n2 : t.text ≠ [41] := fun q => by rw [q, h2] at h; cases h.2
    simp [parW, n1, n2]
theorem kind_plain (hE : Emb e e' k) {n : Int} (h : isKindP e s 0 n = true) (hn : n ≠ 4) : bal e.toks (s.pos + 1) = bal e.toks s.pos := by
  unfold isKindP at h
  rw [Nat.add_zero] at h
  cases ht : e.toks[s.pos]? with
  | none => rw [ht] at h; cases h
  | some t =>
    rw [ht] at h
    have h : t.kind = n := by simpa using h
    rw [bal_succ ht]
    by_cases h1 : n = 1
    · rw [hE.names _ t ht (h.trans h1)]; omega
    · have : parW t = 0 := by
        unfold parW
        have a1 : (t.kind == 1) = false := by rw [beq_eq_false_iff_ne]; omega
        have a2 : (t.kind == 4) = false := by rw [beq_eq_false_iff_ne]; omega
        rw [a1, a2]
        rfl
      omega
theorem sim_expect (hE : Emb e e' k) (hR : Rel e k s s') {ws : List Bs} (h1 : ws.contains [40] = false) (h2 : ws.contains [41] = false) : Res e k (bal e.toks s.pos) (expectP e s ws) (expectP e' s' ws) := by
  have hi := sim_isP hE hR (a := 0) h2
  unfold expectP
  rw [hi]
  by_cases h : isP e s 0 ws = true
  · rw [if_pos h, if_pos h]
    refine .inr ⟨?_, hR.next (isP_lt h), isP_plain h h1 h2⟩
    simp only
    unfold textP
    have hl := isP_lt h
    rcases hR.at hE (a := 0) with ⟨t, t', q1, q2, q3, q4, -⟩ | ⟨q1, -⟩
    · rw [Nat.add_zero] at q1 q2; rw [q1, q2]; exact q4
    · rw [List.getElem?_eq_none_iff] at q1; omega
  · rw [if_neg h, if_neg h]
    exact .inl ⟨rfl, rfl⟩
theorem sim_take (hE : Emb e e' k) (hR : Rel e k s s') {n : Int} (hn : n ≠ 4) : ((takeP e s n).2.failed = true ∧ (takeP e' s' n).2.failed = true) ∨ (same3 (takeP e s n).1 (takeP e' s' n).1 ∧ Rel e k (takeP e s n).2 (takeP e' s' n).2 ∧ bal e.toks (takeP e s n).2.pos = bal e.toks s.pos) := by
  have hi := sim_kind hE hR (a := 0) hn
  unfold takeP
  rw [hi]
  by_cases h : isKindP e s 0 n = true
  · rw [if_pos h, if_pos h]
    refine .inr ⟨?_, hR.next (isKindP_lt h), kind_plain hE h hn⟩
    have hl := isKindP_lt h
    rcases hR.at hE (a := 0) with ⟨t, t', q1, q2, q3⟩ | ⟨q1, -⟩
    · rw [Nat.add_zero] at q1 q2
      simp only [List.getD_eq_getElem?_getD, q1, q2, Option.getD_some]
      exact q3
    · rw [List.getElem?_eq_none_iff] at q1; omega
  · rw [if_neg h, if_neg h]
    exact .inl ⟨rfl, rfl⟩
theorem sim_close (hE : Emb e e' k) (hR : Rel e k s s') {d : Int} (hd : bal e.toks s.pos = d + 1) (h0 : 0 ≤ d) : Res e k d (expectP e s [[41]]) (expectP e' s' [[41]]) := by
  have hl : s.pos < e.toks.length := by
    rcases Nat.lt_or_ge s.pos e.toks.length with h | h
    · exact h
    · have : s.pos = e.toks.length := Nat.le_antisymm hR.le h
      rw [this, hE.zero] at hd
      omega
  have hi : isP e' s' 0 [[41]] = isP e s 0 [[41]] := by
    unfold isP
    rcases hR.at hE (a := 0) with ⟨t, t', h1, h2, h3, h4, -⟩ | ⟨h1, -⟩
    · rw [h1, h2]; simp only [h3, h4]
    · rw [List.getElem?_eq_none_iff] at h1; omega
  unfold expectP
  rw [hi]
  by_cases h : isP e s 0 [[41]] = true
  · rw [if_pos h, if_pos h]
    refine .inr ⟨?_, hR.next hl, ?_⟩
    · simp only
      unfold textP
      rcases hR.at hE (a := 0) with ⟨t, t', q1, q2, q3, q4, -⟩ | ⟨q1, -⟩
      · rw [Nat.add_zero] at q1 q2; rw [q1, q2]; exact q4
      · rw [List.getElem?_eq_none_iff] at q1; omega
    · unfold isP at h
      rw [Nat.add_zero] at h
      cases ht : e.toks[s.pos]? with
      | none => rw [ht] at h; cases h
      | some t =>
        rw [ht] at h
        simp only [Bool.and_eq_true] at h
        have h3 : t.text = [41] := by simpa using h.2
        simp only
        rw [bal_succ ht, hd]
        have : parW t = -1 := by
          unfold parW
          rw [h3, h.1]
          rfl
        omega
  · rw [if_neg h, if_neg h]
    exact .inl ⟨rfl, rfl⟩
theorem open_bal (h : isP e s 0 [[40]] = true) : bal e.toks (s.pos + 1) = bal e.toks s.pos + 1 := by
  unfold isP at h
  rw [Nat.add_zero] at h
  cases ht : e.toks[s.pos]? with
  | none => rw [ht] at h; cases h
  | some t =>
    rw [ht] at h
    simp only [Bool.and_eq_true] at h
    have h3 : t.text = [40] := by simpa using h.2
    rw [bal_succ ht]
    have : parW t = 1 := by
      unfold parW
      rw [h3, h.1]
      rfl
    omega
theorem Rel.len (h : Rel e k s s') : s'.refs.length = s.refs.length := by simpa using congrArg List.length h.refs
theorem sim_ref (hE : Emb e e' k) (hR : Rel e k s s') (r : Bool) : Res e k (bal e.toks s.pos) (refP e r s) (refP e' r s') := by
  rcases sim_take hE hR (n := 1) (by decide) with ⟨h1, h2⟩ | ⟨h1, h2, h3⟩
  · exact .inl ⟨h1, h2⟩
  · refine .inr ⟨?_, ⟨h2.pos, h2.le, h2.f, h2.f', ?_⟩, h3⟩
    · unfold refP; simp only [hR.len]
    · unfold refP
      simp only [List.map_append, List.map_cons, List.map_nil]
      rw [hR.refs, h1.2.1]
end
end Go.Proofs.YtpnfbehbheddeaaGreatDoor
