/- Two sources of which one holds the other's tokens and parentheses behind them: the whole parser of expressions answers alike. Plain Lean, no program in sight. An expression in two pairs of parentheses: ParseExpr answers as it does without them. Plain Lean, no program in sight. The tokens' parentheses are balanced. Parsing takes back what formatting gives, in plain Lean. No condition. -/
import Derived.Test.YtpnfbehbheddeaaGreatDoorBn04
import Derived.Test.YtpnfbehbheddeaaGreatDoorBn02
import Derived.Lib.ItoaMem
namespace Go.Proofs.YtpnfbehbheddeaaGreatDoor
set_option maxRecDepth 100000
set_option maxHeartbeats 8000000
set_option linter.unusedVariables false
set_option linter.unusedSimpArgs false
section
variable {e e' : Src} {k : Nat}
theorem noW : wFuncs.contains [40] = false ∧ wFuncs.contains [41] = false := by decide
theorem opsP_par (lv : Nat) : (opsP lv).contains [40] = false ∧ (opsP lv).contains [41] = false := by
  unfold opsP
  split <;> decide
theorem sim_all (hE : Emb e e' k) (hp : ∀ i, i ≤ e.toks.length → 0 ≤ bal e.toks i) : ∀ f,
    (∀ f' lv s s', Rel e k s s' → 10 * (e.toks.length - s.pos) + lv + 2 ≤ f → 10 * (e'.toks.length - s'.pos) + lv + 2 ≤ f' → Res e k (bal e.toks s.pos) (parseP e f lv s) (parseP e' f' lv s')) ∧
    (∀ f' lv x s s', Rel e k s s' → 10 * (e.toks.length - s.pos) + lv + 1 ≤ f → 10 * (e'.toks.length - s'.pos) + lv + 1 ≤ f' → Res e k (bal e.toks s.pos) (chainP e f lv x s) (chainP e' f' lv x s')) ∧
    (∀ f' n l s s', Rel e k s s' → 10 * (e.toks.length - s.pos) + n + 1 ≤ f → 10 * (e'.toks.length - s'.pos) + n + 1 ≤ f' → Res e k (bal e.toks s.pos) (argsP e f n l s) (argsP e' f' n l s')) := by
  intro f
  induction f with
  | zero => exact ⟨fun f' lv s s' _ h => by omega, fun f' lv x s s' _ h => by omega, fun f' n l s s' _ h => by omega⟩
  | succ f ih =>
    obtain ⟨ihp, ihc, iha⟩ := ih
    have hrem : ∀ {s s' : Ps}, Rel e k s s' → e.toks.length - s.pos ≤ e'.toks.length - s'.pos := fun {s s'} h => by have := hE.len; have := h.pos; have := h.le; omega
    have hstep : ∀ lv {s : Ps} g, s.pos ≤ e.toks.length → s.pos ≤ (parseP e g lv s).2.pos := fun lv s g h => (parse_step e g lv s h).le
    have chainlike : ∀ g lv s s', Rel e k s s' → 10 * (e.toks.length - s.pos) + (lv + 1) + 2 ≤ f + 1 → 10 * (e'.toks.length - s'.pos) + (lv + 1) + 2 ≤ g + 1 → Res e k (bal e.toks s.pos) (chainP e f (lv + 1) (parseP e f lv s).1 (parseP e f lv s).2) (chainP e' g (lv + 1) (parseP e' g lv s').1 (parseP e' g lv s').2) := fun g lv s s' hR h1 h2 => by
      rcases ihp g lv s s' hR (by omega) (by omega) with ⟨q1, q2⟩ | ⟨q1, q2, q3⟩
      · exact .inl ⟨(fl_all e f).2.1 _ _ _ q1, (fl_all e' g).2.1 _ _ _ q2⟩
      · rw [q1, ← q3]
        have := hstep lv f hR.le
        have := q2.pos
        have := hR.pos
        exact ihc g (lv + 1) _ _ _ q2 (by omega) (by omega)
    refine ⟨fun f' lv s s' hR h1 h2 => ?_, fun f' lv x s s' hR h1 h2 => ?_, fun f' n l s s' hR h1 h2 => ?_⟩
    · obtain ⟨g, rfl⟩ : ∃ g, f' = g + 1 := ⟨f' - 1, by omega⟩
      match lv with
      | 0 =>
        unfold parseP
        simp only
        rw [sim_kind hE hR (a := 0) (n := 2) (by decide), sim_kind hE hR (a := 0) (n := 3) (by decide), sim_isP hE hR (a := 0) (ws := [[40]]) (by decide), sim_isP hE hR (a := 0) noW.2, sim_isP hE hR (a := 1) (ws := [[40]]) (by decide), sim_isP hE hR (a := 0) (ws := [wLeft, wRight]) (by decide), sim_isP hE hR (a := 1) (ws := [[46]]) (by decide)]
        by_cases c1 : isKindP e s 0 2 = true
        · rw [if_pos c1, if_pos c1]
          rcases sim_take hE hR (n := 2) (by decide) with ⟨q1, q2⟩ | ⟨q1, q2, q3⟩
          · exact .inl ⟨q1, q2⟩
          · exact .inr ⟨by simp only; rw [q1.2.2], q2, q3⟩
        rw [if_neg c1, if_neg c1]
        by_cases c2 : isKindP e s 0 3 = true
        · rw [if_pos c2, if_pos c2]
          rcases sim_take hE hR (n := 3) (by decide) with ⟨q1, q2⟩ | ⟨q1, q2, q3⟩
          · exact .inl ⟨q1, q2⟩
          · exact .inr ⟨by simp only; rw [q1.2.1], q2, q3⟩
        rw [if_neg c2, if_neg c2]
        by_cases c3 : isP e s 0 [[40]] = true
        · rw [if_pos c3, if_pos c3]
          have hl := isP_lt c3
          have hb := open_bal c3
          have hp0 := hR.pos
          have hN := hR.next (by omega)
          rcases ihp g 6 _ _ hN (by simp only; omega) (by simp only; have := hE.len; omega) with ⟨q1, q2⟩ | ⟨q1, q2, q3⟩
          · exact .inl ⟨fl_expect q1 _, fl_expect q2 _⟩
          · simp only at q3
            rcases sim_close hE q2 (d := bal e.toks s.pos) (by rw [q3, hb]) (hp _ hR.le) with ⟨r1, r2⟩ | ⟨-, r2, r3⟩
            · exact .inl ⟨r1, r2⟩
            · exact .inr ⟨q1, r2, r3⟩
        rw [if_neg c3, if_neg c3]
        by_cases c4 : isP e s 0 wFuncs = true ∧ isP e s 1 [[40]] = true
        · rw [if_pos c4, if_pos c4]
          have hl := isP_lt c4.1
          have hl2 := isP_lt c4.2
          have hp0 := hR.pos
          rcases sim_take hE hR (n := 1) (by decide) with ⟨q1, q2⟩ | ⟨q1, q2, q3⟩
          · exact .inl ⟨fl_expect ((fl_all e f).2.2 _ _ _ ((fl_all e f).1 _ _ (fl_expect q1 _))) _, fl_expect ((fl_all e' g).2.2 _ _ _ ((fl_all e' g).1 _ _ (fl_expect q2 _))) _⟩
          · have t1 : (takeP e s 1).2.pos = s.pos + 1 := by
              have := q2.f
              unfold takeP at this ⊢
              split
              · rfl
              · rename_i h; rw [if_neg h] at this; cases this
            generalize takeP e s 1 = n at q1 q2 q3 t1 ⊢
            generalize takeP e' s' 1 = n' at q1 q2 q3 ⊢
            rw [q1.2.1]
            have ho : isP e n.2 0 [[40]] = true := by
              have := c4.2
              unfold isP at this ⊢
              rw [t1]
              exact this
            have hob := open_bal ho
            have ho' : isP e' n'.2 0 [[40]] = true := by rw [sim_isP hE q2 (a := 0) (ws := [[40]]) (by decide)]; exact ho
            have e1 : expectP e n.2 [[40]] = (textP e n.2.pos, { n.2 with pos := n.2.pos + 1 }) := by unfold expectP; rw [if_pos ho]
            have e2 : expectP e' n'.2 [[40]] = (textP e' n'.2.pos, { n'.2 with pos := n'.2.pos + 1 }) := by unfold expectP; rw [if_pos ho']
            rw [e1, e2]
            simp only
            have hN := q2.next (isP_lt ho)
            have hp1 := q2.pos
            have hk := fun_ar n.1.text
            have hln := hE.len
            rcases ihp g 6 _ _ hN (by simp only; omega) (by simp only; omega) with ⟨u1, u2⟩ | ⟨u1, u2, u3⟩
            · exact .inl ⟨fl_expect ((fl_all e f).2.2 _ _ _ u1) _, fl_expect ((fl_all e' g).2.2 _ _ _ u2) _⟩
            · have s1 := hstep 6 (s := { n.2 with pos := n.2.pos + 1 }) f hN.le
              have p1 := u2.pos
              rw [u1]
              simp only at s1
              rcases iha g ((arity (funP n.1.text)).toNat - 1) [(parseP e f 6 { n.2 with pos := n.2.pos + 1 }).1] _ _ u2 (by omega) (by omega) with ⟨v1, v2⟩ | ⟨v1, v2, v3⟩
              · exact .inl ⟨fl_expect v1 _, fl_expect v2 _⟩
              · simp only at u3
                rcases sim_close hE v2 (d := bal e.toks s.pos) (by rw [v3, u3, hob, q3]) (hp _ hR.le) with ⟨r1, r2⟩ | ⟨-, r2, r3⟩
                · exact .inl ⟨r1, r2⟩
                · exact .inr ⟨by simp only; rw [v1], r2, r3⟩
        rw [if_neg c4, if_neg c4]
        by_cases c5 : isP e s 0 [wLeft, wRight] = true ∧ isP e s 1 [[46]] = true
        · rw [if_pos c5, if_pos c5]
          rcases sim_expect hE hR (ws := [wLeft, wRight]) (by decide) (by decide) with ⟨q1, q2⟩ | ⟨q1, q2, q3⟩
          · exact .inl ⟨fl_ref (fl_expect q1 _) _, fl_ref (fl_expect q2 _) _⟩
          · rw [q1, ← q3]
            rcases sim_expect hE q2 (ws := [[46]]) (by decide) (by decide) with ⟨u1, u2⟩ | ⟨-, u2, u3⟩
            · exact .inl ⟨fl_ref u1 _, fl_ref u2 _⟩
            · rw [← u3]
              exact sim_ref hE u2 _
        rw [if_neg c5, if_neg c5]
        exact sim_ref hE hR false
      | 1 =>
        unfold parseP
        simp only
        rw [sim_isP hE hR (a := 0) (ws := [[45]]) (by decide), sim_isP hE hR (a := 0) (ws := [wNot]) (by decide)]
        have hp0 := hR.pos
        by_cases c1 : isP e s 0 [[45]] = true
        · rw [if_pos c1, if_pos c1]
          have hl := isP_lt c1
          have hN := hR.next (by omega)
          have hb := isP_plain c1 (by decide) (by decide)
          rw [sim_kind hE hN (a := 0) (n := 2) (by decide)]
          by_cases c2 : isKindP e { s with pos := s.pos + 1 } 0 2 = true
          · rw [if_pos c2, if_pos c2]
            rcases sim_take hE hN (n := 2) (by decide) with ⟨q1, q2⟩ | ⟨q1, q2, q3⟩
            · exact .inl ⟨q1, q2⟩
            · exact .inr ⟨by simp only; rw [q1.2.2], q2, by rw [q3]; exact hb⟩
          · rw [if_neg c2, if_neg c2]
            rcases ihp g 1 _ _ hN (by simp only; omega) (by simp only; have := hE.len; omega) with ⟨q1, q2⟩ | ⟨q1, q2, q3⟩
            · exact .inl ⟨q1, q2⟩
            · exact .inr ⟨by simp only; rw [q1], q2, by rw [q3]; exact hb⟩
        rw [if_neg c1, if_neg c1]
        by_cases c2 : isP e s 0 [wNot] = true
        · rw [if_pos c2, if_pos c2]
          have hl := isP_lt c2
          have hN := hR.next (by omega)
          have hb := isP_plain c2 (by decide) (by decide)
          rcases ihp g 1 _ _ hN (by simp only; omega) (by simp only; have := hE.len; omega) with ⟨q1, q2⟩ | ⟨q1, q2, q3⟩
          · exact .inl ⟨q1, q2⟩
          · exact .inr ⟨by simp only; rw [q1], q2, by rw [q3]; exact hb⟩
        rw [if_neg c2, if_neg c2]
        exact ihp g 0 _ _ hR (by omega) (by omega)
      | 4 =>
        unfold parseP
        simp only
        have hp0 := hR.pos
        have hln := hE.len
        have s1 := hstep 3 f hR.le
        rcases ihp g 3 _ _ hR (by omega) (by omega) with ⟨q1, q2⟩ | ⟨q1, q2, q3⟩
        · have hf : ∀ (e : Src) (f : Nat) (q : X × Ps), q.2.failed = true → (if isP e q.2 0 [[61], [60]] = true then (opX (opP (expectP e q.2 [[61], [60]]).1) [q.1, (parseP e f 3 (expectP e q.2 [[61], [60]]).2).1], (parseP e f 3 (expectP e q.2 [[61], [60]]).2).2)
              else if isP e q.2 0 [[60, 61]] = true then (opX 13 [opX 12 [(parseP e f 3 { q.2 with pos := q.2.pos + 1 }).1, q.1]], (parseP e f 3 { q.2 with pos := q.2.pos + 1 }).2) else q).2.failed = true := fun e f q hq => by
            split
            · exact (fl_all e f).1 _ _ (fl_expect hq _)
            split
            · exact (fl_all e f).1 3 { q.2 with pos := q.2.pos + 1 } hq
            · exact hq
          exact .inl ⟨hf e f _ q1, hf e' g _ q2⟩
        · have p1 := q2.pos
          rw [sim_isP hE q2 (a := 0) (ws := [[61], [60]]) (by decide), sim_isP hE q2 (a := 0) (ws := [[60, 61]]) (by decide), q1]
          generalize parseP e f 3 s = q at *
          generalize parseP e' g 3 s' = q' at *
          by_cases c1 : isP e q.2 0 [[61], [60]] = true
          · rw [if_pos c1, if_pos c1]
            have hl := isP_lt c1
            rcases sim_expect hE q2 (ws := [[61], [60]]) (by decide) (by decide) with ⟨u1, u2⟩ | ⟨u1, u2, u3⟩
            · exact .inl ⟨(fl_all e f).1 _ _ u1, (fl_all e' g).1 _ _ u2⟩
            · have m1 : (expectP e q.2 [[61], [60]]).2.pos = q.2.pos + 1 := by unfold expectP; rw [if_pos c1]
              have m2 := u2.pos
              rcases ihp g 3 _ _ u2 (by omega) (by omega) with ⟨v1, v2⟩ | ⟨v1, v2, v3⟩
              · exact .inl ⟨v1, v2⟩
              · exact .inr ⟨by simp only; rw [u1, v1], v2, by rw [v3, u3, q3]⟩
          rw [if_neg c1, if_neg c1]
          by_cases c2 : isP e q.2 0 [[60, 61]] = true
          · rw [if_pos c2, if_pos c2]
            have hl := isP_lt c2
            have hN := q2.next (by omega)
            rcases ihp g 3 _ _ hN (by simp only; omega) (by simp only; omega) with ⟨v1, v2⟩ | ⟨v1, v2, v3⟩
            · exact .inl ⟨v1, v2⟩
            · exact .inr ⟨by simp only; rw [v1], v2, by rw [v3, ← q3]; exact isP_plain c2 (by decide) (by decide)⟩
          rw [if_neg c2, if_neg c2]
          exact .inr ⟨q1, q2, q3⟩
      | 2 => unfold parseP; exact chainlike g 1 s s' hR (by omega) (by omega)
      | 3 => unfold parseP; exact chainlike g 2 s s' hR (by omega) (by omega)
      | lv + 5 => unfold parseP; exact chainlike g (lv + 4) s s' hR (by omega) (by omega)
    · obtain ⟨g, rfl⟩ : ∃ g, f' = g + 1 := ⟨f' - 1, by omega⟩
      unfold chainP
      obtain ⟨o1, o2⟩ := opsP_par lv
      rw [sim_isP hE hR (a := 0) o2]
      by_cases c1 : isP e s 0 (opsP lv) = true
      · rw [if_pos c1, if_pos c1]
        have hl := isP_lt c1
        have hp0 := hR.pos
        have hln := hE.len
        rcases sim_expect hE hR o1 o2 with ⟨u1, u2⟩ | ⟨u1, u2, u3⟩
        · exact .inl ⟨(fl_all e f).2.1 _ _ _ ((fl_all e f).1 _ _ u1), (fl_all e' g).2.1 _ _ _ ((fl_all e' g).1 _ _ u2)⟩
        · have m1 : (expectP e s (opsP lv)).2.pos = s.pos + 1 := by unfold expectP; rw [if_pos c1]
          have m2 := u2.pos
          simp only
          rcases ihp g (lv - 1) _ _ u2 (by omega) (by omega) with ⟨v1, v2⟩ | ⟨v1, v2, v3⟩
          · exact .inl ⟨(fl_all e f).2.1 _ _ _ v1, (fl_all e' g).2.1 _ _ _ v2⟩
          · have s1 := hstep (lv - 1) f u2.le
            have m3 := v2.pos
            rw [u1, v1, ← u3, ← v3]
            exact ihc g lv _ _ _ v2 (by omega) (by omega)
      · rw [if_neg c1, if_neg c1]
        exact .inr ⟨rfl, hR, rfl⟩
    · obtain ⟨g, rfl⟩ : ∃ g, f' = g + 1 := ⟨f' - 1, by omega⟩
      match n with
      | 0 => unfold argsP; exact .inr ⟨rfl, hR, rfl⟩
      | n + 1 =>
        unfold argsP
        have hp0 := hR.pos
        have hln := hE.len
        simp only
        rcases sim_expect hE hR (ws := [[44]]) (by decide) (by decide) with ⟨u1, u2⟩ | ⟨u1, u2, u3⟩
        · exact .inl ⟨(fl_all e f).2.2 _ _ _ ((fl_all e f).1 _ _ u1), (fl_all e' g).2.2 _ _ _ ((fl_all e' g).1 _ _ u2)⟩
        · have m1 : (expectP e s [[44]]).2.pos = s.pos + 1 ∧ s.pos < e.toks.length := by
            have := u2.f
            unfold expectP at this ⊢
            split
            · rename_i h; exact ⟨rfl, isP_lt h⟩
            · rename_i h; rw [if_neg h] at this; cases this
          have m2 := u2.pos
          rcases ihp g 6 _ _ u2 (by omega) (by omega) with ⟨v1, v2⟩ | ⟨v1, v2, v3⟩
          · exact .inl ⟨(fl_all e f).2.2 _ _ _ v1, (fl_all e' g).2.2 _ _ _ v2⟩
          · have s1 := hstep 6 f u2.le
            have m3 := v2.pos
            rw [v1, ← u3, ← v3]
            exact iha g n _ _ _ v2 (by omega) (by omega)
end
section
variable {e : Src} {s : Ps} {f : Nat} {r : X × Ps}
theorem up1 {lv : Nat} (h1 : 1 ≤ lv) (h6 : lv < 6) (h : parseP e f lv s = r) (hf : Fol e r.2.pos folW) : parseP e (f + 1) (lv + 1) s = r := by
  match lv, h1, h6 with
  | 1, _, _ => unfold parseP; simp only [h]; exact chain_stop (hf.isP (ops_fol 2)) f
  | 2, _, _ => unfold parseP; simp only [h]; exact chain_stop (hf.isP (ops_fol 3)) f
  | 3, _, _ =>
    unfold parseP
    simp only [h, hf.isP (a := 0) (V := [[61], [60]]) (by decide), hf.isP (a := 0) (V := [[60, 61]]) (by decide)]
    rfl
  | 4, _, _ => unfold parseP; simp only [h]; exact chain_stop (hf.isP (ops_fol 5)) f
  | 5, _, _ => unfold parseP; simp only [h]; exact chain_stop (hf.isP (ops_fol 6)) f
theorem up_fail {lv : Nat} (h1 : 1 ≤ lv) (h6 : lv < 6) (h : (parseP e f lv s).2.failed = true) : (parseP e (f + 1) (lv + 1) s).2.failed = true := by
  match lv, h1, h6 with
  | 1, _, _ => unfold parseP; exact (fl_all e f).2.1 _ _ _ h
  | 2, _, _ => unfold parseP; exact (fl_all e f).2.1 _ _ _ h
  | 3, _, _ =>
    unfold parseP
    simp only
    split
    · exact (fl_all e f).1 _ _ (fl_expect h _)
    split
    · exact (fl_all e f).1 3 { (parseP e f 3 s).2 with pos := (parseP e f 3 s).2.pos + 1 } h
    · exact h
  | 4, _, _ => unfold parseP; exact (fl_all e f).2.1 _ _ _ h
  | 5, _, _ => unfold parseP; exact (fl_all e f).2.1 _ _ _ h
theorem paren1 {L : List Tk} (hA : AtW e s.pos (wdK [40] :: L)) : parseP e (f + 2) 1 s = ((parseP e f 6 { s with pos := s.pos + 1 }).1, (expectP e (parseP e f 6 { s with pos := s.pos + 1 }).2 [[41]]).2) := by
  have k2 : isKindP e s 0 2 = false := by rw [isKindP_at rfl hA]; rfl
  have k3 : isKindP e s 0 3 = false := by rw [isKindP_at rfl hA]; rfl
  have p1 : isP e s 0 [[40]] = true := by rw [isP_at rfl hA]; decide
  have m1 : isP e s 0 [[45]] = false := by rw [isP_at rfl hA]; decide
  have m2 : isP e s 0 [wNot] = false := by rw [isP_at rfl hA]; decide
  have z0 : parseP e (f + 1) 0 s = ((parseP e f 6 { s with pos := s.pos + 1 }).1, (expectP e (parseP e f 6 { s with pos := s.pos + 1 }).2 [[41]]).2) := by
    generalize hq : parseP e f 6 { s with pos := s.pos + 1 } = q
    conv => lhs; unfold parseP
    simp only [k2, k3, p1, Bool.false_eq_true, if_false, if_true, hq]
  rw [← z0]
  generalize hq : parseP e (f + 1) 0 s = q
  conv => lhs; unfold parseP
  simp only [m1, m2, Bool.false_eq_true, if_false, hq]
theorem paren6 {L : List Tk} (hA : AtW e s.pos (wdK [40] :: L)) (hf : Fol e (expectP e (parseP e f 6 { s with pos := s.pos + 1 }).2 [[41]]).2.pos folW) : parseP e (f + 7) 6 s = ((parseP e f 6 { s with pos := s.pos + 1 }).1, (expectP e (parseP e f 6 { s with pos := s.pos + 1 }).2 [[41]]).2) :=
  up1 (lv := 5) (by decide) (by decide) (up1 (lv := 4) (by decide) (by decide) (up1 (lv := 3) (by decide) (by decide) (up1 (lv := 2) (by decide) (by decide) (up1 (lv := 1) (by decide) (by decide) (paren1 hA) hf) hf) hf) hf) hf
theorem paren_fail {L : List Tk} (hA : AtW e s.pos (wdK [40] :: L)) (h : (expectP e (parseP e f 6 { s with pos := s.pos + 1 }).2 [[41]]).2.failed = true) : (parseP e (f + 7) 6 s).2.failed = true :=
  up_fail (lv := 5) (by decide) (by decide) (up_fail (lv := 4) (by decide) (by decide) (up_fail (lv := 3) (by decide) (by decide) (up_fail (lv := 2) (by decide) (by decide) (up_fail (lv := 1) (by decide) (by decide) (by rw [paren1 hA]; exact h)))))
end
theorem cols_same {left right : List Bs} : ∀ (rs rs' : List (Tk × Bool)), rs'.map (fun y => (y.1.text, y.2)) = rs.map (fun y => (y.1.text, y.2)) → (∃ p p', colsP left right rs = .error p ∧ colsP left right rs' = .error p') ∨ ∃ m, colsP left right rs = .ok m ∧ colsP left right rs' = .ok m
  | [], [], _ => .inr ⟨[], rfl, rfl⟩
  | [], _ :: _, h => by simp at h
  | _ :: _, [], h => by simp at h
  | (t, r) :: rs, (t', r') :: rs', h => by
    rw [List.map_cons, List.map_cons] at h
    injection h with h1 h2
    injection h1 with h3 h4
    simp only at h3 h4
    have ih := cols_same (left := left) (right := right) rs rs' h2
    unfold colsP
    rw [h3, h4]
    cases findP (if r = true then right else left) t.text with
    | none => exact .inl ⟨_, _, rfl, rfl⟩
    | some n =>
      rcases ih with ⟨p, p', e1, e2⟩ | ⟨m, e1, e2⟩
      · rw [e1, e2]; exact .inl ⟨_, _, rfl, rfl⟩
      · rw [e1, e2]; exact .inr ⟨_, rfl, rfl⟩
theorem mean_parse {e e' : Src} {left right : List Bs} (hE : Emb e e' 2) (hp : ∀ i, i ≤ e.toks.length → 0 ≤ bal e.toks i) (h0 : AtW e' 0 [wdK [40], wdK [40]]) (h1 : AtW e' (e.toks.length + 2) [wdK [41], wdK [41]]) (hl : e'.toks.length = e.toks.length + 4) :
    (parseExprP e' left right).2.2 = (parseExprP e left right).2.2 ∧ ((parseExprP e left right).2.2 = 0 → (parseExprP e' left right).1 = (parseExprP e left right).1) := by
  have hbad : ∀ (e : Src), (parseP e e.fuel 6 ⟨0, false, 0, []⟩).2.failed = true → (parseExprP e left right).2.2 = 2 := fun e h => by
    unfold parseExprP wholeP
    simp only
    have : (if (parseP e e.fuel 6 ⟨0, false, 0, []⟩).2.pos < e.toks.length then (parseP e e.fuel 6 ⟨0, false, 0, []⟩).2.fail e else (parseP e e.fuel 6 ⟨0, false, 0, []⟩).2).failed = true := by
      split
      · rfl
      · exact h
    rw [if_pos this]
  obtain ⟨F, hF⟩ : ∃ F, e'.fuel = F + 7 + 7 := ⟨10 * e.toks.length + 46, by unfold Src.fuel; omega⟩
  have hF2 : F = 10 * e.toks.length + 46 := by unfold Src.fuel at hF; omega
  have hR : Rel e 2 ⟨0, false, 0, []⟩ ⟨2, false, 0, []⟩ := ⟨rfl, Nat.zero_le _, rfl, rfl, rfl⟩
  have hsim := (sim_all hE hp e.fuel).1 F 6 _ _ hR (by unfold Src.fuel; simp only; omega) (by simp only; omega)
  have hA1 : AtW e' ({ (⟨0, false, 0, []⟩ : Ps) with pos := 0 + 1 } : Ps).pos (wdK [40] :: []) := h0.tail
  have pf : (expectP e' (parseP e' F 6 ⟨2, false, 0, []⟩).2 [[41]]).2.failed = true → (parseP e' e'.fuel 6 ⟨0, false, 0, []⟩).2.failed = true := fun h => by
    rw [hF]
    refine paren_fail (s := ⟨0, false, 0, []⟩) h0 (fl_expect ?_ _)
    exact paren_fail (s := ⟨1, false, 0, []⟩) hA1 h
  have hz0 : bal e.toks 0 = 0 := rfl
  rcases hsim with ⟨q1, q2⟩ | ⟨q1, q2, q3⟩
  · rw [hbad e q1, hbad e' (pf (fl_expect q2 _))]
    exact ⟨rfl, fun h => by cases h⟩
  · simp only [hz0] at q3
    by_cases hlt : (parseP e e.fuel 6 ⟨0, false, 0, []⟩).2.pos < e.toks.length
    · have hb1 : (parseExprP e left right).2.2 = 2 := by
        unfold parseExprP wholeP
        simp only
        rw [if_pos hlt, if_pos (fail_failed _ _)]
      have hno : isP e (parseP e e.fuel 6 ⟨0, false, 0, []⟩).2 0 [[41]] = false := by
        rw [Bool.eq_false_iff]
        intro h
        unfold isP at h
        rw [Nat.add_zero] at h
        cases ht : e.toks[(parseP e e.fuel 6 ⟨0, false, 0, []⟩).2.pos]? with
        | none => rw [ht] at h; cases h
        | some t =>
          rw [ht] at h
          simp only [Bool.and_eq_true] at h
          have h3 : t.text = [41] := by simpa using h.2
          have hb := bal_succ ht
          have : parW t = -1 := by unfold parW; rw [h3, h.1]; rfl
          have := hp _ (show (parseP e e.fuel 6 ⟨0, false, 0, []⟩).2.pos + 1 ≤ e.toks.length from hlt)
          omega
      have hno' : isP e' (parseP e' F 6 ⟨2, false, 0, []⟩).2 0 [[41]] = false := by
        refine Eq.trans ?_ hno
        unfold isP
        rcases q2.at hE (a := 0) with ⟨t, t', u1, u2, u3, u4, -⟩ | ⟨u1, -⟩
        · rw [u1, u2]; simp only [u3, u4]
        · rw [List.getElem?_eq_none_iff] at u1; omega
      have hb2 := hbad e' (pf (by unfold expectP; rw [if_neg (by rw [hno']; simp)]; rfl))
      rw [hb1, hb2]
      exact ⟨rfl, fun h => by cases h⟩
    · have hpe : (parseP e e.fuel 6 ⟨0, false, 0, []⟩).2.pos = e.toks.length := Nat.le_antisymm q2.le (Nat.le_of_not_lt hlt)
      have hpe' : (parseP e' F 6 ⟨2, false, 0, []⟩).2.pos = e.toks.length + 2 := by rw [q2.pos, hpe]
      have h1' : AtW e' (parseP e' F 6 ⟨2, false, 0, []⟩).2.pos [wdK [41], wdK [41]] := by rw [hpe']; exact h1
      have x1 := expect_at h1' (ws := [[41]]) (wdK_kind _) (by decide)
      have f1 : parseP e' (F + 7) 6 ⟨1, false, 0, []⟩ = ((parseP e' F 6 ⟨2, false, 0, []⟩).1, { (parseP e' F 6 ⟨2, false, 0, []⟩).2 with pos := (parseP e' F 6 ⟨2, false, 0, []⟩).2.pos + 1 }) := by
        have := paren6 (e := e') (s := ⟨1, false, 0, []⟩) (f := F) hA1 (by rw [x1]; exact Fol.at h1'.tail (by decide))
        rw [x1] at this
        exact this
      have h2' : AtW e' ({ (parseP e' F 6 ⟨2, false, 0, []⟩).2 with pos := (parseP e' F 6 ⟨2, false, 0, []⟩).2.pos + 1 } : Ps).pos [wdK [41]] := h1'.tail
      have x2 := expect_at h2' (ws := [[41]]) (wdK_kind _) (by decide)
      have f2 : parseP e' e'.fuel 6 ⟨0, false, 0, []⟩ = ((parseP e' F 6 ⟨2, false, 0, []⟩).1, { (parseP e' F 6 ⟨2, false, 0, []⟩).2 with pos := (parseP e' F 6 ⟨2, false, 0, []⟩).2.pos + 1 + 1 }) := by
        have := paren6 (e := e') (s := ⟨0, false, 0, []⟩) (f := F + 7) h0 (by rw [f1, x2]; refine Fol.end_ ?_; simp only; omega)
        rw [f1, x2] at this
        rw [hF]
        exact this
      have hg : (parseP e' F 6 ⟨2, false, 0, []⟩).2.pos + 1 + 1 = e'.toks.length := by omega
      unfold parseExprP wholeP
      simp only
      rw [f2]
      simp only [hpe, hg, Nat.lt_irrefl, if_false, q2.f, q2.f', Bool.false_eq_true]
      unfold Xr.resolve
      simp only
      rw [q1]
      rcases cols_same (left := left) (right := right) _ _ q2.refs with ⟨p, p', e1, e2⟩ | ⟨m, e1, e2⟩
      · rw [e1, e2]; exact ⟨rfl, fun h => by cases h⟩
      · rw [e1, e2]; exact ⟨rfl, fun _ => rfl⟩
theorem dig_byte (u : Nat) (h : u < 10) : (UInt8.ofNat (48 + u)).toNat = 48 + u := by rw [UInt8.toNat_ofNat', Nat.mod_eq_of_lt (by omega)]
theorem digits_facts : ∀ (n u : Nat), u ≤ n → valF 0 (Lib.decDigits u) = u ∧ (Lib.decDigits u).all isDig = true ∧ Lib.decDigits u ≠ [] ∧ (10 ≤ u → (Lib.decDigits u).head? ≠ some 48) ∧ (1 ≤ u → (Lib.decDigits u).head? ≠ some 48) ∧ (10 ≤ u → 1 < (Lib.decDigits u).length) := by
  intro n
  induction n with
  | zero =>
    intro u hu
    obtain rfl : u = 0 := by omega
    rw [Lib.decDigits_one (by omega)]
    refine ⟨by simp [valF], by decide, by simp, fun h => absurd h (by omega), fun h => absurd h (by omega), fun h => absurd h (by omega)⟩
  | succ n ih =>
    intro u hu
    by_cases h : u < 10
    · rw [Lib.decDigits_one h]
      have hb := dig_byte u h
      refine ⟨?_, ?_, by simp, fun h' => absurd h' (by omega), fun h1 => ?_, fun h' => absurd h' (by omega)⟩
      · unfold valF
        rw [List.foldl_cons, List.foldl_nil, hb]
        omega
      · rw [List.all_cons, List.all_nil, Bool.and_true]
        unfold isDig
        rw [hb]
        simp
        omega
      · rw [List.head?_cons]
        intro e
        injection e with e
        rw [e] at hb
        have : (48 : UInt8).toNat = 48 := rfl
        omega
    · obtain ⟨i1, i2, i3, i4, i5, i6⟩ := ih (u / 10) (by omega)
      have hb := dig_byte (u % 10) (by omega)
      rw [Lib.decDigits, dif_neg h]
      have hh : (Lib.decDigits (u / 10) ++ [UInt8.ofNat (48 + u % 10)]).head? = (Lib.decDigits (u / 10)).head? := by
        cases hd : Lib.decDigits (u / 10) with
        | nil => exact absurd hd i3
        | cons a l => rfl
      refine ⟨?_, ?_, by simp, fun _ => ?_, fun _ => ?_, fun _ => ?_⟩
      · rw [valF_snoc, i1, hb]; omega
      · rw [List.all_append, i2, List.all_cons, List.all_nil, Bool.and_true, Bool.true_and]
        unfold isDig
        rw [hb]
        simp
        omega
      · rw [hh]; exact i5 (by omega)
      · rw [hh]; exact i5 (by omega)
      · have : 0 < (Lib.decDigits (u / 10)).length := List.length_pos_iff.2 i3
        simp only [List.length_append, List.length_cons, List.length_nil]
        omega
theorem decB_digits (u : Nat) : decB (Lib.decDigits u) = true := by
  obtain ⟨i1, i2, i3, i4, i5, i6⟩ := digits_facts u u (Nat.le_refl _)
  unfold decB
  rw [i2, Bool.true_and]
  by_cases h : u < 10
  · rw [Lib.decDigits_one h]; rfl
  · have e1 := i6 (by omega)
    have e2 := i4 (by omega)
    rw [Bool.or_eq_true]
    right
    rw [Bool.and_eq_true, decide_eq_true_eq, bne_iff_ne]
    exact ⟨e1, e2⟩
theorem digits_head (u : Nat) (c : UInt8) (h : (Lib.decDigits u).head? = some c) : isDig c = true := by
  obtain ⟨i1, i2, i3, _⟩ := digits_facts u u (Nat.le_refl _)
  cases hd : Lib.decDigits u with
  | nil => exact absurd hd i3
  | cons a l =>
    rw [hd] at h i2
    simp at h
    subst h
    exact List.all_eq_true.1 i2 a (by simp)
theorem pInt_digits (u : Nat) (hu : u ≤ 4294967296) : pInt (Lib.decDigits u) = (⟨1, (u : Int), ⟨#[]⟩⟩, 0) := by
  have hh : (Lib.decDigits u).head? ≠ some 45 := fun e => by have := digits_head u 45 e; revert this; decide
  have e1 : digs (Lib.decDigits u) = Lib.decDigits u := by unfold digs; rw [if_neg hh]
  have e2 : negB (Lib.decDigits u) = false := by unfold negB; simpa using hh
  unfold pInt
  rw [e1, e2, (digits_facts u u (Nat.le_refl _)).1, decB_digits, if_neg (by simp), if_neg (by omega)]
  simp
theorem parse_digits (l : List UInt8) (h : ∀ c, l.head? = some c → isDig c = true ∨ c = 45) : parseO l = pInt l := by
  unfold parseO
  rw [if_neg, if_neg]
  · intro e
    rcases h 34 e with h | h <;> revert h <;> decide
  · rintro rfl
    rcases h 110 rfl with h | h <;> revert h <;> decide
end Go.Proofs.YtpnfbehbheddeaaGreatDoor
