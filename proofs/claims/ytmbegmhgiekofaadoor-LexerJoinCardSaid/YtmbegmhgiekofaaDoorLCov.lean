/- Where the tokens of a scan stand, and that they have words; scanning what was joined. In plain Lean, no condition. -/
import Derived.Test.YtmbegmhgiekofaaDoorLJn
namespace Go.Proofs.YtmbegmhgiekofaaDoor

theorem takeWhile_at {p : UInt8 → Bool} : ∀ (r : List UInt8) (i : Nat), i < (r.takeWhile p).length → ∃ d, r[i]? = some d ∧ p d = true := by
  intro r
  induction r with
  | nil => intro i h; simp at h
  | cons c r ih =>
    intro i h
    rw [List.takeWhile_cons] at h
    cases hp : p c
    · rw [hp] at h; simp at h
    · rw [hp] at h
      cases i with
      | zero => exact ⟨c, rfl, hp⟩
      | succ i =>
        simp only [if_true, List.length_cons] at h
        obtain ⟨d, h1, h2⟩ := ih i (by omega)
        exact ⟨d, by simpa using h1, h2⟩
theorem nameLen_to (s : List UInt8) : nmTo s (nameLen s) := by
  intro j hj
  cases s with
  | nil => simp [nameLen] at hj
  | cons c r =>
    rw [nameLen] at hj
    split at hj
    · rename_i hc
      cases j with
      | zero => rw [nmAt_some (c := c) rfl, hc]; rfl
      | succ j =>
        obtain ⟨d, h1, h2⟩ := takeWhile_at (p := inNm) r j (by omega)
        rw [nmAt_some (c := d) (by simpa using h1)]
        unfold inNm at h2
        simpa using h2
    · omega
theorem nameLen_take (s : List UInt8) : nameLen (s.take (nameLen s)) = nameLen s := by
  have hle := nameLen_le s
  refine nameLen_at _ _ (fun j hj => ?_) (nmAt_none (by rw [List.length_take]; omega))
  have := nameLen_to s j hj
  unfold nmAt at this ⊢
  rw [List.getElem?_take, if_pos hj]
  exact this
theorem pInt_bounds {d : List UInt8} (ha : d.all isDig = true) (h : (pInt d).2 = 0) : 0 ≤ (pInt d).1.n ∧ (pInt d).1.n ≤ 4294967296 := by
  have h45 : d.head? ≠ some 45 := by
    intro e
    cases d with
    | nil => cases e
    | cons c r =>
      simp at e
      subst e
      simp [isDig] at ha
  have e1 : digs d = d := by unfold digs; rw [if_neg h45]
  have e2 : negB d = false := by unfold negB; simpa using h45
  unfold pInt at h ⊢
  rw [e1, e2] at h ⊢
  split at h
  · simp at h
  · rename_i h1
    split at h
    · simp at h
    · rename_i h2
      rw [if_neg h1, if_neg h2]
      simp
      omega
/-- A token that was read has a word, and a short text. -/
theorem tok_good {s : List UInt8} (hs : s ≠ []) {t : Tk} {n : Nat} (h : tokO s = (t, n, 0)) : tokOk t = true ∧ t.text.length ≤ 32 := by
  unfold tokO at h
  split at h
  · rename_i hc
    split at h
    · simp at h
    · rename_i h16
      simp only [Prod.mk.injEq] at h
      obtain ⟨rfl, _, _⟩ := h
      have hle := nameLen_le s
      have hl : (s.take (nameLen s)).length = nameLen s := by rw [List.length_take]; omega
      have hpos : 1 ≤ nameLen s := by
        cases s with
        | nil => exact absurd rfl hs
        | cons c r => rw [nameLen, if_pos (show isLet c = true from hc)]; omega
      refine ⟨?_, by simp only; omega⟩
      unfold tokOk
      rw [if_pos rfl]
      unfold isNameB
      simp only
      rw [nameLen_take, hl]
      have : s.take (nameLen s) ≠ [] := fun e => by rw [e] at hl; simp at hl; omega
      simp [hs]
      omega
  · split at h
    · split at h
      · rename_i h0
        simp only [Prod.mk.injEq] at h
        exact absurd h.2.2 h0
      · rename_i h0
        simp only [Prod.mk.injEq] at h
        obtain ⟨rfl, _, _⟩ := h
        have := pInt_bounds (all_takeWhile (p := isDig) s) (by simpa using h0)
        refine ⟨?_, by simp⟩
        unfold tokOk
        rw [if_neg (by simp), if_pos rfl]
        simpa using this
    · split at h
      · split at h
        · simp at h
        · split at h
          · simp at h
          · rename_i h32
            simp only [Prod.mk.injEq] at h
            obtain ⟨rfl, _, _⟩ := h
            refine ⟨?_, by simp only; omega⟩
            unfold tokOk
            rw [if_neg (by simp), if_neg (by simp), if_pos rfl]
            simp
            omega
      · split at h
        · simp at h
        · rename_i hn
          simp only [Prod.mk.injEq] at h
          obtain ⟨rfl, _, _⟩ := h
          have hk : isSignB (s.take (signLen s)) = true := by
            have e := signLen_ref s
            split at e
            · rename_i h2; rw [e]; exact h2.2
            · split at e
              · rename_i h1; rw [e]; exact h1.2
              · exact absurd e hn
          have := isSign_len hk
          refine ⟨?_, by simp only; omega⟩
          unfold tokOk
          rw [if_neg (by simp), if_neg (by simp), if_neg (by simp), if_pos rfl]
          exact hk
/-- The tokens ts stand from p on, with only white space and comments between them. -/
def Cov (s : List UInt8) : Nat → List Tk → Prop
  | p, [] => p ≤ s.length ∧ skipN false (s.drop p) = (s.drop p).length
  | p, t :: ts => ∃ q : Nat, t.pos = (q : Int) ∧ q = p + skipN false (s.drop p) ∧ tokOk t = true ∧ t.text.length ≤ 32 ∧ 1 ≤ (wordTk t).length ∧ q + (wordTk t).length ≤ s.length ∧ (s.drop q).take (wordTk t).length = wordTk t ∧ Cov s (q + (wordTk t).length) ts
theorem scan_cov : ∀ (f : Nat) (s : List UInt8) (p : Nat) (acc l : List Tk) (k : Nat), (s.drop p).length < f → p ≤ s.length → scanL f (s.drop p) p acc = (l, k, 0) → ∃ ts, l = acc ++ ts ∧ Cov s p ts := by
  intro f
  induction f with
  | zero => intro s p acc l k hf; omega
  | succ f ih =>
    intro s p acc l k hf hp h
    have hle := skipN_le (s.drop p) false
    rw [scanL] at h
    simp only at h
    split at h
    · rename_i hr
      simp at h
      refine ⟨[], by simp [h.1], hp, ?_⟩
      have := congrArg List.length hr
      rw [List.length_drop, List.length_nil] at this
      omega
    · rename_i hr
      split at h
      · rename_i h0; simp only [Prod.mk.injEq] at h; exact absurd h.2.2 h0
      · rename_i h0
        split at h
        · simp at h
        · obtain ⟨⟨t, n, e⟩, hx⟩ : ∃ x, tokO ((s.drop p).drop (skipN false (s.drop p))) = x := ⟨_, rfl⟩
          rw [hx] at h h0
          simp only [ne_eq, Decidable.not_not] at h h0
          subst h0
          have ht := tok_at _ hr t n hx
          have hg := tok_good hr hx
          have h1 := ht.pos
          have h2 := ht.le
          have h3 := ht.word
          have h4 := ht.len
          obtain ⟨q, hq⟩ : ∃ q, p + skipN false (s.drop p) = q := ⟨_, rfl⟩
          simp only [List.drop_drop, hq] at h h2 h3
          simp only [List.length_drop] at h2 hle hf
          obtain ⟨ts, e1, e2⟩ := ih s (q + n) _ l k (by rw [List.length_drop]; omega) (by omega) h
          refine ⟨{ t with pos := (q : Int) } :: ts, by rw [e1]; simp, q, rfl, hq.symm, hg.1, hg.2, ?_, ?_, ?_, ?_⟩
          · show 1 ≤ (wordTk t).length; omega
          · show q + (wordTk t).length ≤ s.length; omega
          · show (s.drop q).take (wordTk t).length = wordTk t
            rw [h4]; exact h3
          · show Cov s (q + (wordTk t).length) ts
            rw [h4]; exact e2
theorem scanO_cov {s : List UInt8} {l : List Tk} {k : Nat} (h : scanO s = (l, k, 0)) : Cov s 0 l ∧ s.length ≤ 32768 := by
  unfold scanO at h
  split at h
  · simp at h
  · obtain ⟨ts, e1, e2⟩ := scan_cov (s.length + 1) s 0 [] l k (by simp) (by omega) (by simpa using h)
    simp at e1
    subst e1
    exact ⟨e2, by omega⟩
theorem skip_take : ∀ (s : List UInt8) (cm : Bool), skipN cm (s.take (skipN cm s)) = skipN cm s := by
  intro s
  induction s with
  | nil => intro cm; simp [skipN]
  | cons c r ih =>
    intro cm
    by_cases h1 : c = 10
    · have e : skipN cm (c :: r) = 1 + skipN false r := by rw [skipN, if_pos h1]
      rw [e, Nat.add_comm, List.take_succ_cons, skipN, if_pos h1, ih, Nat.add_comm]
    by_cases h2 : c = 32 ∨ c = 9 ∨ c = 13
    · have e : skipN cm (c :: r) = 1 + skipN cm r := by rw [skipN, if_neg h1, if_pos h2]
      rw [e, Nat.add_comm, List.take_succ_cons, skipN, if_neg h1, if_pos h2, ih, Nat.add_comm]
    by_cases h3 : c = 35
    · have e : skipN cm (c :: r) = 1 + skipN true r := by rw [skipN, if_neg h1, if_neg h2, if_pos h3]
      rw [e, Nat.add_comm, List.take_succ_cons, skipN, if_neg h1, if_neg h2, if_pos h3, ih, Nat.add_comm]
    cases cm
    · have e : skipN false (c :: r) = 0 := by rw [skipN, if_neg h1, if_neg h2, if_neg h3]; rfl
      rw [e]
      rfl
    · have e : skipN true (c :: r) = 1 + skipN true r := by rw [skipN, if_neg h1, if_neg h2, if_neg h3, if_pos rfl]
      rw [e, Nat.add_comm, List.take_succ_cons, skipN, if_neg h1, if_neg h2, if_neg h3, if_pos rfl, ih, Nat.add_comm]
theorem scanO_blank {u : List UInt8} (hl : u.length ≤ 32768) (h : skipN false u = u.length) : scanO u = ([], 0, 0) := by
  unfold scanO
  rw [if_neg (by omega), scanL]
  simp only
  rw [h, List.drop_length, if_pos rfl]
theorem gap_blank {s : List UInt8} {p q : Nat} (hl : s.length ≤ 32768) (hq : q = p + skipN false (s.drop p)) : scanO ((s.drop p).take (q - p)) = ([], 0, 0) := by
  have e : q - p = skipN false (s.drop p) := by omega
  have hle := skipN_le (s.drop p) false
  rw [e]
  refine scanO_blank (by rw [List.length_take, List.length_drop]; omega) ?_
  rw [skip_take, List.length_take]
  omega
theorem Cov.nil {s : List UInt8} {p : Nat} (hl : s.length ≤ 32768) (h : Cov s p []) : p ≤ s.length ∧ scanO (s.drop p) = ([], 0, 0) :=
  ⟨h.1, scanO_blank (by rw [List.length_drop]; omega) h.2⟩
theorem cov_sum : ∀ (ts : List Tk) (s : List UInt8) (p : Nat), Cov s p ts → p + (ts.map fun t => (wordTk t).length).sum ≤ s.length ∧ ts.length ≤ (ts.map fun t => (wordTk t).length).sum := by
  intro ts
  induction ts with
  | nil => intro s p h; exact ⟨by simpa using h.1, by simp⟩
  | cons t ts ih =>
    intro s p h
    obtain ⟨q, _, hq, _, _, h1, h2, _, h3⟩ := h
    obtain ⟨i1, i2⟩ := ih s _ h3
    simp only [List.map_cons, List.sum_cons, List.length_cons]
    omega
theorem cov_all : ∀ (ts : List Tk) (s : List UInt8) (p : Nat), Cov s p ts → ∀ t ∈ ts, tokOk t = true ∧ t.text.length ≤ 32 := by
  intro ts
  induction ts with
  | nil => intro s p _ t ht; cases ht
  | cons u ts ih =>
    intro s p h t ht
    obtain ⟨q, _, _, h1, h2, _, _, _, h3⟩ := h
    rcases List.mem_cons.1 ht with rfl | ht
    · exact ⟨h1, h2⟩
    · exact ih s _ h3 t ht
theorem spJoin_sum : ∀ (l : List (List UInt8)), (spJoin l).length ≤ (l.map List.length).sum + l.length := by
  intro l
  induction l with
  | nil => simp [spJoin]
  | cons x l ih =>
    cases l with
    | nil => simp [spJoin]
    | cons y l =>
      rw [spJoin]
      simp only [List.length_append, List.length_cons, List.map_cons, List.sum_cons] at ih ⊢
      omega
theorem wordsK_all {ts : List Tk} (h : ∀ t ∈ ts, tokOk t = true) : wordsK ts = ts.map wordTk := by
  unfold wordsK
  rw [List.filter_eq_self.2 h]
/-- Scanning what joining gives: the same tokens again. -/
theorem back_law {s : List UInt8} {l : List Tk} {k : Nat} (hs : s.length ≤ 10000) (h : scanO s = (l, k, 0)) : ∃ m, scanO (joinK l) = (m, 0, 0) ∧ sameTk m l := by
  obtain ⟨hc, _⟩ := scanO_cov h
  have hall := cov_all l s 0 hc
  obtain ⟨h1, h2⟩ := cov_sum l s 0 hc
  have hlen := scanO_len s
  rw [h] at hlen
  simp only at hlen
  have hcan : ∀ t ∈ l, Canon t := by
    unfold scanO at h
    split at h
    · simp at h
    · exact scan_canon (s.length + 1) s 0 [] l k (by simp) (by omega) h
  unfold joinK
  rw [wordsK_all (fun t ht => (hall t ht).1)]
  have hj := spJoin_sum (l.map wordTk)
  rw [List.map_map, List.length_map] at hj
  have hj2 : (spJoin (l.map wordTk)).length ≤ 20000 := by
    have : (l.map (List.length ∘ wordTk)).sum = (l.map fun t => (wordTk t).length).sum := rfl
    omega
  obtain ⟨ts', e1, e2⟩ := scan_join l hcan ((spJoin (l.map wordTk)).length + 1) [] 0 [] (.inl rfl) (by simp) (by simpa using hlen) (.inr rfl)
  refine ⟨ts', ?_, e2⟩
  unfold scanO
  rw [if_neg (by omega)]
  simpa using e1
theorem sameTk_len {l m : List Tk} (h : sameTk l m) : l.length = m.length := by
  have := congrArg List.length h
  simpa using this
end Go.Proofs.YtmbegmhgiekofaaDoor
