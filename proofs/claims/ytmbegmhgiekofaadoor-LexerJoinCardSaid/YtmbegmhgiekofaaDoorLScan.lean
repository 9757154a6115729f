/- Scanning what was joined gives the tokens again; where the tokens stand. In plain Lean, no condition. -/
import Derived.Test.YtmbegmhgiekofaaDoorLLaw
namespace Go.Proofs.YtmbegmhgiekofaaDoor

def wsB (c : UInt8) : Prop := c = 10 ∨ c = 32 ∨ c = 9 ∨ c = 13 ∨ c = 35
/-- A token without its position. -/
def Tk.at0 (t : Tk) : Tk := { t with pos := 0 }
structure Canon (t : Tk) : Prop where
  pos : 1 ≤ (wordTk t).length
  back : ∀ r, gap r → tokO (wordTk t ++ r) = (t.at0, (wordTk t).length, 0)
theorem tok_first {c : UInt8} {r : List UInt8} {x : Tk × Nat} (h : tokO (c :: r) = (x.1, x.2, 0)) : ¬ wsB c := by
  intro hw
  have hd : (c :: r).getD 0 0 = c := rfl
  have h1 : isLet c = false := by rcases hw with rfl | rfl | rfl | rfl | rfl <;> decide
  have h2 : isDig c = false := by rcases hw with rfl | rfl | rfl | rfl | rfl <;> decide
  have h3 : c ≠ 34 := by rcases hw with rfl | rfl | rfl | rfl | rfl <;> decide
  have h4 : signL.contains c = false := by rcases hw with rfl | rfl | rfl | rfl | rfl <;> decide
  have h5 : signLen (c :: r) = 0 := by
    unfold signLen
    rw [if_neg, if_neg]
    · rw [hd, h4]; simp
    · have hc : c ≠ 43 ∧ c ≠ 60 := by rcases hw with rfl | rfl | rfl | rfl | rfl <;> decide
      cases r with
      | nil => simp
      | cons d r => simp [hc.1, hc.2]
  unfold tokO at h
  rw [hd, if_neg (by rw [h1]; simp), if_neg (by rw [h2]; simp), if_neg h3, if_pos h5] at h
  simp at h
theorem Canon.head {t : Tk} (h : Canon t) : ∃ c r, wordTk t = c :: r ∧ ¬ wsB c := by
  cases hw : wordTk t with
  | nil => have := h.pos; rw [hw] at this; simp at this
  | cons c r =>
    refine ⟨c, r, rfl, ?_⟩
    have := h.back [] (.inl rfl)
    rw [hw, List.append_nil] at this
    exact tok_first (x := (_, _)) this
theorem TokAt.canon {s : List UInt8} {t : Tk} {n : Nat} (h : TokAt s t n) (p : Int) : Canon { t with pos := p } := by
  have hz : (Tk.at0 { t with pos := p }) = t := by
    have := h.zero
    cases t
    simp only [Tk.at0] at this ⊢
    rw [this]
  have hw : wordTk { t with pos := p } = wordTk t := rfl
  refine ⟨by rw [hw, h.len]; exact h.pos, fun r hr => ?_⟩
  rw [hw, hz, h.len]
  exact h.back r hr
theorem skipN_word {c : UInt8} (hc : ¬ wsB c) (r : List UInt8) : skipN false (c :: r) = 0 := by
  unfold wsB at hc
  rw [skipN, if_neg (fun e => hc (.inl e)), if_neg (fun e => hc (by rcases e with e | e | e <;> simp [e])), if_neg (fun e => hc (by simp [e]))]
  rfl
theorem skipN_sp (r : List UInt8) : skipN false (32 :: r) = 1 + skipN false r := by
  rw [skipN, if_neg (by decide), if_pos (.inl rfl)]
def spJoin : List (List UInt8) → List UInt8
  | [] => []
  | [a] => a
  | a :: b :: l => a ++ 32 :: spJoin (b :: l)
/-- The same tokens, positions apart. -/
def sameTk (l m : List Tk) : Prop := l.map Tk.at0 = m.map Tk.at0
theorem scan_join : ∀ (ts : List Tk), (∀ t ∈ ts, Canon t) → ∀ (f : Nat) (sp : List UInt8) (pos : Nat) (acc : List Tk), (sp = [] ∨ sp = [32]) → (sp ++ spJoin (ts.map wordTk)).length < f → acc.length + ts.length ≤ 4096 → ts ≠ [] ∨ sp = [] →
    ∃ ts', scanL f (sp ++ spJoin (ts.map wordTk)) pos acc = (acc ++ ts', 0, 0) ∧ sameTk ts' ts := by
  intro ts
  induction ts with
  | nil =>
    intro _ f sp pos acc _ hf _ hne
    rcases hne with h | rfl
    · exact absurd rfl h
    · obtain ⟨f, rfl⟩ : ∃ g, f = g + 1 := ⟨f - 1, by omega⟩
      refine ⟨[], ?_, rfl⟩
      rw [scanL]
      simp [spJoin, skipN]
  | cons t ts ih =>
    intro hc f sp pos acc hsp hf hcount _
    have hct := hc t (by simp)
    obtain ⟨c, r, hw, hnc⟩ := hct.head
    obtain ⟨f, rfl⟩ : ∃ g, f = g + 1 := ⟨f - 1, by omega⟩
    obtain ⟨rest, hj, hgap, hrest⟩ : ∃ rest, spJoin ((t :: ts).map wordTk) = wordTk t ++ rest ∧ gap rest ∧ ((ts = [] ∧ rest = []) ∨ (ts ≠ [] ∧ rest = [32] ++ spJoin (ts.map wordTk))) := by
      cases ts with
      | nil => exact ⟨[], by simp [spJoin], .inl rfl, .inl ⟨rfl, rfl⟩⟩
      | cons u us => exact ⟨32 :: spJoin ((u :: us).map wordTk), by simp [spJoin], .inr rfl, .inr ⟨by simp, rfl⟩⟩
    have hk : skipN false (sp ++ spJoin ((t :: ts).map wordTk)) = sp.length ∧ (sp ++ spJoin ((t :: ts).map wordTk)).drop (skipN false (sp ++ spJoin ((t :: ts).map wordTk))) = wordTk t ++ rest := by
      rcases hsp with rfl | rfl
      · rw [hj, List.nil_append, hw, List.cons_append, skipN_word hnc]; simp
      · rw [hj, hw, List.cons_append, List.nil_append, List.cons_append, skipN_sp, skipN_word hnc]; simp
    rw [scanL]
    simp only
    rw [hk.2, if_neg (by rw [hw]; simp), hct.back rest hgap]
    simp only [ne_eq, not_true, if_false]
    rw [if_neg (by simp only [List.length_cons] at hcount; omega), hk.1, List.drop_left]
    have hlen : (sp ++ spJoin ((t :: ts).map wordTk)).length = sp.length + ((wordTk t).length + rest.length) := by rw [hj, List.length_append, List.length_append]
    have hpos := hct.pos
    rcases hrest with ⟨rfl, rfl⟩ | ⟨hne, rfl⟩
    · obtain ⟨ts', e1, e2⟩ := ih (fun x hx => absurd hx (by simp)) f [] (pos + sp.length + (wordTk t).length) (acc ++ [{ t.at0 with pos := ((pos + sp.length : Nat) : Int) }]) (.inl rfl) (by simp [spJoin]; omega) (by simp only [List.length_append, List.length_cons, List.length_nil] at hcount ⊢; omega) (.inr rfl)
      simp only [List.map_nil, spJoin, List.append_nil] at e1
      refine ⟨{ t.at0 with pos := ((pos + sp.length : Nat) : Int) } :: ts', ?_, ?_⟩
      · rw [e1]; simp
      · unfold sameTk at e2 ⊢
        simp only [List.map_cons, e2]
        rfl
    · obtain ⟨ts', e1, e2⟩ := ih (fun x hx => hc x (by simp [hx])) f [32] (pos + sp.length + (wordTk t).length) (acc ++ [{ t.at0 with pos := ((pos + sp.length : Nat) : Int) }]) (.inr rfl) (by omega) (by simp only [List.length_append, List.length_cons, List.length_nil] at hcount ⊢; omega) (.inl hne)
      refine ⟨{ t.at0 with pos := ((pos + sp.length : Nat) : Int) } :: ts', ?_, ?_⟩
      · rw [e1]; simp
      · unfold sameTk at e2 ⊢
        simp only [List.map_cons, e2]
        rfl
/-- The tokens of a scan are canonical. -/
theorem scan_canon : ∀ (f : Nat) (s : List UInt8) (pos : Nat) (acc l : List Tk) (k : Nat), (∀ t ∈ acc, Canon t) → s.length < f → scanL f s pos acc = (l, k, 0) → ∀ t ∈ l, Canon t := by
  intro f
  induction f with
  | zero => intro s pos acc l k _ hf; omega
  | succ f ih =>
    intro s pos acc l k ha hf h
    rw [scanL] at h
    simp only at h
    split at h
    · simp at h; obtain ⟨rfl, _⟩ := h; exact ha
    · rename_i hne
      split at h
      · rename_i h0; simp only [Prod.mk.injEq] at h; exact absurd h.2.2 h0
      · rename_i h0
        split at h
        · simp at h
        · obtain ⟨⟨t, n, e⟩, hx⟩ : ∃ x, tokO (s.drop (skipN false s)) = x := ⟨_, rfl⟩
          rw [hx] at h h0
          simp only [ne_eq, Decidable.not_not] at h h0
          subst h0
          have ht := tok_at _ hne t n hx
          refine ih _ _ _ l k ?_ ?_ h
          · intro x hx
            rcases List.mem_append.1 hx with h1 | h1
            · exact ha x h1
            · simp only [List.mem_cons, List.not_mem_nil, or_false] at h1
              subst h1
              exact ht.canon _
          · have := ht.pos
            have hl := ht.le
            simp only [List.length_drop] at hl ⊢
            omega
end Go.Proofs.YtmbegmhgiekofaaDoor
