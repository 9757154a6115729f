/- Which tokens have words, and what joining gives, in plain Lean. No program in sight, no condition. -/
import Derived.Test.YtmbegmhgiekofaaDoorLWk
import Derived.Lib.Join
import Derived.Lib.ItoaLen
namespace Go.Proofs.YtmbegmhgiekofaaDoor

def tokOk (t : Tk) : Bool := if t.kind = 1 then isNameB t.text else if t.kind = 2 then decide (0 ≤ t.int) && decide (t.int ≤ 4294967296) else if t.kind = 3 then decide (t.text.length ≤ 32) else if t.kind = 4 then isSignB t.text else false
/-- The word of a token that has one, else nothing. -/
def tokText (t : Tk) : List UInt8 := if tokOk t then wordTk t else []
theorem itoa_ne (n : Int) (h : 0 ≤ n) : 1 ≤ (Lib.itoa n).length := by
  obtain ⟨u, rfl⟩ := Int.eq_ofNat_of_zero_le h
  rw [Lib.itoa_nonneg]
  rw [Lib.decDigits]
  split <;> simp
theorem word_ne {t : Tk} (h : tokOk t = true) : 1 ≤ (wordTk t).length := by
  unfold tokOk at h
  unfold wordTk
  by_cases h1 : t.kind = 1
  · rw [if_pos h1] at h
    rw [if_pos (.inl h1)]
    unfold isNameB at h
    simp at h
    exact List.length_pos_iff.2 h.1
  rw [if_neg h1] at h
  by_cases h2 : t.kind = 2
  · rw [if_pos h2] at h
    rw [if_neg (by omega), if_pos h2]
    simp at h
    exact itoa_ne _ h.1
  rw [if_neg h2] at h
  by_cases h3 : t.kind = 3
  · rw [if_neg (by omega), if_neg h2]
    unfold quoteL
    simp
  rw [if_neg h3] at h
  by_cases h4 : t.kind = 4
  · rw [if_pos h4] at h
    rw [if_pos (.inr h4)]
    have := isSign_len h
    omega
  · rw [if_neg h4] at h; cases h
theorem word_le {t : Tk} (h : tokOk t = true) : (wordTk t).length ≤ 100 := by
  unfold tokOk at h
  unfold wordTk
  by_cases h1 : t.kind = 1
  · rw [if_pos h1] at h
    rw [if_pos (.inl h1)]
    unfold isNameB at h
    simp at h
    omega
  rw [if_neg h1] at h
  by_cases h2 : t.kind = 2
  · rw [if_pos h2] at h
    rw [if_neg (by omega), if_pos h2]
    simp at h
    have := Lib.itoa_length_le t.int (by omega) (by omega)
    omega
  rw [if_neg h2] at h
  by_cases h3 : t.kind = 3
  · rw [if_pos h3] at h
    rw [if_neg (by omega), if_neg h2]
    simp at h
    have := flat_len t.text
    unfold quoteL
    simp only [List.length_append, List.length_cons, List.length_nil]
    omega
  rw [if_neg h3] at h
  by_cases h4 : t.kind = 4
  · rw [if_pos h4] at h
    rw [if_pos (.inr h4)]
    have := isSign_len h
    omega
  · rw [if_neg h4] at h; cases h
/-- The words of some tokens. -/
def wordsK (ts : List Tk) : List (List UInt8) := (ts.filter tokOk).map wordTk
def joinK (ts : List Tk) : List UInt8 := spJoin (wordsK ts)
theorem wordsK_snoc_ok {ts : List Tk} {t : Tk} (h : tokOk t = true) : wordsK (ts ++ [t]) = wordsK ts ++ [wordTk t] := by unfold wordsK; simp [List.filter_append, h]
theorem wordsK_snoc_no {ts : List Tk} {t : Tk} (h : tokOk t = false) : wordsK (ts ++ [t]) = wordsK ts := by unfold wordsK; simp [List.filter_append, h]
theorem wordsK_mem {ts : List Tk} {w : List UInt8} (h : w ∈ wordsK ts) : 1 ≤ w.length ∧ w.length ≤ 100 := by
  obtain ⟨t, ht, rfl⟩ := List.mem_map.1 h
  have := (List.mem_filter.1 ht).2
  exact ⟨word_ne this, word_le this⟩
theorem wordsK_len (ts : List Tk) : (wordsK ts).length ≤ ts.length := by
  unfold wordsK
  rw [List.length_map]
  exact List.length_filter_le _ _
theorem spJoin_snoc : ∀ (l : List (List UInt8)) (a : List UInt8), l ≠ [] → spJoin (l ++ [a]) = spJoin l ++ [32] ++ a := by
  intro l
  induction l with
  | nil => intro a h; exact absurd rfl h
  | cons x l ih =>
    intro a _
    cases l with
    | nil => simp [spJoin]
    | cons y l =>
      have := ih a (by simp)
      simp only [List.cons_append] at this ⊢
      rw [spJoin, this, spJoin]
      simp
theorem spJoin_len : ∀ (l : List (List UInt8)), (∀ w ∈ l, w.length ≤ 100) → (spJoin l).length ≤ 101 * l.length := by
  intro l
  induction l with
  | nil => intro _; simp [spJoin]
  | cons x l ih =>
    intro h
    have h1 := h x (by simp)
    have h2 := ih (fun w hw => h w (by simp [hw]))
    cases l with
    | nil => simp [spJoin]; omega
    | cons y l =>
      rw [spJoin]
      simp only [List.length_append, List.length_cons] at h2 ⊢
      omega
theorem spJoin_ne {l : List (List UInt8)} (h : ∀ w ∈ l, 1 ≤ w.length) : spJoin l = [] ↔ l = [] := by
  cases l with
  | nil => simp [spJoin]
  | cons x l =>
    have h1 := h x (by simp)
    constructor
    · intro e
      exfalso
      have := congrArg List.length e
      cases l with
      | nil => simp [spJoin] at this; rw [this] at h1; simp at h1
      | cons y l => simp [spJoin] at this
    · intro e; cases e
theorem join_spJoin : ∀ l : List (List UInt8), Lib.join l [32] = spJoin l := by
  intro l
  induction l with
  | nil => rfl
  | cons a l ih =>
    cases l with
    | nil => rw [Lib.join_one]; rfl
    | cons b l =>
      rw [spJoin, ← ih, Lib.join_cons, Lib.join_cons, Lib.joinTail]
      simp [Lib.joinTail]
theorem joinK_len (ts : List Tk) : (joinK ts).length ≤ 101 * ts.length := by
  have h1 := spJoin_len (wordsK ts) (fun w hw => (wordsK_mem hw).2)
  have h2 := wordsK_len ts
  unfold joinK
  omega
theorem joinK_snoc {ts : List Tk} {t : Tk} (h : tokOk t = true) : joinK (ts ++ [t]) = (if joinK ts = [] then [] else joinK ts ++ [32]) ++ wordTk t := by
  unfold joinK
  rw [wordsK_snoc_ok h]
  have hn := spJoin_ne (l := wordsK ts) (fun w hw => (wordsK_mem hw).1)
  by_cases h0 : wordsK ts = []
  · rw [if_pos (hn.2 h0), h0]; rfl
  · rw [if_neg (fun e => h0 (hn.1 e)), spJoin_snoc _ _ h0]
/-- A scan gives at most 4096 tokens. -/
theorem scanL_len : ∀ (f : Nat) (s : List UInt8) (pos : Nat) (acc : List Tk), acc.length ≤ 4096 → (scanL f s pos acc).1.length ≤ 4096 := by
  intro f
  induction f with
  | zero => intro s pos acc _; simp [scanL]
  | succ f ih =>
    intro s pos acc ha
    rw [scanL]
    simp only
    split
    · exact ha
    · split
      · simp
      · split
        · simp
        · rename_i h
          exact ih _ _ _ (by simp; omega)
theorem scanO_len (s : List UInt8) : (scanO s).1.length ≤ 4096 := by
  unfold scanO
  split
  · simp
  · exact scanL_len _ _ _ _ (by simp)
end Go.Proofs.YtmbegmhgiekofaaDoor
