/- What the tokens of layer 2 are, in plain Lean. No program in sight, no condition. -/
import Derived.Test.YtmbegmhgiekofaaDoorPSpec
namespace Go.Proofs.YtmbegmhgiekofaaDoor

/-- Where the first quote stands behind an opening quote decides what is read. -/
theorem unqR_prefix : ∀ (n : Nat) (p rest : List UInt8), p.length ≤ n → (∀ c ∈ p, c ≠ 34) → unqR (p ++ 34 :: rest) = unqR (p ++ [34]) ∧ ∀ t k, unqR (p ++ [34]) = some (t, k) → k = p.length + 1 := by
  intro n
  induction n with
  | zero =>
    intro p rest hp _
    obtain rfl : p = [] := List.eq_nil_of_length_eq_zero (by omega)
    simp only [List.nil_append]
    rw [unqR_end, unqR_end]
    refine ⟨rfl, fun t k h => ?_⟩
    injection h with h
    injection h with h1 h2
    simp [← h2]
  | succ n ih =>
    intro p rest hp hq
    cases p with
    | nil =>
      simp only [List.nil_append]
      rw [unqR_end, unqR_end]
      refine ⟨rfl, fun t k h => ?_⟩
      injection h with h
      injection h with h1 h2
      simp [← h2]
    | cons c p =>
      simp only [List.length_cons] at hp
      have hc := hq c (by simp)
      by_cases h92 : c = 92
      · subst h92
        match p, hp, hq with
        | [], _, _ =>
          have hb : ¬ (0 ≤ hexI 34 ∧ True) := by rw [hexI_34]; omega
          refine ⟨?_, fun t k h => ?_⟩
          · simp only [List.cons_append, List.nil_append]
            cases rest with
            | nil => rfl
            | cons r rest => rw [unqR_bad (fun h => by rw [hexI_34] at h; omega), unqR_esc1]
          · simp only [List.cons_append, List.nil_append] at h
            rw [unqR_esc1] at h
            cases h
        | [a], _, _ =>
          refine ⟨?_, fun t k h => ?_⟩
          · simp only [List.cons_append, List.nil_append]
            rw [unqR_bad (fun h => by rw [hexI_34] at h; omega), unqR_bad (fun h => by rw [hexI_34] at h; omega)]
          · simp only [List.cons_append, List.nil_append] at h
            rw [unqR_bad (fun h => by rw [hexI_34] at h; omega)] at h
            cases h
        | a :: b :: p', hp, hq =>
          simp only [List.length_cons] at hp
          obtain ⟨i1, i2⟩ := ih p' rest (by omega) (fun x hx => hq x (by simp [hx]))
          simp only [List.cons_append]
          by_cases hh : 0 ≤ hexI a ∧ 0 ≤ hexI b ∧ plainB (hexB a b) = false
          · rw [unqR_esc hh, unqR_esc hh, i1]
            refine ⟨rfl, fun t k h => ?_⟩
            obtain ⟨⟨t', k'⟩, e1, e2⟩ := Option.map_eq_some_iff.1 h
            have := i2 t' k' e1
            simp only [Prod.mk.injEq] at e2
            simp only [List.length_cons]
            omega
          · rw [unqR_bad hh, unqR_bad hh]
            exact ⟨rfl, fun t k h => by cases h⟩
      · obtain ⟨i1, i2⟩ := ih p rest (by omega) (fun x hx => hq x (by simp [hx]))
        simp only [List.cons_append]
        cases hpl : plainB c
        · rw [unqR_odd hc h92 hpl, unqR_odd hc h92 hpl]
          exact ⟨rfl, fun t k h => by cases h⟩
        · rw [unqR_plain hpl, unqR_plain hpl, i1]
          refine ⟨rfl, fun t k h => ?_⟩
          obtain ⟨⟨t', k'⟩, e1, e2⟩ := Option.map_eq_some_iff.1 h
          have := i2 t' k' e1
          simp only [Prod.mk.injEq] at e2
          simp only [List.length_cons]
          omega
theorem unqR_open : ∀ (n : Nat) (l : List UInt8), l.length ≤ n → (∀ c ∈ l, c ≠ 34) → unqR l = none := by
  intro n l hl hq
  cases h : unqR l with
  | none => rfl
  | some x =>
    obtain ⟨t, k⟩ := x
    obtain ⟨_, h2, _⟩ := unqR_last n l hl t k h
    exact absurd rfl (hq 34 (List.mem_of_getElem? h2))
/-- An api.Token. -/
structure Tk where
  kind : Int
  text : List UInt8
  int : Int
  pos : Int
def Tk.zero : Tk := ⟨0, [], 0, 0⟩
def Tk.cells (t : Tk) : List Value := [.int .i64 t.kind, .string ⟨t.text.toArray⟩, .int .i64 t.int, .int .i64 t.pos]
def isLet (c : UInt8) : Bool := decide (97 ≤ c.toNat) && decide (c.toNat ≤ 122)
def inNm (c : UInt8) : Bool := isLet c || (isDig c || c == 95)
/-- How many bytes at the beginning have the form of a name. -/
def nameLen : List UInt8 → Nat
  | [] => 0
  | c :: r => if isLet c then 1 + (r.takeWhile inNm).length else 0
def isNameB (s : List UInt8) : Bool := decide (s ≠ []) && (decide (s.length ≤ 16) && decide (nameLen s = s.length))
theorem takeWhile_all {p : UInt8 → Bool} : ∀ (l : List UInt8), (l.takeWhile p).length = l.length ↔ l.all p = true := by
  intro l
  induction l with
  | nil => simp
  | cons c l ih =>
    cases hp : p c
    · simp [hp]
    · simp only [List.takeWhile_cons, hp, if_true, List.length_cons, List.all_cons, Bool.true_and]
      rw [← ih]
      omega
/-- IsName as the reference has it. -/
theorem isNameB_ref (c : UInt8) (r : List UInt8) : isNameB (c :: r) = (decide ((c :: r).length ≤ 16) && (isLet c && (c :: r).all inNm)) := by
  unfold isNameB
  have e : nameLen (c :: r) = if isLet c then 1 + (r.takeWhile inNm).length else 0 := by rw [nameLen]
  rw [e]
  cases hc : isLet c
  · simp
  · have hi : inNm c = true := by unfold inNm; rw [hc]; rfl
    have ht := takeWhile_all (p := inNm) r
    rw [Bool.eq_iff_iff]
    simp only [ne_eq, List.cons_ne_nil, not_false_eq_true, decide_true, Bool.true_and, if_true, List.all_cons, hi, List.length_cons, Bool.and_eq_true, decide_eq_true_eq, ← ht]
    omega
def signL : List UInt8 := [40, 41, 44, 46, 59, 43, 45, 42, 47, 61, 60]
/-- The length of the sign at the beginning; 0 if there is none. -/
def signLen (s : List UInt8) : Nat := if s.take 2 = [43, 43] ∨ s.take 2 = [60, 61] then 2 else if s ≠ [] ∧ signL.contains (s.getD 0 0) = true then 1 else 0
/-- The token at the beginning, without its position, its length, and the error's number. -/
def tokO (s : List UInt8) : Tk × Nat × Int :=
  if isLet (s.getD 0 0) then (if 16 < nameLen s then (Tk.zero, 0, 1) else (⟨1, s.take (nameLen s), 0, 0⟩, nameLen s, 0))
  else if isDig (s.getD 0 0) then (if (pInt (s.takeWhile isDig)).2 ≠ 0 then (Tk.zero, 0, (pInt (s.takeWhile isDig)).2) else (⟨2, [], (pInt (s.takeWhile isDig)).1.n, 0⟩, (s.takeWhile isDig).length, 0))
  else if s.getD 0 0 = 34 then (match unqR (s.drop 1) with
    | none => (Tk.zero, 0, 2)
    | some (t, k) => if 32 < t.length then (Tk.zero, 0, 1) else (⟨3, t, 0, 0⟩, k + 1, 0))
  else if signLen s = 0 then (Tk.zero, 0, 2) else (⟨4, s.take (signLen s), 0, 0⟩, signLen s, 0)
/-- White space and comments at the beginning; cm: inside a comment. -/
def skipN : Bool → List UInt8 → Nat
  | _, [] => 0
  | cm, c :: r => if c = 10 then 1 + skipN false r else if c = 32 ∨ c = 9 ∨ c = 13 then 1 + skipN cm r else if c = 35 then 1 + skipN true r else if cm then 1 + skipN true r else 0
theorem skipN_le : ∀ (s : List UInt8) (cm : Bool), skipN cm s ≤ s.length := by
  intro s
  induction s with
  | nil => intro cm; simp [skipN]
  | cons c r ih =>
    intro cm
    have h1 := ih false
    have h2 := ih cm
    have h3 := ih true
    simp only [skipN, List.length_cons]
    (repeat' split) <;> omega
/-- What stands behind the skipped bytes begins a token. -/
theorem skipN_end : ∀ (s : List UInt8) (cm : Bool) (c : UInt8) (r : List UInt8), s.drop (skipN cm s) = c :: r → c ≠ 10 ∧ c ≠ 32 ∧ c ≠ 9 ∧ c ≠ 13 ∧ c ≠ 35 := by
  intro s
  induction s with
  | nil => intro cm c r h; simp [skipN] at h
  | cons d s ih =>
    intro cm c r h
    rw [skipN] at h
    split at h
    · rw [Nat.add_comm, List.drop_succ_cons] at h; exact ih _ c r h
    · split at h
      · rw [Nat.add_comm, List.drop_succ_cons] at h; exact ih _ c r h
      · split at h
        · rw [Nat.add_comm, List.drop_succ_cons] at h; exact ih _ c r h
        · split at h
          · rw [Nat.add_comm, List.drop_succ_cons] at h; exact ih _ c r h
          · rename_i h1 h2 h3 h4
            simp only [List.drop_zero, List.cons.injEq] at h
            obtain ⟨rfl, rfl⟩ := h
            refine ⟨h1, ?_, ?_, ?_, h3⟩ <;> intro e <;> apply h2 <;> simp [e]
/-- The scan from a position on, behind some tokens: tokens, offset, the error's number. -/
def scanL : Nat → List UInt8 → Nat → List Tk → List Tk × Nat × Int
  | 0, _, _, _ => ([], 0, 0)
  | f + 1, s, pos, acc =>
    let k := skipN false s
    let r := s.drop k
    if r = [] then (acc, 0, 0)
    else
      let x := tokO r
      if x.2.2 ≠ 0 then ([], pos + k, x.2.2)
      else if acc.length = 4096 then ([], pos + k, 8)
      else scanL f (r.drop x.2.1) (pos + k + x.2.1) (acc ++ [{ x.1 with pos := ((pos + k : Nat) : Int) }])
def scanO (s : List UInt8) : List Tk × Nat × Int := if 32768 < s.length then ([], 0, 8) else scanL (s.length + 1) s 0 []
end Go.Proofs.YtmbegmhgiekofaaDoor
