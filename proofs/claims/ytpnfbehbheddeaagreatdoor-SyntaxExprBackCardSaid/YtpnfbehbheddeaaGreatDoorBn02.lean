/- What the tokens of layer 2 are, in plain Lean. No program in sight, no condition. What the expressions of layer 3 are, in plain Lean: terms, trees, the text of a tree as a list of terms, reading a tree. No program in sight, no condition. The parser of expressions of layer 5, as the program reads tokens: an exact mirror in plain Lean. No program in sight, no condition. -/
import Derived.Test.YtpnfbehbheddeaaGreatDoorBn01
import Derived.Test.YtpnfbehbheddeaaGreatDoorBn00
namespace Go.Proofs.YtpnfbehbheddeaaGreatDoor
set_option maxRecDepth 100000
set_option maxHeartbeats 8000000
set_option linter.unusedVariables false
set_option linter.unusedSimpArgs false
theorem unqR_prefix : ∀ (n : Nat) (p rest : List UInt8), p.length ≤ n → (∀ c ∈ p, c ≠ 34) → unqR (p ++ 34 :: rest) = unqR (p ++ [34]) ∧ ∀ t k, unqR (p ++ [34]) = some (t, k) → k = p.length + 1 := by
  intro n
  induction n with
  | zero =>
    intro p rest hp _
    obtain rfl : p = [] := List.eq_nil_of_length_eq_zero (by omega)
    simp only [List.nil_append]
    rw [unqR_end, unqR_end]
    refine ⟨rfl, fun t k h => ?_⟩
    injection h with h
    injection h with h1 h2
    simp [← h2]
  | succ n ih =>
    intro p rest hp hq
    cases p with
    | nil =>
      simp only [List.nil_append]
      rw [unqR_end, unqR_end]
      refine ⟨rfl, fun t k h => ?_⟩
      injection h with h
      injection h with h1 h2
      simp [← h2]
    | cons c p =>
      simp only [List.length_cons] at hp
      have hc := hq c (by simp)
      by_cases h92 : c = 92
      · subst h92
        match p, hp, hq with
        | [], _, _ =>
          have hb : ¬ (0 ≤ hexI 34 ∧ True) := by rw [hexI_34]; omega
          refine ⟨?_, fun t k h => ?_⟩
          · simp only [List.cons_append, List.nil_append]
            cases rest with
            | nil => rfl
            | cons r rest => rw [unqR_bad (fun h => by rw [hexI_34] at h; omega), unqR_esc1]
          · simp only [List.cons_append, List.nil_append] at h
            rw [unqR_esc1] at h
            cases h
        | [a], _, _ =>
          refine ⟨?_, fun t k h => ?_⟩
          · simp only [List.cons_append, List.nil_append]
            rw [unqR_bad (fun h => by rw [hexI_34] at h; omega), unqR_bad (fun h => by rw [hexI_34] at h; omega)]
          · simp only [List.cons_append, List.nil_append] at h
            rw [unqR_bad (fun h => by rw [hexI_34] at h; omega)] at h
            cases h
        | a :: b :: p', hp, hq =>
          simp only [List.length_cons] at hp
          obtain ⟨i1, i2⟩ := ih p' rest (by omega) (fun x hx => hq x (by simp [hx]))
          simp only [List.cons_append]
          by_cases hh : 0 ≤ hexI a ∧ 0 ≤ hexI b ∧ plainB (hexB a b) = false
          · rw [unqR_esc hh, unqR_esc hh, i1]
            refine ⟨rfl, fun t k h => ?_⟩
            obtain ⟨⟨t', k'⟩, e1, e2⟩ := Option.map_eq_some_iff.1 h
            have := i2 t' k' e1
            simp only [Prod.mk.injEq] at e2
            simp only [List.length_cons]
            omega
          · rw [unqR_bad hh, unqR_bad hh]
            exact ⟨rfl, fun t k h => by cases h⟩
      · obtain ⟨i1, i2⟩ := ih p rest (by omega) (fun x hx => hq x (by simp [hx]))
        simp only [List.cons_append]
        cases hpl : plainB c
        · rw [unqR_odd hc h92 hpl, unqR_odd hc h92 hpl]
          exact ⟨rfl, fun t k h => by cases h⟩
        · rw [unqR_plain hpl, unqR_plain hpl, i1]
          refine ⟨rfl, fun t k h => ?_⟩
          obtain ⟨⟨t', k'⟩, e1, e2⟩ := Option.map_eq_some_iff.1 h
          have := i2 t' k' e1
          simp only [Prod.mk.injEq] at e2
          simp only [List.length_cons]
          omega
theorem unqR_open : ∀ (n : Nat) (l : List UInt8), l.length ≤ n → (∀ c ∈ l, c ≠ 34) → unqR l = none := by
  intro n l hl hq
  cases h : unqR l with
  | none => rfl
  | some x =>
    obtain ⟨t, k⟩ := x
    obtain ⟨_, h2, _⟩ := unqR_last n l hl t k h
    exact absurd rfl (hq 34 (List.mem_of_getElem? h2))
structure Tk where
  kind : Int
  text : List UInt8
  int : Int
  pos : Int
def Tk.zero : Tk := ⟨0, [], 0, 0⟩
def Tk.cells (t : Tk) : List Value := [.int .i64 t.kind, .string ⟨t.text.toArray⟩, .int .i64 t.int, .int .i64 t.pos]
def isLet (c : UInt8) : Bool := decide (97 ≤ c.toNat) && decide (c.toNat ≤ 122)
def inNm (c : UInt8) : Bool := isLet c || (isDig c || c == 95)
def nameLen : List UInt8 → Nat
  | [] => 0
  | c :: r => if isLet c then 1 + (r.takeWhile inNm).length else 0
def isNameB (s : List UInt8) : Bool := decide (s ≠ []) && (decide (s.length ≤ 16) && decide (nameLen s = s.length))
theorem takeWhile_all {p : UInt8 → Bool} : ∀ (l : List UInt8), (l.takeWhile p).length = l.length ↔ l.all p = true := by
  intro l
  induction l with
  | nil => simp
  | cons c l ih =>
    cases hp : p c
    · simp [hp]
    · simp only [List.takeWhile_cons, hp, if_true, List.length_cons, List.all_cons, Bool.true_and]
      rw [← ih]
      omega
theorem isNameB_ref (c : UInt8) (r : List UInt8) : isNameB (c :: r) = (decide ((c :: r).length ≤ 16) && (isLet c && (c :: r).all inNm)) := by
  unfold isNameB
  have e : nameLen (c :: r) = if isLet c then 1 + (r.takeWhile inNm).length else 0 := by rw [nameLen]
  rw [e]
  cases hc : isLet c
  · simp
  · have hi : inNm c = true := by unfold inNm; rw [hc]; rfl
    have ht := takeWhile_all (p := inNm) r
    rw [Bool.eq_iff_iff]
    simp only [ne_eq, List.cons_ne_nil, not_false_eq_true, decide_true, Bool.true_and, if_true, List.all_cons, hi, List.length_cons, Bool.and_eq_true, decide_eq_true_eq, ← ht]
    omega
def signL : List UInt8 := [40, 41, 44, 46, 59, 43, 45, 42, 47, 61, 60]
def signLen (s : List UInt8) : Nat := if s.take 2 = [43, 43] ∨ s.take 2 = [60, 61] then 2 else if s ≠ [] ∧ signL.contains (s.getD 0 0) = true then 1 else 0
def tokO (s : List UInt8) : Tk × Nat × Int :=
  if isLet (s.getD 0 0) then (if 16 < nameLen s then (Tk.zero, 0, 1) else (⟨1, s.take (nameLen s), 0, 0⟩, nameLen s, 0))
  else if isDig (s.getD 0 0) then (if (pInt (s.takeWhile isDig)).2 ≠ 0 then (Tk.zero, 0, (pInt (s.takeWhile isDig)).2) else (⟨2, [], (pInt (s.takeWhile isDig)).1.n, 0⟩, (s.takeWhile isDig).length, 0))
  else if s.getD 0 0 = 34 then (match unqR (s.drop 1) with
    | none => (Tk.zero, 0, 2)
    | some (t, k) => if 32 < t.length then (Tk.zero, 0, 1) else (⟨3, t, 0, 0⟩, k + 1, 0))
  else if signLen s = 0 then (Tk.zero, 0, 2) else (⟨4, s.take (signLen s), 0, 0⟩, signLen s, 0)
def skipN : Bool → List UInt8 → Nat
  | _, [] => 0
  | cm, c :: r => if c = 10 then 1 + skipN false r else if c = 32 ∨ c = 9 ∨ c = 13 then 1 + skipN cm r else if c = 35 then 1 + skipN true r else if cm then 1 + skipN true r else 0
theorem skipN_le : ∀ (s : List UInt8) (cm : Bool), skipN cm s ≤ s.length := by
  intro s
  induction s with
  | nil => intro cm; simp [skipN]
  | cons c r ih =>
    intro cm
    have h1 := ih false
    have h2 := ih cm
    have h3 := ih true
    simp only [skipN, List.length_cons]
    (repeat' split) <;> omega
theorem skipN_end : ∀ (s : List UInt8) (cm : Bool) (c : UInt8) (r : List UInt8), s.drop (skipN cm s) = c :: r → c ≠ 10 ∧ c ≠ 32 ∧ c ≠ 9 ∧ c ≠ 13 ∧ c ≠ 35 := by
  intro s
  induction s with
  | nil => intro cm c r h; simp [skipN] at h
  | cons d s ih =>
    intro cm c r h
    rw [skipN] at h
    split at h
    · rw [Nat.add_comm, List.drop_succ_cons] at h; exact ih _ c r h
    · split at h
      · rw [Nat.add_comm, List.drop_succ_cons] at h; exact ih _ c r h
      · split at h
        · rw [Nat.add_comm, List.drop_succ_cons] at h; exact ih _ c r h
        · split at h
          · rw [Nat.add_comm, List.drop_succ_cons] at h; exact ih _ c r h
          · rename_i h1 h2 h3 h4
            simp only [List.drop_zero, List.cons.injEq] at h
            obtain ⟨rfl, rfl⟩ := h
            refine ⟨h1, ?_, ?_, ?_, h3⟩ <;> intro e <;> apply h2 <;> simp [e]
def scanL : Nat → List UInt8 → Nat → List Tk → List Tk × Nat × Int
  | 0, _, _, _ => ([], 0, 0)
  | f + 1, s, pos, acc =>
    let k := skipN false s
    let r := s.drop k
    if r = [] then (acc, 0, 0)
    else
      let x := tokO r
      if x.2.2 ≠ 0 then ([], pos + k, x.2.2)
      else if acc.length = 4096 then ([], pos + k, 8)
      else scanL f (r.drop x.2.1) (pos + k + x.2.1) (acc ++ [{ x.1 with pos := ((pos + k : Nat) : Int) }])
def scanO (s : List UInt8) : List Tk × Nat × Int := if 32768 < s.length then ([], 0, 8) else scanL (s.length + 1) s 0 []
structure T where
  op : Int
  v : V
  c : Int
def T.cells (t : T) : List Value := [.int .i64 t.op, .int .i64 t.v.k, .int .i64 t.v.n, .string t.v.s, .int .i64 t.c]
def arity (op : Int) : Int := if op = 1 ∨ op = 2 then 0 else if op = 3 ∨ op = 9 ∨ op = 13 ∨ op = 16 then 1 else if op = 18 then 3 else if 1 ≤ op ∧ op ≤ 18 then 2 else -1
def ar (op : Int) : Nat := (arity op).toNat
theorem arity_range (op : Int) : -1 ≤ arity op ∧ arity op ≤ 3 := by
  unfold arity
  split
  · omega
  · split
    · omega
    · split
      · omega
      · split <;> omega
theorem ar_le (op : Int) : ar op ≤ 3 := by have := arity_range op; unfold ar; omega
theorem arity_known {op : Int} (h : 0 ≤ arity op) : 1 ≤ op ∧ op ≤ 18 := by
  unfold arity at h
  split at h
  · omega
  · split at h
    · omega
    · split at h
      · omega
      · split at h
        · assumption
        · omega
def T.ok (t : T) : Bool := decide (0 ≤ arity t.op) && (if t.op = 1 then t.c == 0 && (t.v.k != 0 && t.v.ok) else if t.op = 2 then decide (0 ≤ t.c) && t.v.beq V.null else t.c == 0 && t.v.beq V.null)
inductive X where
  | node (t : T) (ks : List X)
def X.t : X → T | .node t _ => t
mutual
def X.flat : X → List T | .node t ks => t :: flats ks
def flats : List X → List T
  | [] => []
  | x :: xs => x.flat ++ flats xs
end
mutual
def X.depth : X → Nat | .node _ ks => deepest ks + 1
def deepest : List X → Nat
  | [] => 0
  | x :: xs => max x.depth (deepest xs)
end
mutual
def X.wf : X → Bool | .node t ks => t.ok && (decide (ks.length = ar t.op) && wfs ks)
def wfs : List X → Bool
  | [] => true
  | x :: xs => x.wf && wfs xs
end
theorem X.flat_node (t : T) (ks : List X) : (X.node t ks).flat = t :: flats ks := by rw [X.flat]
theorem flats_cons (x : X) (xs : List X) : flats (x :: xs) = x.flat ++ flats xs := by rw [flats]
theorem flats_snoc (xs : List X) (x : X) : flats (xs ++ [x]) = flats xs ++ x.flat := by
  induction xs with
  | nil => simp [flats]
  | cons y ys ih => simp [flats, ih]
theorem deepest_snoc (xs : List X) (x : X) : deepest (xs ++ [x]) = max (deepest xs) x.depth := by
  induction xs with
  | nil => simp [deepest]
  | cons y ys ih => simp only [List.cons_append, deepest, ih]; omega
theorem wfs_snoc (xs : List X) (x : X) : wfs (xs ++ [x]) = (wfs xs && x.wf) := by
  induction xs with
  | nil => simp [wfs]
  | cons y ys ih => simp [wfs, ih, Bool.and_assoc]
theorem X.flat_pos (x : X) : 0 < x.flat.length := by cases x; rw [X.flat_node]; simp
theorem X.depth_pos (x : X) : 0 < x.depth := by cases x; simp [X.depth]
theorem X.flat_head (x : X) : ∃ r, x.flat = x.t :: r := by cases x with | node t ks => exact ⟨flats ks, X.flat_node t ks⟩
def readK : Nat → Nat → List T → Option (List X × List T)
  | _, 0, l => some ([], l)
  | 0, _ + 1, _ => none
  | f + 1, n + 1, l => match l with
    | [] => none
    | t :: r => if t.ok then (match readK f (ar t.op) r with
        | none => none
        | some (ks, r') => match readK (f + 1) n r' with
          | none => none
          | some (xs, r'') => some (.node t ks :: xs, r'')) else none
termination_by f n => (f, n)
def readX (f : Nat) (l : List T) : Option (X × List T) := match f, l with
  | f + 1, t :: r => if t.ok then (readK f (ar t.op) r).map fun y => (.node t y.1, y.2) else none
  | _, _ => none
theorem readK_zero (f : Nat) (l : List T) : readK f 0 l = some ([], l) := by rw [readK]
theorem readK_cons (f n : Nat) (l : List T) : readK f (n + 1) l = match readX f l with
    | none => none
    | some (x, r) => match readK f n r with
      | none => none
      | some (xs, r') => some (x :: xs, r') := by
  cases f with
  | zero => rw [readK]; simp [readX]
  | succ f =>
    cases l with
    | nil => rw [readK]; simp [readX]
    | cons t r =>
      rw [readK, readX]
      split
      · cases readK f (ar t.op) r with
        | none => rfl
        | some y => rfl
      · rfl
theorem readK_snoc (f : Nat) : ∀ (n : Nat) (l : List T), readK f (n + 1) l = match readK f n l with
    | none => none
    | some (xs, r) => match readX f r with
      | none => none
      | some (x, r') => some (xs ++ [x], r') := by
  intro n
  induction n with
  | zero =>
    intro l
    rw [readK_cons, readK_zero]
    simp only
    cases readX f l with
    | none => rfl
    | some y => obtain ⟨x, r⟩ := y; simp only [readK_zero]; rfl
  | succ n ih =>
    intro l
    rw [readK_cons]
    conv => rhs; rw [readK_cons]
    cases readX f l with
    | none => rfl
    | some y =>
      obtain ⟨x, r⟩ := y
      simp only
      rw [ih r]
      cases readK f n r with
      | none => rfl
      | some z =>
        obtain ⟨xs, r'⟩ := z
        simp only
        cases readX f r' with
        | none => rfl
        | some u => rfl
theorem readK_some : ∀ (f n : Nat) (l : List T) (xs : List X) (r : List T), readK f n l = some (xs, r) → l = flats xs ++ r ∧ xs.length = n ∧ wfs xs = true ∧ deepest xs ≤ f := by
  intro f
  induction f with
  | zero =>
    intro n l xs r h
    cases n with
    | zero => rw [readK_zero] at h; simp at h; obtain ⟨rfl, rfl⟩ := h; simp [flats, wfs, deepest]
    | succ n => rw [readK_cons] at h; simp [readX] at h
  | succ f ihf =>
    intro n
    induction n with
    | zero => intro l xs r h; rw [readK_zero] at h; simp at h; obtain ⟨rfl, rfl⟩ := h; simp [flats, wfs, deepest]
    | succ n ih =>
      intro l xs r h
      rw [readK_cons] at h
      cases hx : readX (f + 1) l with
      | none => rw [hx] at h; cases h
      | some y =>
        obtain ⟨x, r1⟩ := y
        rw [hx] at h
        simp only at h
        cases hk : readK (f + 1) n r1 with
        | none => rw [hk] at h; cases h
        | some z =>
          obtain ⟨ys, r2⟩ := z
          rw [hk] at h
          simp at h
          obtain ⟨rfl, rfl⟩ := h
          obtain ⟨e1, e2, e3, e4⟩ := ih r1 ys r2 hk
          cases l with
          | nil => simp [readX] at hx
          | cons t r0 =>
            simp only [readX] at hx
            split at hx
            · rename_i hok
              obtain ⟨⟨ks, r3⟩, g1, g2⟩ := Option.map_eq_some_iff.1 hx
              simp at g2
              obtain ⟨rfl, rfl⟩ := g2
              obtain ⟨k1, k2, k3, k4⟩ := ihf _ _ _ _ g1
              refine ⟨?_, by simp [e2], ?_, ?_⟩
              · rw [flats_cons, X.flat_node, k1, e1]; simp
              · simp [wfs, X.wf, hok, k2, k3, e3]
              · simp only [deepest, X.depth]; omega
            · cases hx
theorem readX_some {f : Nat} {l : List T} {x : X} {r : List T} (h : readX f l = some (x, r)) : l = x.flat ++ r ∧ x.wf = true ∧ x.depth ≤ f := by
  have hk : readK f 1 l = some ([x], r) := by rw [readK_cons, h]; simp only [readK_zero]
  obtain ⟨e1, _, e3, e4⟩ := readK_some f 1 l [x] r hk
  refine ⟨by simpa [flats] using e1, by simpa [wfs] using e3, by simpa [deepest] using e4⟩
mutual
theorem readX_flat (x : X) (r : List T) (f : Nat) (hw : x.wf = true) (hd : x.depth ≤ f) : readX f (x.flat ++ r) = some (x, r) := by
  match x with
  | .node t ks =>
    simp only [X.wf, Bool.and_eq_true, decide_eq_true_eq] at hw
    simp only [X.depth] at hd
    obtain ⟨f, rfl⟩ : ∃ g, f = g + 1 := ⟨f - 1, by omega⟩
    rw [X.flat_node]
    simp only [List.cons_append, readX]
    rw [if_pos hw.1, ← hw.2.1, readK_flat ks r f hw.2.2 (by omega)]
    rfl
theorem readK_flat (xs : List X) (r : List T) (f : Nat) (hw : wfs xs = true) (hd : deepest xs ≤ f) : readK f xs.length (flats xs ++ r) = some (xs, r) := by
  match xs with
  | [] => simp [readK_zero, flats]
  | x :: xs =>
    simp only [wfs, Bool.and_eq_true] at hw
    simp only [deepest] at hd
    rw [List.length_cons, readK_cons, flats_cons, List.append_assoc, readX_flat x (flats xs ++ r) f hw.1 (by omega)]
    simp only
    rw [readK_flat xs r f hw.2 (by omega)]
end
mutual
theorem X.depth_flat (x : X) : x.depth ≤ x.flat.length := by
  match x with
  | .node t ks =>
    have := deepest_flats ks
    simp only [X.depth, X.flat_node, List.length_cons]
    omega
theorem deepest_flats (xs : List X) : deepest xs ≤ (flats xs).length := by
  match xs with
  | [] => simp [deepest]
  | x :: xs =>
    have h1 := X.depth_flat x
    have h2 := deepest_flats xs
    simp only [deepest, flats_cons, List.length_append]
    omega
end
theorem readX_full {f : Nat} {l : List T} (hf : l.length ≤ f) {f' : Nat} {x : X} {r : List T} (h : readX f' l = some (x, r)) : readX f l = some (x, r) := by
  obtain ⟨rfl, h2, h3⟩ := readX_some h
  have := x.depth_flat
  exact readX_flat x r f h2 (by simp at hf; omega)
theorem readX_none {f f' : Nat} {l : List T} (hf : l.length ≤ f) (h : readX f l = none) : readX f' l = none := by
  cases h' : readX f' l with
  | none => rfl
  | some y => obtain ⟨x, r⟩ := y; rw [readX_full hf h'] at h; cases h
def validE (l : List T) : Bool := decide (l.length ≤ 64) && (match readX 16 l with
  | some (_, r) => r.isEmpty
  | none => false)
theorem validE_iff (l : List T) : validE l = true ↔ l.length ≤ 64 ∧ ∃ x : X, l = x.flat ∧ x.wf = true ∧ x.depth ≤ 16 := by
  unfold validE
  rw [Bool.and_eq_true, decide_eq_true_eq]
  constructor
  · rintro ⟨h1, h2⟩
    refine ⟨h1, ?_⟩
    cases h : readX 16 l with
    | none => rw [h] at h2; cases h2
    | some y =>
      obtain ⟨x, r⟩ := y
      rw [h] at h2
      simp only [List.isEmpty_iff] at h2
      subst h2
      obtain ⟨e1, e2, e3⟩ := readX_some h
      exact ⟨x, by simpa using e1, e2, e3⟩
  · rintro ⟨h1, x, rfl, h2, h3⟩
    refine ⟨h1, ?_⟩
    have := readX_flat x [] 16 h2 h3
    rw [List.append_nil] at this
    rw [this]
    rfl
abbrev Bs := List UInt8
structure Ps where
  pos : Nat
  failed : Bool
  off : Int
  refs : List (Tk × Bool)
structure Src where
  toks : List Tk
  fin : Int
def Ps.fail (e : Src) (s : Ps) : Ps := { s with failed := true, off := if s.failed = true then s.off else (match e.toks[s.pos]? with | some t => t.pos | none => e.fin), pos := e.toks.length }
def isKindP (e : Src) (s : Ps) (ahead : Nat) (k : Int) : Bool := match e.toks[s.pos + ahead]? with
  | some t => t.kind == k
  | none => false
def isP (e : Src) (s : Ps) (ahead : Nat) (ws : List Bs) : Bool := match e.toks[s.pos + ahead]? with
  | some t => (t.kind == 1 || t.kind == 4) && ws.contains t.text
  | none => false
def acceptP (e : Src) (s : Ps) (ws : List Bs) : Bool × Ps := if isP e s 0 ws = true then (true, { s with pos := s.pos + 1 }) else (false, s)
def textP (e : Src) (i : Nat) : Bs := match e.toks[i]? with
  | some t => t.text
  | none => []
def expectP (e : Src) (s : Ps) (ws : List Bs) : Bs × Ps := if isP e s 0 ws = true then (textP e s.pos, { s with pos := s.pos + 1 }) else ([], s.fail e)
def takeP (e : Src) (s : Ps) (k : Int) : Tk × Ps := if isKindP e s 0 k = true then (e.toks.getD s.pos Tk.zero, { s with pos := s.pos + 1 }) else (Tk.zero, s.fail e)
def wOr : Bs := [111, 114]
def wAnd : Bs := [97, 110, 100]
def wNot : Bs := [110, 111, 116]
def wLeft : Bs := [108, 101, 102, 116]
def wRight : Bs := [114, 105, 103, 104, 116]
def wFuncs : List Bs := [[108, 101, 110, 103, 116, 104], [105, 115, 110, 117, 108, 108], [112, 114, 101, 102, 105, 120], [99, 111, 97, 108, 101, 115, 99, 101], [105, 102]]
def opsP : Nat → List Bs
  | 6 => [wOr]
  | 5 => [wAnd]
  | 3 => [[43], [45], [43, 43]]
  | 2 => [[42], [47]]
  | _ => []
def opP (w : Bs) : Int := if w = wOr then 15 else if w = wAnd then 14 else if w = [61] then 11 else if w = [60] then 12 else if w = [43] then 4 else if w = [45] then 5 else if w = [43, 43] then 8 else if w = [42] then 6 else 7
def funP (w : Bs) : Int := if w = [108, 101, 110, 103, 116, 104] then 9 else if w = [105, 115, 110, 117, 108, 108] then 16 else if w = [112, 114, 101, 102, 105, 120] then 10 else if w = [99, 111, 97, 108, 101, 115, 99, 101] then 17 else 18
def opX (op : Int) (ks : List X) : X := .node ⟨op, V.null, 0⟩ ks
def cstX (v : V) : X := .node ⟨1, v, 0⟩ []
def refP (e : Src) (right : Bool) (s : Ps) : X × Ps :=
  let t := takeP e s 1
  (.node ⟨2, V.null, s.refs.length⟩ [], { t.2 with refs := s.refs ++ [(t.1, right)] })
mutual
def parseP (e : Src) : Nat → Nat → Ps → X × Ps
  | 0, _, s => (opX 0 [], s)
  | f + 1, lv, s =>
    match lv with
    | 0 =>
      if isKindP e s 0 2 = true then
        let t := takeP e s 2
        (cstX ⟨1, t.1.int, ⟨#[]⟩⟩, t.2)
      else if isKindP e s 0 3 = true then
        let t := takeP e s 3
        (cstX ⟨2, 0, ⟨t.1.text.toArray⟩⟩, t.2)
      else if isP e s 0 [[40]] = true then
        let x := parseP e f 6 { s with pos := s.pos + 1 }
        (x.1, (expectP e x.2 [[41]]).2)
      else if isP e s 0 wFuncs = true ∧ isP e s 1 [[40]] = true then
        let n := takeP e s 1
        let p := expectP e n.2 [[40]]
        let x := parseP e f 6 p.2
        let l := argsP e f ((arity (funP n.1.text)).toNat - 1) [x.1] x.2
        (opX (funP n.1.text) l.1, (expectP e l.2 [[41]]).2)
      else if isP e s 0 [wLeft, wRight] = true ∧ isP e s 1 [[46]] = true then
        let w := expectP e s [wLeft, wRight]
        refP e (w.1 == wRight) (expectP e w.2 [[46]]).2
      else refP e false s
    | 1 =>
      if isP e s 0 [[45]] = true then
        if isKindP e { s with pos := s.pos + 1 } 0 2 = true then
          let t := takeP e { s with pos := s.pos + 1 } 2
          (cstX ⟨1, -t.1.int, ⟨#[]⟩⟩, t.2)
        else
          let x := parseP e f 1 { s with pos := s.pos + 1 }
          (opX 3 [x.1], x.2)
      else if isP e s 0 [wNot] = true then
        let x := parseP e f 1 { s with pos := s.pos + 1 }
        (opX 13 [x.1], x.2)
      else parseP e f 0 s
    | 4 =>
      let x := parseP e f 3 s
      if isP e x.2 0 [[61], [60]] = true then
        let w := expectP e x.2 [[61], [60]]
        let y := parseP e f 3 w.2
        (opX (opP w.1) [x.1, y.1], y.2)
      else if isP e x.2 0 [[60, 61]] = true then
        let y := parseP e f 3 { x.2 with pos := x.2.pos + 1 }
        (opX 13 [opX 12 [y.1, x.1]], y.2)
      else x
    | lv + 1 =>
      let x := parseP e f lv s
      chainP e f (lv + 1) x.1 x.2
def chainP (e : Src) : Nat → Nat → X → Ps → X × Ps
  | 0, _, x, s => (x, s)
  | f + 1, lv, x, s =>
    if isP e s 0 (opsP lv) = true then
      let w := expectP e s (opsP lv)
      let y := parseP e f (lv - 1) w.2
      chainP e f lv (opX (opP w.1) [x, y.1]) y.2
    else (x, s)
def argsP (e : Src) : Nat → Nat → List X → Ps → List X × Ps
  | 0, _, l, s => (l, s)
  | _ + 1, 0, l, s => (l, s)
  | f + 1, k + 1, l, s =>
    let x := parseP e f 6 (expectP e s [[44]]).2
    argsP e f k (l ++ [x.1]) x.2
end
def Src.fuel (e : Src) : Nat := 10 * e.toks.length + 20
structure Xr where
  root : Option X
  refs : List (Tk × Bool)
def wholeP (e : Src) (s : Ps) : Xr × Ps :=
  let x := parseP e e.fuel 6 { s with refs := [] }
  (⟨some x.1, x.2.refs⟩, x.2)
def findP (l : List Bs) (s : Bs) : Option Nat := l.findIdx? (· == s)
def colsP (left right : List Bs) : List (Tk × Bool) → Except Int (List Int)
  | [] => .ok []
  | (t, r) :: l => match findP (if r then right else left) t.text with
    | none => .error t.pos
    | some n => match colsP left right l with
      | .error p => .error p
      | .ok m => .ok (((if r then left.length else 0) + n : Nat) :: m)
def putT (cols : List Int) (t : T) : T := if t.op = 2 then { t with c := cols.getD t.c.toNat 0 } else t
def Xr.resolve (x : Xr) (left right : List Bs) : Except Int (List T) := match x.root with
  | none => .ok []
  | some r => match colsP left right x.refs with
    | .error p => .error p
    | .ok m => .ok (r.flat.map (putT m))
def parseExprP (e : Src) (left right : List Bs) : List T × Int × Int :=
  let x := wholeP e ⟨0, false, 0, []⟩
  let s := if x.2.pos < e.toks.length then x.2.fail e else x.2
  if s.failed = true then ([], s.off, 2) else match x.1.resolve left right with
    | .error p => ([], p, 3)
    | .ok l => (l, 0, 0)
end Go.Proofs.YtpnfbehbheddeaaGreatDoor
