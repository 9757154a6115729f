/- What the expressions of layer 3 are, in plain Lean: terms, trees, the text of a tree as a list of terms, reading a tree. No program in sight, no condition. -/
import Derived.Test.YtojcabnjodfdmaaDoorVSpec2
namespace Go.Proofs.YtojcabnjodfdmaaDoor

/-- An api.Term. -/
structure T where
  op : Int
  v : V
  c : Int
def T.cells (t : T) : List Value := [.int .i64 t.op, .int .i64 t.v.k, .int .i64 t.v.n, .string t.v.s, .int .i64 t.c]
def arity (op : Int) : Int := if op = 1 ∨ op = 2 then 0 else if op = 3 ∨ op = 9 ∨ op = 13 ∨ op = 16 then 1 else if op = 18 then 3 else if 1 ≤ op ∧ op ≤ 18 then 2 else -1
def ar (op : Int) : Nat := (arity op).toNat
theorem arity_range (op : Int) : -1 ≤ arity op ∧ arity op ≤ 3 := by
  unfold arity
  split
  · omega
  · split
    · omega
    · split
      · omega
      · split <;> omega
theorem ar_le (op : Int) : ar op ≤ 3 := by have := arity_range op; unfold ar; omega
theorem arity_known {op : Int} (h : 0 ≤ arity op) : 1 ≤ op ∧ op ≤ 18 := by
  unfold arity at h
  split at h
  · omega
  · split at h
    · omega
    · split at h
      · omega
      · split at h
        · assumption
        · omega
def T.ok (t : T) : Bool := decide (0 ≤ arity t.op) && (if t.op = 1 then t.c == 0 && (t.v.k != 0 && t.v.ok) else if t.op = 2 then decide (0 ≤ t.c) && t.v.beq V.null else t.c == 0 && t.v.beq V.null)

inductive X where
  | node (t : T) (ks : List X)
def X.t : X → T | .node t _ => t
def X.ks : X → List X | .node _ ks => ks
mutual
def X.flat : X → List T | .node t ks => t :: flats ks
def flats : List X → List T
  | [] => []
  | x :: xs => x.flat ++ flats xs
end
mutual
def X.depth : X → Nat | .node _ ks => deepest ks + 1
def deepest : List X → Nat
  | [] => 0
  | x :: xs => max x.depth (deepest xs)
end
mutual
def X.wf : X → Bool | .node t ks => t.ok && (decide (ks.length = ar t.op) && wfs ks)
def wfs : List X → Bool
  | [] => true
  | x :: xs => x.wf && wfs xs
end
theorem X.flat_node (t : T) (ks : List X) : (X.node t ks).flat = t :: flats ks := by rw [X.flat]
theorem flats_cons (x : X) (xs : List X) : flats (x :: xs) = x.flat ++ flats xs := by rw [flats]
theorem flats_snoc (xs : List X) (x : X) : flats (xs ++ [x]) = flats xs ++ x.flat := by
  induction xs with
  | nil => simp [flats]
  | cons y ys ih => simp [flats, ih]
theorem deepest_snoc (xs : List X) (x : X) : deepest (xs ++ [x]) = max (deepest xs) x.depth := by
  induction xs with
  | nil => simp [deepest]
  | cons y ys ih => simp only [List.cons_append, deepest, ih]; omega
theorem wfs_snoc (xs : List X) (x : X) : wfs (xs ++ [x]) = (wfs xs && x.wf) := by
  induction xs with
  | nil => simp [wfs]
  | cons y ys ih => simp [wfs, ih, Bool.and_assoc]
theorem X.flat_pos (x : X) : 0 < x.flat.length := by cases x; rw [X.flat_node]; simp
theorem X.depth_pos (x : X) : 0 < x.depth := by cases x; simp [X.depth]
theorem X.flat_head (x : X) : ∃ r, x.flat = x.t :: r := by cases x with | node t ks => exact ⟨flats ks, X.flat_node t ks⟩

/-- Reads n trees at the beginning of a list, at most f terms deep. -/
def readK : Nat → Nat → List T → Option (List X × List T)
  | _, 0, l => some ([], l)
  | 0, _ + 1, _ => none
  | f + 1, n + 1, l => match l with
    | [] => none
    | t :: r => if t.ok then (match readK f (ar t.op) r with
        | none => none
        | some (ks, r') => match readK (f + 1) n r' with
          | none => none
          | some (xs, r'') => some (.node t ks :: xs, r'')) else none
termination_by f n => (f, n)
/-- Reads one tree. -/
def readX (f : Nat) (l : List T) : Option (X × List T) := match f, l with
  | f + 1, t :: r => if t.ok then (readK f (ar t.op) r).map fun y => (.node t y.1, y.2) else none
  | _, _ => none
theorem readK_zero (f : Nat) (l : List T) : readK f 0 l = some ([], l) := by rw [readK]
theorem readK_cons (f n : Nat) (l : List T) : readK f (n + 1) l = match readX f l with
    | none => none
    | some (x, r) => match readK f n r with
      | none => none
      | some (xs, r') => some (x :: xs, r') := by
  cases f with
  | zero => rw [readK]; simp [readX]
  | succ f =>
    cases l with
    | nil => rw [readK]; simp [readX]
    | cons t r =>
      rw [readK, readX]
      split
      · cases readK f (ar t.op) r with
        | none => rfl
        | some y => rfl
      · rfl
theorem readK_snoc (f : Nat) : ∀ (n : Nat) (l : List T), readK f (n + 1) l = match readK f n l with
    | none => none
    | some (xs, r) => match readX f r with
      | none => none
      | some (x, r') => some (xs ++ [x], r') := by
  intro n
  induction n with
  | zero =>
    intro l
    rw [readK_cons, readK_zero]
    simp only
    cases readX f l with
    | none => rfl
    | some y => obtain ⟨x, r⟩ := y; simp only [readK_zero]; rfl
  | succ n ih =>
    intro l
    rw [readK_cons]
    conv => rhs; rw [readK_cons]
    cases readX f l with
    | none => rfl
    | some y =>
      obtain ⟨x, r⟩ := y
      simp only
      rw [ih r]
      cases readK f n r with
      | none => rfl
      | some z =>
        obtain ⟨xs, r'⟩ := z
        simp only
        cases readX f r' with
        | none => rfl
        | some u => rfl
/-- What was read is there, and is well formed. -/
theorem readK_some : ∀ (f n : Nat) (l : List T) (xs : List X) (r : List T), readK f n l = some (xs, r) → l = flats xs ++ r ∧ xs.length = n ∧ wfs xs = true ∧ deepest xs ≤ f := by
  intro f
  induction f with
  | zero =>
    intro n l xs r h
    cases n with
    | zero => rw [readK_zero] at h; simp at h; obtain ⟨rfl, rfl⟩ := h; simp [flats, wfs, deepest]
    | succ n => rw [readK_cons] at h; simp [readX] at h
  | succ f ihf =>
    intro n
    induction n with
    | zero => intro l xs r h; rw [readK_zero] at h; simp at h; obtain ⟨rfl, rfl⟩ := h; simp [flats, wfs, deepest]
    | succ n ih =>
      intro l xs r h
      rw [readK_cons] at h
      cases hx : readX (f + 1) l with
      | none => rw [hx] at h; cases h
      | some y =>
        obtain ⟨x, r1⟩ := y
        rw [hx] at h
        simp only at h
        cases hk : readK (f + 1) n r1 with
        | none => rw [hk] at h; cases h
        | some z =>
          obtain ⟨ys, r2⟩ := z
          rw [hk] at h
          simp at h
          obtain ⟨rfl, rfl⟩ := h
          obtain ⟨e1, e2, e3, e4⟩ := ih r1 ys r2 hk
          cases l with
          | nil => simp [readX] at hx
          | cons t r0 =>
            simp only [readX] at hx
            split at hx
            · rename_i hok
              obtain ⟨⟨ks, r3⟩, g1, g2⟩ := Option.map_eq_some_iff.1 hx
              simp at g2
              obtain ⟨rfl, rfl⟩ := g2
              obtain ⟨k1, k2, k3, k4⟩ := ihf _ _ _ _ g1
              refine ⟨?_, by simp [e2], ?_, ?_⟩
              · rw [flats_cons, X.flat_node, k1, e1]; simp
              · simp [wfs, X.wf, hok, k2, k3, e3]
              · simp only [deepest, X.depth]; omega
            · cases hx
theorem readX_some {f : Nat} {l : List T} {x : X} {r : List T} (h : readX f l = some (x, r)) : l = x.flat ++ r ∧ x.wf = true ∧ x.depth ≤ f := by
  have hk : readK f 1 l = some ([x], r) := by rw [readK_cons, h]; simp only [readK_zero]
  obtain ⟨e1, _, e3, e4⟩ := readK_some f 1 l [x] r hk
  refine ⟨by simpa [flats] using e1, by simpa [wfs] using e3, by simpa [deepest] using e4⟩
mutual
theorem readX_flat (x : X) (r : List T) (f : Nat) (hw : x.wf = true) (hd : x.depth ≤ f) : readX f (x.flat ++ r) = some (x, r) := by
  match x with
  | .node t ks =>
    simp only [X.wf, Bool.and_eq_true, decide_eq_true_eq] at hw
    simp only [X.depth] at hd
    obtain ⟨f, rfl⟩ : ∃ g, f = g + 1 := ⟨f - 1, by omega⟩
    rw [X.flat_node]
    simp only [List.cons_append, readX]
    rw [if_pos hw.1, ← hw.2.1, readK_flat ks r f hw.2.2 (by omega)]
    rfl
theorem readK_flat (xs : List X) (r : List T) (f : Nat) (hw : wfs xs = true) (hd : deepest xs ≤ f) : readK f xs.length (flats xs ++ r) = some (xs, r) := by
  match xs with
  | [] => simp [readK_zero, flats]
  | x :: xs =>
    simp only [wfs, Bool.and_eq_true] at hw
    simp only [deepest] at hd
    rw [List.length_cons, readK_cons, flats_cons, List.append_assoc, readX_flat x (flats xs ++ r) f hw.1 (by omega)]
    simp only
    rw [readK_flat xs r f hw.2 (by omega)]
end
mutual
theorem X.depth_flat (x : X) : x.depth ≤ x.flat.length := by
  match x with
  | .node t ks =>
    have := deepest_flats ks
    simp only [X.depth, X.flat_node, List.length_cons]
    omega
theorem deepest_flats (xs : List X) : deepest xs ≤ (flats xs).length := by
  match xs with
  | [] => simp [deepest]
  | x :: xs =>
    have h1 := X.depth_flat x
    have h2 := deepest_flats xs
    simp only [deepest, flats_cons, List.length_append]
    omega
end
theorem readX_more {f f' : Nat} {l : List T} {y : X × List T} (h : readX f l = some y) (hf : f ≤ f') : readX f' l = some y := by
  obtain ⟨x, r⟩ := y
  obtain ⟨rfl, h2, h3⟩ := readX_some h
  exact readX_flat x r f' h2 (by omega)
theorem readX_full {f : Nat} {l : List T} (hf : l.length ≤ f) {f' : Nat} {x : X} {r : List T} (h : readX f' l = some (x, r)) : readX f l = some (x, r) := by
  obtain ⟨rfl, h2, h3⟩ := readX_some h
  have := x.depth_flat
  exact readX_flat x r f h2 (by simp at hf; omega)
theorem readX_none {f f' : Nat} {l : List T} (hf : l.length ≤ f) (h : readX f l = none) : readX f' l = none := by
  cases h' : readX f' l with
  | none => rfl
  | some y => obtain ⟨x, r⟩ := y; rw [readX_full hf h'] at h; cases h
/-- A valid expression. -/
def validE (l : List T) : Bool := decide (l.length ≤ 64) && (match readX 16 l with
  | some (_, r) => r.isEmpty
  | none => false)
theorem validE_iff (l : List T) : validE l = true ↔ l.length ≤ 64 ∧ ∃ x : X, l = x.flat ∧ x.wf = true ∧ x.depth ≤ 16 := by
  unfold validE
  rw [Bool.and_eq_true, decide_eq_true_eq]
  constructor
  · rintro ⟨h1, h2⟩
    refine ⟨h1, ?_⟩
    cases h : readX 16 l with
    | none => rw [h] at h2; cases h2
    | some y =>
      obtain ⟨x, r⟩ := y
      rw [h] at h2
      simp only [List.isEmpty_iff] at h2
      subst h2
      obtain ⟨e1, e2, e3⟩ := readX_some h
      exact ⟨x, by simpa using e1, e2, e3⟩
  · rintro ⟨h1, x, rfl, h2, h3⟩
    refine ⟨h1, ?_⟩
    have := readX_flat x [] 16 h2 h3
    rw [List.append_nil] at this
    rw [this]
    rfl
end Go.Proofs.YtojcabnjodfdmaaDoor
