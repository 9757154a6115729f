/- What the expressions of layer 3 are, in plain Lean: terms, trees, the text of a tree as a list of terms, reading a tree. No program in sight, no condition. How an expression is measured from the left to the right, in plain Lean: the program's measure, the reference's end. No program in sight, no condition. The values of expressions, as the program and as the reference reckon them, in plain Lean, and that both agree. No program in sight, no condition. The types of expressions, in plain Lean, and that values have the types. No program in sight, no condition. Substitution and folding of expressions, in plain Lean: values and types stay. No program in sight, no condition. The columns and the text of expressions, in plain Lean. No program in sight, no condition. The tree of a valid expression, and what is read off it: value, text, type. Plain Lean, no condition. How many terms a well-formed expression of a depth has. Plain Lean, no condition. Contracts of Arity and of the validity of a term, of the program and of the reference. No condition. Contract of the program's validTerm. No condition. Contract of the program's measure: rows of at most a thousand terms. Contracts of the reference's fields, end and Valid: rows of at most a thousand terms. Contract of the program's Valid, and what its deferred closures do where nothing panics. Contracts of the program's small operators: truth values, and, or, numbers, the operators that can have a value although an operand is null. No condition. Contracts of the program's lenient, cell, ofText and compare. Texts of at most a thousand bytes. Contracts of the program's ofText and compare. Texts of at most a thousand bytes. Contracts of the program's product, quotient and ofNumbers: numbers from -2^32 to 2^32. -/
import Derived.Test.YtojcabnjodfdmaaGreatDoorBa
import Derived.Laws.StructEq
import Derived.Deep.DeepCutAuto
import Derived.Deep.RegionWith
import Derived.Deep.Light
namespace Go.Proofs.YtojcabnjodfdmaaGreatDoor

/-- An api.Term. -/
structure T where
  op : Int
  v : V
  c : Int
def T.cells (t : T) : List Value := [.int .i64 t.op, .int .i64 t.v.k, .int .i64 t.v.n, .string t.v.s, .int .i64 t.c]
def arity (op : Int) : Int := if op = 1 ∨ op = 2 then 0 else if op = 3 ∨ op = 9 ∨ op = 13 ∨ op = 16 then 1 else if op = 18 then 3 else if 1 ≤ op ∧ op ≤ 18 then 2 else -1
def ar (op : Int) : Nat := (arity op).toNat
theorem arity_range (op : Int) : -1 ≤ arity op ∧ arity op ≤ 3 := by
  unfold arity
  split
  · omega
  · split
    · omega
    · split
      · omega
      · split <;> omega
theorem ar_le (op : Int) : ar op ≤ 3 := by have := arity_range op; unfold ar; omega
theorem arity_known {op : Int} (h : 0 ≤ arity op) : 1 ≤ op ∧ op ≤ 18 := by
  unfold arity at h
  split at h
  · omega
  · split at h
    · omega
    · split at h
      · omega
      · split at h
        · assumption
        · omega
def T.ok (t : T) : Bool := decide (0 ≤ arity t.op) && (if t.op = 1 then t.c == 0 && (t.v.k != 0 && t.v.ok) else if t.op = 2 then decide (0 ≤ t.c) && t.v.beq V.null else t.c == 0 && t.v.beq V.null)

inductive X where
  | node (t : T) (ks : List X)
def X.t : X → T | .node t _ => t
def X.ks : X → List X | .node _ ks => ks
mutual
def X.flat : X → List T | .node t ks => t :: flats ks
def flats : List X → List T
  | [] => []
  | x :: xs => x.flat ++ flats xs
end
mutual
def X.depth : X → Nat | .node _ ks => deepest ks + 1
def deepest : List X → Nat
  | [] => 0
  | x :: xs => max x.depth (deepest xs)
end
mutual
def X.wf : X → Bool | .node t ks => t.ok && (decide (ks.length = ar t.op) && wfs ks)
def wfs : List X → Bool
  | [] => true
  | x :: xs => x.wf && wfs xs
end
theorem X.flat_node (t : T) (ks : List X) : (X.node t ks).flat = t :: flats ks := by rw [X.flat]
theorem flats_cons (x : X) (xs : List X) : flats (x :: xs) = x.flat ++ flats xs := by rw [flats]
theorem flats_snoc (xs : List X) (x : X) : flats (xs ++ [x]) = flats xs ++ x.flat := by
  induction xs with
  | nil => simp [flats]
  | cons y ys ih => simp [flats, ih]
theorem deepest_snoc (xs : List X) (x : X) : deepest (xs ++ [x]) = max (deepest xs) x.depth := by
  induction xs with
  | nil => simp [deepest]
  | cons y ys ih => simp only [List.cons_append, deepest, ih]; omega
theorem wfs_snoc (xs : List X) (x : X) : wfs (xs ++ [x]) = (wfs xs && x.wf) := by
  induction xs with
  | nil => simp [wfs]
  | cons y ys ih => simp [wfs, ih, Bool.and_assoc]
theorem X.flat_pos (x : X) : 0 < x.flat.length := by cases x; rw [X.flat_node]; simp
theorem X.depth_pos (x : X) : 0 < x.depth := by cases x; simp [X.depth]
theorem X.flat_head (x : X) : ∃ r, x.flat = x.t :: r := by cases x with | node t ks => exact ⟨flats ks, X.flat_node t ks⟩

/-- Reads n trees at the beginning of a list, at most f terms deep. -/
def readK : Nat → Nat → List T → Option (List X × List T)
  | _, 0, l => some ([], l)
  | 0, _ + 1, _ => none
  | f + 1, n + 1, l => match l with
    | [] => none
    | t :: r => if t.ok then (match readK f (ar t.op) r with
        | none => none
        | some (ks, r') => match readK (f + 1) n r' with
          | none => none
          | some (xs, r'') => some (.node t ks :: xs, r'')) else none
termination_by f n => (f, n)
/-- Reads one tree. -/
def readX (f : Nat) (l : List T) : Option (X × List T) := match f, l with
  | f + 1, t :: r => if t.ok then (readK f (ar t.op) r).map fun y => (.node t y.1, y.2) else none
  | _, _ => none
theorem readK_zero (f : Nat) (l : List T) : readK f 0 l = some ([], l) := by rw [readK]
theorem readK_cons (f n : Nat) (l : List T) : readK f (n + 1) l = match readX f l with
    | none => none
    | some (x, r) => match readK f n r with
      | none => none
      | some (xs, r') => some (x :: xs, r') := by
  cases f with
  | zero => rw [readK]; simp [readX]
  | succ f =>
    cases l with
    | nil => rw [readK]; simp [readX]
    | cons t r =>
      rw [readK, readX]
      split
      · cases readK f (ar t.op) r with
        | none => rfl
        | some y => rfl
      · rfl
theorem readK_snoc (f : Nat) : ∀ (n : Nat) (l : List T), readK f (n + 1) l = match readK f n l with
    | none => none
    | some (xs, r) => match readX f r with
      | none => none
      | some (x, r') => some (xs ++ [x], r') := by
  intro n
  induction n with
  | zero =>
    intro l
    rw [readK_cons, readK_zero]
    simp only
    cases readX f l with
    | none => rfl
    | some y => obtain ⟨x, r⟩ := y; simp only [readK_zero]; rfl
  | succ n ih =>
    intro l
    rw [readK_cons]
    conv => rhs; rw [readK_cons]
    cases readX f l with
    | none => rfl
    | some y =>
      obtain ⟨x, r⟩ := y
      simp only
      rw [ih r]
      cases readK f n r with
      | none => rfl
      | some z =>
        obtain ⟨xs, r'⟩ := z
        simp only
        cases readX f r' with
        | none => rfl
        | some u => rfl
/-- What was read is there, and is well formed. -/
theorem readK_some : ∀ (f n : Nat) (l : List T) (xs : List X) (r : List T), readK f n l = some (xs, r) → l = flats xs ++ r ∧ xs.length = n ∧ wfs xs = true ∧ deepest xs ≤ f := by
  intro f
  induction f with
  | zero =>
    intro n l xs r h
    cases n with
    | zero => rw [readK_zero] at h; simp at h; obtain ⟨rfl, rfl⟩ := h; simp [flats, wfs, deepest]
    | succ n => rw [readK_cons] at h; simp [readX] at h
  | succ f ihf =>
    intro n
    induction n with
    | zero => intro l xs r h; rw [readK_zero] at h; simp at h; obtain ⟨rfl, rfl⟩ := h; simp [flats, wfs, deepest]
    | succ n ih =>
      intro l xs r h
      rw [readK_cons] at h
      cases hx : readX (f + 1) l with
      | none => rw [hx] at h; cases h
      | some y =>
        obtain ⟨x, r1⟩ := y
        rw [hx] at h
        simp only at h
        cases hk : readK (f + 1) n r1 with
        | none => rw [hk] at h; cases h
        | some z =>
          obtain ⟨ys, r2⟩ := z
          rw [hk] at h
          simp at h
          obtain ⟨rfl, rfl⟩ := h
          obtain ⟨e1, e2, e3, e4⟩ := ih r1 ys r2 hk
          cases l with
          | nil => simp [readX] at hx
          | cons t r0 =>
            simp only [readX] at hx
            split at hx
            · rename_i hok
              obtain ⟨⟨ks, r3⟩, g1, g2⟩ := Option.map_eq_some_iff.1 hx
              simp at g2
              obtain ⟨rfl, rfl⟩ := g2
              obtain ⟨k1, k2, k3, k4⟩ := ihf _ _ _ _ g1
              refine ⟨?_, by simp [e2], ?_, ?_⟩
              · rw [flats_cons, X.flat_node, k1, e1]; simp
              · simp [wfs, X.wf, hok, k2, k3, e3]
              · simp only [deepest, X.depth]; omega
            · cases hx
theorem readX_some {f : Nat} {l : List T} {x : X} {r : List T} (h : readX f l = some (x, r)) : l = x.flat ++ r ∧ x.wf = true ∧ x.depth ≤ f := by
  have hk : readK f 1 l = some ([x], r) := by rw [readK_cons, h]; simp only [readK_zero]
  obtain ⟨e1, _, e3, e4⟩ := readK_some f 1 l [x] r hk
  refine ⟨by simpa [flats] using e1, by simpa [wfs] using e3, by simpa [deepest] using e4⟩
mutual
theorem readX_flat (x : X) (r : List T) (f : Nat) (hw : x.wf = true) (hd : x.depth ≤ f) : readX f (x.flat ++ r) = some (x, r) := by
  match x with
  | .node t ks =>
    simp only [X.wf, Bool.and_eq_true, decide_eq_true_eq] at hw
    simp only [X.depth] at hd
    obtain ⟨f, rfl⟩ : ∃ g, f = g + 1 := ⟨f - 1, by omega⟩
    rw [X.flat_node]
    simp only [List.cons_append, readX]
    rw [if_pos hw.1, ← hw.2.1, readK_flat ks r f hw.2.2 (by omega)]
    rfl
theorem readK_flat (xs : List X) (r : List T) (f : Nat) (hw : wfs xs = true) (hd : deepest xs ≤ f) : readK f xs.length (flats xs ++ r) = some (xs, r) := by
  match xs with
  | [] => simp [readK_zero, flats]
  | x :: xs =>
    simp only [wfs, Bool.and_eq_true] at hw
    simp only [deepest] at hd
    rw [List.length_cons, readK_cons, flats_cons, List.append_assoc, readX_flat x (flats xs ++ r) f hw.1 (by omega)]
    simp only
    rw [readK_flat xs r f hw.2 (by omega)]
end
mutual
theorem X.depth_flat (x : X) : x.depth ≤ x.flat.length := by
  match x with
  | .node t ks =>
    have := deepest_flats ks
    simp only [X.depth, X.flat_node, List.length_cons]
    omega
theorem deepest_flats (xs : List X) : deepest xs ≤ (flats xs).length := by
  match xs with
  | [] => simp [deepest]
  | x :: xs =>
    have h1 := X.depth_flat x
    have h2 := deepest_flats xs
    simp only [deepest, flats_cons, List.length_append]
    omega
end
theorem readX_more {f f' : Nat} {l : List T} {y : X × List T} (h : readX f l = some y) (hf : f ≤ f') : readX f' l = some y := by
  obtain ⟨x, r⟩ := y
  obtain ⟨rfl, h2, h3⟩ := readX_some h
  exact readX_flat x r f' h2 (by omega)
theorem readX_full {f : Nat} {l : List T} (hf : l.length ≤ f) {f' : Nat} {x : X} {r : List T} (h : readX f' l = some (x, r)) : readX f l = some (x, r) := by
  obtain ⟨rfl, h2, h3⟩ := readX_some h
  have := x.depth_flat
  exact readX_flat x r f h2 (by simp at hf; omega)
theorem readX_none {f f' : Nat} {l : List T} (hf : l.length ≤ f) (h : readX f l = none) : readX f' l = none := by
  cases h' : readX f' l with
  | none => rfl
  | some y => obtain ⟨x, r⟩ := y; rw [readX_full hf h'] at h; cases h
/-- A valid expression. -/
def validE (l : List T) : Bool := decide (l.length ≤ 64) && (match readX 16 l with
  | some (_, r) => r.isEmpty
  | none => false)
theorem validE_iff (l : List T) : validE l = true ↔ l.length ≤ 64 ∧ ∃ x : X, l = x.flat ∧ x.wf = true ∧ x.depth ≤ 16 := by
  unfold validE
  rw [Bool.and_eq_true, decide_eq_true_eq]
  constructor
  · rintro ⟨h1, h2⟩
    refine ⟨h1, ?_⟩
    cases h : readX 16 l with
    | none => rw [h] at h2; cases h2
    | some y =>
      obtain ⟨x, r⟩ := y
      rw [h] at h2
      simp only [List.isEmpty_iff] at h2
      subst h2
      obtain ⟨e1, e2, e3⟩ := readX_some h
      exact ⟨x, by simpa using e1, e2, e3⟩
  · rintro ⟨h1, x, rfl, h2, h3⟩
    refine ⟨h1, ?_⟩
    have := readX_flat x [] 16 h2 h3
    rw [List.append_nil] at this
    rw [this]
    rfl
end Go.Proofs.YtojcabnjodfdmaaGreatDoor

namespace Go.Proofs.YtojcabnjodfdmaaGreatDoor

theorem readX_fuel {f f' : Nat} {l : List T} (h : l.length ≤ f) (h' : l.length ≤ f') : readX f l = readX f' l := by
  cases hx : readX f l with
  | none => exact (readX_none h hx).symm
  | some y => obtain ⟨x, r⟩ := y; exact (readX_full h' hx).symm
theorem readK_stop {f n : Nat} {l : List T} (h : readK f n l = none) : ∀ m, n ≤ m → readK f m l = none := by
  intro m
  induction m with
  | zero =>
    intro hm
    have e : n = 0 := by omega
    rw [e] at h
    exact h
  | succ m ih =>
    intro hm
    rcases Nat.lt_or_ge n (m + 1) with h1 | h1
    · rw [readK_snoc, ih (by omega)]
    · have e : n = m + 1 := by omega
      rw [e] at h
      exact h
theorem drop_term {es : List T} {pos : Nat} {t : T} (h : es[pos]? = some t) : es.drop pos = t :: es.drop (pos + 1) := by
  obtain ⟨h1, h2⟩ := List.getElem?_eq_some_iff.1 h
  rw [List.drop_eq_getElem_cons h1, h2]
/-- What was read of some trees from a place on: how deep, and where they end. -/
def Rd3 (f : Nat) (es : List T) (at_ i d e : Nat) : Prop := ∃ ks r, readK f i (es.drop at_) = some (ks, r) ∧ d = deepest ks ∧ e = at_ + (flats ks).length ∧ es.drop e = r
theorem Rd3.start (f : Nat) (es : List T) (at_ : Nat) : Rd3 f es at_ 0 0 at_ := ⟨[], es.drop at_, readK_zero _ _, by simp [deepest], by simp [flats], rfl⟩
theorem Rd3.more {f : Nat} {es : List T} {at_ i d e : Nat} (h : Rd3 f es at_ i d e) {x : X} {r : List T} (hx : readX f (es.drop e) = some (x, r)) : Rd3 f es at_ (i + 1) (max d x.depth) (e + x.flat.length) := by
  obtain ⟨ks, r0, h1, h2, h3, h4⟩ := h
  rw [h4] at hx
  refine ⟨ks ++ [x], r, by rw [readK_snoc, h1]; simp only; rw [hx], by rw [deepest_snoc, h2], by rw [flats_snoc, List.length_append, h3]; omega, ?_⟩
  obtain ⟨e1, _, _⟩ := readX_some hx
  rw [← List.drop_drop, h4, e1, List.drop_left]
theorem Rd3.stop {f : Nat} {es : List T} {at_ i d e : Nat} (h : Rd3 f es at_ i d e) (hx : readX f (es.drop e) = none) (n : Nat) (hn : i < n) : readK f n (es.drop at_) = none := by
  obtain ⟨ks, r0, h1, _, _, h4⟩ := h
  rw [h4] at hx
  exact readK_stop (n := i + 1) (by rw [readK_snoc, h1]; simp only; rw [hx]) n (by omega)
/-- The program's measure: how deep, and the position behind; 0 if there is none. -/
def measO (es : List T) (pos : Nat) : Nat × Nat := match readX es.length (es.drop pos) with
  | some (x, _) => (x.depth, pos + x.flat.length)
  | none => (0, pos)
theorem measO_over {es : List T} {pos : Nat} (h : es.length ≤ pos) : measO es pos = (0, pos) := by
  unfold measO
  rw [List.drop_of_length_le h]
  cases es.length <;> rfl
theorem measO_bad {es : List T} {pos : Nat} {t : T} (h : es[pos]? = some t) (hok : t.ok = false) : measO es pos = (0, pos) := by
  unfold measO
  rw [drop_term h]
  cases es.length with
  | zero => rfl
  | succ n => simp [readX, hok]
theorem read_node {es : List T} {pos : Nat} {t : T} (h : es[pos]? = some t) (hok : t.ok = true) : readX es.length (es.drop pos) = (readK (es.length - 1) (ar t.op) (es.drop (pos + 1))).map fun y => (.node t y.1, y.2) := by
  have hl : pos < es.length := (List.getElem?_eq_some_iff.1 h).1
  obtain ⟨n, hn⟩ : ∃ n, es.length = n + 1 := ⟨es.length - 1, by omega⟩
  rw [drop_term h, hn]
  simp only [readX, Nat.add_sub_cancel]
  rw [if_pos hok]
theorem measO_some {es : List T} {e : Nat} {f : Nat} (hf : es.length ≤ f + e) (h : (measO es e).1 ≠ 0) : ∃ x r, readX f (es.drop e) = some (x, r) ∧ measO es e = (x.depth, e + x.flat.length) := by
  unfold measO at h ⊢
  cases hx : readX es.length (es.drop e) with
  | none => rw [hx] at h; simp at h
  | some y =>
    obtain ⟨x, r⟩ := y
    exact ⟨x, r, readX_full (by simp; omega) hx, rfl⟩
theorem measO_none {es : List T} {e : Nat} {f : Nat} (h : (measO es e).1 = 0) : readX f (es.drop e) = none := by
  unfold measO at h
  cases hx : readX es.length (es.drop e) with
  | none => exact readX_none (by simp) hx
  | some y =>
    obtain ⟨x, r⟩ := y
    rw [hx] at h
    have := x.depth_pos
    simp only at h
    omega
theorem Rd3.le {f : Nat} {es : List T} {at_ i d e : Nat} (h : Rd3 f es at_ i d e) : at_ ≤ e := by
  obtain ⟨ks, r, _, _, h3, _⟩ := h
  omega
theorem meas_step {es : List T} {pos i d e : Nat} (h : Rd3 (es.length - 1) es (pos + 1) i d e) (hd : (measO es e).1 ≠ 0) : Rd3 (es.length - 1) es (pos + 1) (i + 1) (max d (measO es e).1) (measO es e).2 := by
  have hle := h.le
  obtain ⟨x, r, h1, h2⟩ := measO_some (f := es.length - 1) (by omega) hd
  rw [h2]
  exact h.more h1
theorem meas_fail {es : List T} {pos i d e : Nat} {t : T} (ht : es[pos]? = some t) (hok : t.ok = true) (h : Rd3 (es.length - 1) es (pos + 1) i d e) (hd : (measO es e).1 = 0) (hi : i < ar t.op) : measO es pos = (0, pos) := by
  unfold measO
  rw [read_node ht hok, h.stop (measO_none hd) _ hi]
  rfl
theorem meas_done {es : List T} {pos d e : Nat} {t : T} (ht : es[pos]? = some t) (hok : t.ok = true) (h : Rd3 (es.length - 1) es (pos + 1) (ar t.op) d e) : measO es pos = (d + 1, e) := by
  obtain ⟨ks, r, h1, h2, h3, _⟩ := h
  unfold measO
  rw [read_node ht hok, h1]
  simp only [Option.map_some, X.depth, X.flat_node, List.length_cons]
  rw [h2, h3]
  simp
  omega
theorem measO_le {es : List T} {e : Nat} (h : e ≤ es.length) : (measO es e).1 ≤ es.length ∧ e ≤ (measO es e).2 ∧ (measO es e).2 ≤ es.length := by
  unfold measO
  cases hx : readX es.length (es.drop e) with
  | none => exact ⟨Nat.zero_le _, Nat.le_refl _, h⟩
  | some y =>
    obtain ⟨x, r⟩ := y
    obtain ⟨h1, _, h3⟩ := readX_some hx
    have h4 := congrArg List.length h1
    have h5 := x.depth_flat
    rw [List.length_drop, List.length_append] at h4
    simp only
    omega
/-- The reference's end: the position behind a tree at most dp deep, or -1. -/
def endO (es : List T) (at_ dp : Nat) : Int := match readX dp (es.drop at_) with
  | some (x, _) => ((at_ + x.flat.length : Nat) : Int)
  | none => -1
theorem endO_over {es : List T} {at_ dp : Nat} (h : es.length ≤ at_) : endO es at_ dp = -1 := by
  unfold endO
  rw [List.drop_of_length_le h]
  cases dp <;> rfl
theorem endO_zero (es : List T) (at_ : Nat) : endO es at_ 0 = -1 := by unfold endO; rfl
theorem endO_bad {es : List T} {at_ dp : Nat} {t : T} (h : es[at_]? = some t) (hok : t.ok = false) : endO es at_ dp = -1 := by
  unfold endO
  rw [drop_term h]
  cases dp with
  | zero => rfl
  | succ n => simp [readX, hok]
theorem end_step {es : List T} {at_ dp i d e : Nat} (h : Rd3 dp es (at_ + 1) i d e) (hd : 0 ≤ endO es e dp) : ∃ d' e' : Nat, endO es e dp = (e' : Int) ∧ Rd3 dp es (at_ + 1) (i + 1) d' e' := by
  unfold endO at hd ⊢
  cases hx : readX dp (es.drop e) with
  | none => rw [hx] at hd; simp at hd
  | some y =>
    obtain ⟨x, r⟩ := y
    exact ⟨_, _, rfl, h.more hx⟩
theorem endO_none {es : List T} {e dp : Nat} (h : endO es e dp < 0) : readX dp (es.drop e) = none := by
  unfold endO at h
  cases hx : readX dp (es.drop e) with
  | none => rfl
  | some y => obtain ⟨x, r⟩ := y; rw [hx] at h; simp only at h; omega
theorem end_node {es : List T} {at_ dp : Nat} {t : T} (ht : es[at_]? = some t) (hok : t.ok = true) : readX (dp + 1) (es.drop at_) = (readK dp (ar t.op) (es.drop (at_ + 1))).map fun y => (.node t y.1, y.2) := by
  rw [drop_term ht]
  simp only [readX]
  rw [if_pos hok]
theorem end_fail {es : List T} {at_ dp i d e : Nat} {t : T} (ht : es[at_]? = some t) (hok : t.ok = true) (h : Rd3 dp es (at_ + 1) i d e) (hd : endO es e dp < 0) (hi : i < ar t.op) : endO es at_ (dp + 1) = -1 := by
  unfold endO
  rw [end_node ht hok, h.stop (endO_none hd) _ hi]
  rfl
theorem end_done {es : List T} {at_ dp d e : Nat} {t : T} (ht : es[at_]? = some t) (hok : t.ok = true) (h : Rd3 dp es (at_ + 1) (ar t.op) d e) : endO es at_ (dp + 1) = (e : Int) := by
  obtain ⟨ks, r, h1, h2, h3, _⟩ := h
  unfold endO
  rw [end_node ht hok, h1]
  simp only [Option.map_some, X.flat_node, List.length_cons]
  rw [h3]
  omega
theorem endO_le {es : List T} {e dp : Nat} (h : e ≤ es.length) : -1 ≤ endO es e dp ∧ endO es e dp ≤ es.length := by
  unfold endO
  cases hx : readX dp (es.drop e) with
  | none => simp only; omega
  | some y =>
    obtain ⟨x, r⟩ := y
    obtain ⟨h1, _, _⟩ := readX_some hx
    have h4 := congrArg List.length h1
    rw [List.length_drop, List.length_append] at h4
    simp only
    omega
/-- The fields of a term fit its operator. -/
def T.fok (t : T) : Bool := if t.op = 1 then t.c == 0 && (t.v.k != 0 && t.v.ok) else if t.op = 2 then decide (0 ≤ t.c) && t.v.beq V.null else t.c == 0 && t.v.beq V.null
theorem T.ok_fok (t : T) : t.ok = (decide (0 ≤ arity t.op) && t.fok) := rfl
/-- Both tests of validity say validE. -/
theorem valid_prog (es : List T) : validE es = (decide (es.length ≤ 64) && (decide (0 < (measO es 0).1) && (decide ((measO es 0).1 ≤ 16) && decide ((measO es 0).2 = es.length)))) := by
  rw [Bool.eq_iff_iff, validE_iff]
  simp only [Bool.and_eq_true, decide_eq_true_eq]
  constructor
  · rintro ⟨h1, x, rfl, h2, h3⟩
    have hr : readX x.flat.length (x.flat.drop 0) = some (x, []) := by
      have := readX_flat x [] x.flat.length h2 x.depth_flat
      rw [List.append_nil] at this
      rw [List.drop_zero]
      exact this
    have hm : measO x.flat 0 = (x.depth, 0 + x.flat.length) := by unfold measO; rw [hr]
    have := x.depth_pos
    rw [hm]
    exact ⟨h1, this, h3, by simp⟩
  · rintro ⟨h1, h2, h3, h4⟩
    refine ⟨h1, ?_⟩
    obtain ⟨x, r, e1, e2⟩ := measO_some (es := es) (e := 0) (f := es.length) (by omega) (by omega)
    rw [List.drop_zero] at e1
    obtain ⟨g1, g2, g3⟩ := readX_some e1
    rw [e2] at h3 h4
    simp only at h3 h4
    have hr : r = [] := by
      have := congrArg List.length g1
      rw [List.length_append] at this
      exact List.eq_nil_of_length_eq_zero (by omega)
    subst hr
    exact ⟨x, by simpa using g1, g2, h3⟩
theorem valid_ref (es : List T) : validE es = (decide (1 ≤ es.length) && (decide (es.length ≤ 64) && decide (endO es 0 16 = es.length))) := by
  rw [Bool.eq_iff_iff, validE_iff]
  simp only [Bool.and_eq_true, decide_eq_true_eq]
  constructor
  · rintro ⟨h1, x, rfl, h2, h3⟩
    have hr := readX_flat x [] 16 h2 h3
    rw [List.append_nil] at hr
    have hm : endO x.flat 0 16 = ((0 + x.flat.length : Nat) : Int) := by unfold endO; rw [List.drop_zero, hr]
    have := x.flat_pos
    exact ⟨this, h1, by rw [hm]; simp⟩
  · rintro ⟨h1, h2, h3⟩
    refine ⟨h2, ?_⟩
    unfold endO at h3
    rw [List.drop_zero] at h3
    cases hx : readX 16 es with
    | none => rw [hx] at h3; simp only at h3; omega
    | some y =>
      obtain ⟨x, r⟩ := y
      rw [hx] at h3
      simp only at h3
      obtain ⟨g1, g2, g3⟩ := readX_some hx
      have hr : r = [] := by
        have := congrArg List.length g1
        rw [List.length_append] at this
        exact List.eq_nil_of_length_eq_zero (by omega)
      subst hr
      exact ⟨x, by simpa using g1, g2, g3⟩
end Go.Proofs.YtojcabnjodfdmaaGreatDoor

namespace Go.Proofs.YtojcabnjodfdmaaGreatDoor

def numV (n : Int) : V := (V.mk 1 n ⟨#[]⟩).cl
def truthV (b : Bool) : V := numV (if b then 1 else 0)
def isTrueV (v : V) : Bool := v.k == 1 && v.n != 0
def isFalseV (v : V) : Bool := v.k == 1 && v.n == 0
def andV (a b : V) : V := if (isFalseV a || isFalseV b) = true then truthV false else if (isTrueV a && isTrueV b) = true then truthV true else V.null
def orV (a b : V) : V := if (isTrueV a || isTrueV b) = true then truthV true else if (isFalseV a && isFalseV b) = true then truthV false else V.null
def lenientV (op : Int) (a b c : V) : V := if op = 14 then andV a b else if op = 15 then orV a b else if op = 16 then truthV (a.k == 0) else if op = 17 then (if a.k = 0 then b else a) else if isTrueV a = true then b else c
def textV (op : Int) (a b : V) : V := if a.k ≠ 2 then V.null else if op = 9 then numV a.s.size else if op = 8 ∧ b.k = 2 ∧ a.s.size + b.s.size ≤ 32 then ⟨2, 0, a.s ++ b.s⟩ else if op = 10 ∧ b.k = 1 ∧ 0 ≤ b.n then ⟨2, 0, a.s.extract 0 (min b.n a.s.size).toNat⟩ else V.null
def compV (op : Int) (a b : V) : V := if a.k = 0 ∨ a.k ≠ b.k then V.null else if op = 11 then truthV (a.beq b) else truthV (decide (cmpV a b < 0))
def prodV (a b : Int) : V := if a ≠ 0 ∧ max b (-b) > (4294967296 : Int).tdiv (max a (-a)) then V.null else numV (a * b)
def quotV (a b : Int) : V := if b = 0 then V.null else if a.tmod b ≠ 0 ∧ (decide (a < 0) != decide (b < 0)) = true then numV (a.tdiv b - 1) else numV (a.tdiv b)
def numsV (op : Int) (a b : V) : V := if a.k ≠ 1 ∨ b.k ≠ 1 then V.null else if op = 3 then numV (-a.n) else if op = 13 then truthV (a.n == 0) else if op = 4 then numV (a.n + b.n) else if op = 5 then numV (a.n - b.n) else if op = 6 then prodV a.n b.n else quotV a.n b.n
/-- The value of an operator with its operands, as the program reckons it. -/
def opV (op : Int) (a b c : V) : V :=
  if op = 14 ∨ op = 15 ∨ op = 16 ∨ op = 17 ∨ op = 18 then lenientV op a b c
  else if op = 8 ∨ op = 9 ∨ op = 10 then textV op a b
  else if op = 11 ∨ op = 12 then compV op a b
  else if op = 3 ∨ op = 13 then numsV op a a
  else numsV op a b
def cellV (row : List V) (c : Int) : V := if c ≥ row.length then V.null else ((row[c.toNat]?).getD V.null).cl
def termV (row : List V) (t : T) (vs : List V) : V := if t.op = 1 then t.v else if t.op = 2 then cellV row t.c else opV t.op (vs.getD 0 V.null) (vs.getD 1 V.null) (vs.getD 2 V.null)
mutual
def X.ev (row : List V) : X → V | .node t ks => termV row t (evs row ks)
def evs (row : List V) : List X → List V
  | [] => []
  | x :: xs => x.ev row :: evs row xs
end
theorem evs_snoc (row : List V) (xs : List X) (x : X) : evs row (xs ++ [x]) = evs row xs ++ [x.ev row] := by
  induction xs with
  | nil => simp [evs]
  | cons y ys ih => simp [evs, ih]
theorem evs_len (row : List V) (xs : List X) : (evs row xs).length = xs.length := by
  induction xs with
  | nil => simp [evs]
  | cons y ys ih => simp [evs, ih]

-- as the reference has it
def truthR (v : V) : Int := if v.k ≠ 1 then -1 else if v.n = 0 then 0 else 1
def prodR (a b : Int) : V := if a ≠ 0 ∧ b ≠ 0 ∧ max a (-a) > (4294967296 : Int).tdiv (max b (-b)) then V.null else numV (a * b)
def quotR (a b : Int) : V := if b = 0 then V.null else if a.tdiv b * b ≠ a ∧ (decide (a < 0) != decide (b < 0)) = true then numV (a.tdiv b - 1) else numV (a.tdiv b)
def numsR (op : Int) (a b : Int) : V := if op = 4 then numV (a + b) else if op = 5 then numV (a - b) else if op = 6 then prodR a b else quotR a b
def threeR (op : Int) (a b : Int) : V :=
  let d : Int := if op = 15 then 1 else 0
  if a = d ∨ b = d then truthV (d == 1) else if a < 0 ∨ b < 0 then V.null else truthV (d == 0)
def textR (s : ByteArray) : V := (V.mk 2 0 s).cl
def strictR (op : Int) (a b : V) : V :=
  if op = 3 then (if a.k = 1 then numV (-a.n) else V.null)
  else if op = 13 then (if a.k = 1 then truthV (a.n == 0) else V.null)
  else if op = 4 ∨ op = 5 ∨ op = 6 ∨ op = 7 then (if a.k = 1 ∧ b.k = 1 then numsR op a.n b.n else V.null)
  else if op = 8 then (if a.k = 2 ∧ b.k = 2 then textR (a.s ++ b.s) else V.null)
  else if op = 9 then (if a.k = 2 then numV a.s.size else V.null)
  else if op = 10 then (if a.k = 2 ∧ b.k = 1 ∧ 0 ≤ b.n then textR (a.s.extract 0 (min b.n a.s.size).toNat) else V.null)
  else if op = 11 then (if a.k = b.k then truthV (a.beq b) else V.null)
  else if op = 12 then (if a.k = b.k then truthV (decide (cmpV a b < 0)) else V.null)
  else V.null
def applyR (op : Int) (vs : List V) : V :=
  if op = 14 ∨ op = 15 then threeR op (truthR (vs.getD 0 V.null)) (truthR (vs.getD 1 V.null))
  else if op = 16 then truthV ((vs.getD 0 V.null).beq V.null)
  else if op = 17 then (if (vs.getD 0 V.null).beq V.null = false then vs.getD 0 V.null else vs.getD 1 V.null)
  else if op = 18 then (if truthR (vs.getD 0 V.null) = 1 then vs.getD 1 V.null else vs.getD 2 V.null)
  else if vs.any (fun v => v.beq V.null) = true then V.null
  else strictR op (vs.getD 0 V.null) (vs.getD 1 V.null)

theorem null_k {v : V} (h : v.ok = true) : v.beq V.null = decide (v.k = 0) := by
  rw [Bool.eq_iff_iff, V.beq_iff, decide_eq_true_eq]
  constructor
  · rintro rfl; rfl
  · intro h0
    rcases V.ok_cases h with ⟨h1, h2, h3⟩ | ⟨h1, _⟩ | ⟨h1, _⟩
    · obtain ⟨k, n, s⟩ := v
      simp only at h1 h2 h3
      subst h1 h2
      unfold V.null
      congr 1
      exact bytes_ext h3
    · omega
    · omega
theorem numV_ok (n : Int) : (numV n).ok = true := V.cl_ok _
theorem truthV_ok (b : Bool) : (truthV b).ok = true := numV_ok _
theorem prod_same {a b : Int} (ha : -4294967296 ≤ a ∧ a ≤ 4294967296) (hb : -4294967296 ≤ b ∧ b ≤ 4294967296) : prodR a b = prodV a b := by
  unfold prodR prodV
  have key : ∀ x y : Int, 0 < x → 0 < y → (x > (4294967296 : Int).tdiv y ↔ x * y > 4294967296) := by
    intro x y hx hy
    rw [Int.tdiv_eq_ediv_of_nonneg (by omega)]
    constructor
    · intro h
      have := Int.lt_ediv_add_one_mul_self 4294967296 hy
      have h2 : (4294967296 / y + 1) * y ≤ x * y := Int.mul_le_mul_of_nonneg_right (by omega) (by omega)
      omega
    · intro h
      rcases Int.lt_or_le (4294967296 / y) x with h1 | h1
      · exact h1
      · exfalso
        have h2 : x * y ≤ 4294967296 / y * y := Int.mul_le_mul_of_nonneg_right h1 (by omega)
        have := Int.ediv_mul_le 4294967296 (show y ≠ 0 by omega)
        omega
  by_cases h1 : a = 0
  · subst h1; simp
  · by_cases h2 : b = 0
    · subst h2
      have e : ¬ (max (0 : Int) (-0) > (4294967296 : Int).tdiv (max a (-a))) := by
        have := Int.tdiv_nonneg (a := 4294967296) (b := max a (-a)) (by omega) (by omega)
        omega
      simp only [ne_eq, not_true, false_and, and_false, if_false]
      rw [if_neg (fun h => e h.2)]
    · have k1 := key (max a (-a)) (max b (-b)) (by omega) (by omega)
      have k2 := key (max b (-b)) (max a (-a)) (by omega) (by omega)
      have e : (max a (-a) > (4294967296 : Int).tdiv (max b (-b))) ↔ (max b (-b) > (4294967296 : Int).tdiv (max a (-a))) := by
        rw [k1, k2, Int.mul_comm]
      simp only [ne_eq, h1, h2, not_false_eq_true, true_and, e]
theorem quot_same (a b : Int) : quotR a b = quotV a b := by
  unfold quotR quotV
  have e : (a.tdiv b * b ≠ a) ↔ (a.tmod b ≠ 0) := by
    have := Int.tmod_add_mul_tdiv a b
    rw [Int.mul_comm] at this
    constructor
    · intro h h2; apply h; omega
    · intro h h2; apply h; omega
  simp only [e]
theorem ok_null {v : V} (h : v.ok = true) : v.k = 0 ∨ v.k = 1 ∨ v.k = 2 := by
  rcases V.ok_cases h with ⟨h1, _⟩ | ⟨h1, _⟩ | ⟨h1, _⟩ <;> simp [h1]
theorem ok_bounds {v : V} (h : v.ok = true) : -4294967296 ≤ v.n ∧ v.n ≤ 4294967296 := by
  rcases V.ok_cases h with ⟨_, h2, _⟩ | ⟨_, h2, h3, _⟩ | ⟨_, h2, _⟩ <;> omega
theorem ok_size {v : V} (h : v.ok = true) : v.s.size ≤ 32 := by
  rw [Lib.size_eq]
  rcases V.ok_cases h with ⟨_, _, h2⟩ | ⟨_, _, _, h2⟩ | ⟨_, _, h2⟩
  · rw [h2]; simp
  · rw [h2]; simp
  · exact h2
theorem three_and {a b : V} (ha : a.ok = true) (hb : b.ok = true) : threeR 14 (truthR a) (truthR b) = andV a b := by
  rcases ok_null ha with h | h | h <;> rcases ok_null hb with g | g | g <;> simp [threeR, truthR, andV, isFalseV, isTrueV, h, g]
  all_goals (repeat' split)
  all_goals simp_all
theorem three_or {a b : V} (ha : a.ok = true) (hb : b.ok = true) : threeR 15 (truthR a) (truthR b) = orV a b := by
  rcases ok_null ha with h | h | h <;> rcases ok_null hb with g | g | g <;> simp [threeR, truthR, orV, isFalseV, isTrueV, h, g]
  all_goals (repeat' split)
  all_goals simp_all
theorem truthR_one (a : V) : (truthR a = 1) ↔ (isTrueV a = true) := by
  unfold truthR isTrueV
  by_cases h : a.k = 1
  · by_cases g : a.n = 0 <;> simp [h, g]
  · simp [h]
theorem ok_text {s : ByteArray} (h : s.size ≤ 32) : (V.mk 2 0 s).ok = true := by simp [V.ok, h]
theorem bad_text {s : ByteArray} (h : ¬ s.size ≤ 32) : (V.mk 2 0 s).ok = false := by simp [V.ok]; omega
theorem op_same1 {op : Int} {a : V} (h3 : 3 ≤ op) (h18 : op ≤ 18) (hr : ar op = 1) (ha : a.ok = true) : applyR op [a] = opV op a V.null V.null := by
  have hop : op = 3 ∨ op = 9 ∨ op = 13 ∨ op = 16 := by
    unfold ar arity at hr
    split at hr
    · omega
    · split at hr
      · assumption
      · split at hr
        · simp at hr
        · split at hr <;> simp at hr
  have hk := null_k ha
  rcases hop with rfl | rfl | rfl | rfl
  · rcases ok_null ha with h | h | h <;> simp [applyR, opV, numsV, strictR, hk, h]
  · rcases ok_null ha with h | h | h <;> simp [applyR, opV, textV, strictR, hk, h]
  · rcases ok_null ha with h | h | h <;> simp [applyR, opV, numsV, strictR, hk, h]
  · simp [applyR, opV, lenientV, hk]
    congr 1
theorem op_same2 {op : Int} {a b : V} (h3 : 3 ≤ op) (h18 : op ≤ 18) (hr : ar op = 2) (ha : a.ok = true) (hb : b.ok = true) : applyR op [a, b] = opV op a b V.null := by
  have hop : op = 4 ∨ op = 5 ∨ op = 6 ∨ op = 7 ∨ op = 8 ∨ op = 10 ∨ op = 11 ∨ op = 12 ∨ op = 14 ∨ op = 15 ∨ op = 17 := by
    unfold ar arity at hr
    split at hr
    · simp at hr
    · split at hr
      · simp at hr
      · split at hr
        · simp at hr
        · omega
  have hka := null_k ha
  have hkb := null_k hb
  have ps := prod_same (ok_bounds ha) (ok_bounds hb)
  have qs := quot_same a.n b.n
  rcases hop with rfl | rfl | rfl | rfl | rfl | rfl | rfl | rfl | rfl | rfl | rfl
  · rcases ok_null ha with h | h | h <;> rcases ok_null hb with g | g | g <;> simp [applyR, opV, numsV, numsR, strictR, hka, hkb, h, g]
  · rcases ok_null ha with h | h | h <;> rcases ok_null hb with g | g | g <;> simp [applyR, opV, numsV, numsR, strictR, hka, hkb, h, g]
  · rcases ok_null ha with h | h | h <;> rcases ok_null hb with g | g | g <;> simp [applyR, opV, numsV, numsR, strictR, hka, hkb, h, g, ps]
  · rcases ok_null ha with h | h | h <;> rcases ok_null hb with g | g | g <;> simp [applyR, opV, numsV, numsR, strictR, hka, hkb, h, g, qs]
  · rcases ok_null ha with h | h | h <;> rcases ok_null hb with g | g | g <;> simp [applyR, opV, textV, strictR, hka, hkb, h, g]
    unfold textR
    by_cases hs : a.s.size + b.s.size ≤ 32
    · rw [if_pos hs, V.cl_of (ok_text (by rw [ByteArray.size_append]; exact hs))]
    · rw [if_neg hs, V.cl_not (bad_text (by rw [ByteArray.size_append]; exact hs))]
  · rcases ok_null ha with h | h | h <;> rcases ok_null hb with g | g | g <;> simp [applyR, opV, textV, strictR, hka, hkb, h, g]
    have hs := ok_size ha
    have : (a.s.extract 0 (min b.n a.s.size).toNat).size ≤ 32 := by
      rw [Lib.size_eq, Lib.extract_data, List.length_take, List.length_drop, ← Lib.size_eq]
      omega
    unfold textR
    rw [V.cl_of (ok_text this)]
  · rcases ok_null ha with h | h | h <;> rcases ok_null hb with g | g | g <;> simp [applyR, opV, compV, strictR, hka, hkb, h, g]
  · rcases ok_null ha with h | h | h <;> rcases ok_null hb with g | g | g <;> simp [applyR, opV, compV, strictR, hka, hkb, h, g]
  · simp [applyR, opV, lenientV, three_and ha hb]
  · simp [applyR, opV, lenientV, three_or ha hb]
  · simp [applyR, opV, lenientV, hka]
theorem op_same3 {op : Int} {a b c : V} (hr : ar op = 3) (_ha : a.ok = true) : applyR op [a, b, c] = opV op a b c := by
  have hop : op = 18 := by
    unfold ar arity at hr
    split at hr
    · simp at hr
    · split at hr
      · simp at hr
      · split at hr
        · assumption
        · split at hr <;> simp at hr
  subst hop
  simp [applyR, opV, lenientV, truthR_one]
theorem opV_ok {op : Int} {a b c : V} (ha : a.ok = true) (hb : b.ok = true) (hc : c.ok = true) : (opV op a b c).ok = true := by
  have hN : ∀ o x y, (numsV o x y).ok = true := by
    intro o x y
    unfold numsV prodV quotV
    (repeat' split) <;> first | exact V.null_ok | exact numV_ok _ | exact truthV_ok _
  unfold opV
  split
  · unfold lenientV andV orV
    (repeat' split) <;> first | exact V.null_ok | exact truthV_ok _ | exact ha | exact hb | exact hc
  · split
    · unfold textV
      split
      · exact V.null_ok
      · split
        · exact numV_ok _
        · split
          · rename_i h
            exact ok_text (by rw [ByteArray.size_append]; exact h.2.2)
          · split
            · have hs := ok_size ha
              exact ok_text (by rw [Lib.size_eq, Lib.extract_data, List.length_take, List.length_drop, ← Lib.size_eq]; omega)
            · exact V.null_ok
    · split
      · unfold compV
        (repeat' split) <;> first | exact V.null_ok | exact truthV_ok _
      · split <;> exact hN _ _ _
theorem cellV_ok (row : List V) (c : Int) : (cellV row c).ok = true := by
  unfold cellV
  split
  · exact V.null_ok
  · exact V.cl_ok _
theorem getD_ok {vs : List V} (h : ∀ v ∈ vs, v.ok = true) (i : Nat) : (vs.getD i V.null).ok = true := by
  rw [List.getD_eq_getElem?_getD]
  cases h1 : vs[i]? with
  | none => exact V.null_ok
  | some v => exact h v (List.mem_of_getElem? h1)
theorem term_const {t : T} (h : t.ok = true) (h1 : t.op = 1) : t.v.ok = true ∧ t.v.k ≠ 0 ∧ t.c = 0 := by
  unfold T.ok at h
  rw [if_pos h1] at h
  simp only [Bool.and_eq_true, beq_iff_eq, bne_iff_ne] at h
  exact ⟨h.2.2.2, h.2.2.1, h.2.1⟩
mutual
theorem X.ev_ok (row : List V) (x : X) (hw : x.wf = true) : (x.ev row).ok = true := by
  match x with
  | .node t ks =>
    simp only [X.wf, Bool.and_eq_true] at hw
    have hk := evs_ok row ks hw.2.2
    rw [X.ev]
    unfold termV
    split
    · rename_i h1; exact (term_const hw.1 h1).1
    · split
      · exact cellV_ok _ _
      · exact opV_ok (getD_ok hk 0) (getD_ok hk 1) (getD_ok hk 2)
theorem evs_ok (row : List V) (xs : List X) (hw : wfs xs = true) : ∀ v ∈ evs row xs, v.ok = true := by
  match xs with
  | [] => intro v hv; simp [evs] at hv
  | x :: xs =>
    simp only [wfs, Bool.and_eq_true] at hw
    have h1 := X.ev_ok row x hw.1
    have h2 := evs_ok row xs hw.2
    intro v hv
    simp only [evs, List.mem_cons] at hv
    rcases hv with rfl | hv
    · exact h1
    · exact h2 v hv
end
/-- Operators that are neither a constant nor a column: the reference's value is the program's. -/
theorem apply_same {op : Int} {vs : List V} (h3 : 3 ≤ op) (h18 : op ≤ 18) (hl : vs.length = ar op) (hk : ∀ v ∈ vs, v.ok = true) : applyR op vs = opV op (vs.getD 0 V.null) (vs.getD 1 V.null) (vs.getD 2 V.null) := by
  have h0 : ar op ≠ 0 := by
    unfold ar arity
    split
    · omega
    · split
      · simp
      · split
        · simp
        · split
          · simp
          · omega
  match vs, hl, hk with
  | [], hl, _ => exact absurd hl.symm h0
  | [a], hl, hk => exact op_same1 h3 h18 hl.symm (hk a (by simp))
  | [a, b], hl, hk => exact op_same2 h3 h18 hl.symm (hk a (by simp)) (hk b (by simp))
  | [a, b, c], hl, hk => exact op_same3 hl.symm (hk a (by simp))
  | a :: b :: c :: d :: r, hl, _ =>
    have := ar_le op
    simp at hl
    omega
end Go.Proofs.YtojcabnjodfdmaaGreatDoor

namespace Go.Proofs.YtojcabnjodfdmaaGreatDoor

/-- The type of an operator from those of its operands; 5 is the error's number. -/
def opT (op : Int) (a b c : Int) : Except Int Int :=
  if op = 3 ∨ op = 13 then (if a = 1 then .ok 1 else .error 5)
  else if op = 8 then (if a = 2 ∧ b = 2 then .ok 2 else .error 5)
  else if op = 9 then (if a = 2 then .ok 1 else .error 5)
  else if op = 10 then (if a = 2 ∧ b = 1 then .ok 2 else .error 5)
  else if op = 11 ∨ op = 12 then (if a = b then .ok 1 else .error 5)
  else if op = 16 then .ok 1
  else if op = 17 then (if a = b then .ok a else .error 5)
  else if op = 18 then (if a = 1 ∧ b = c then .ok b else .error 5)
  else (if a = 1 ∧ b = 1 then .ok 1 else .error 5)
def termT (types : List Int) (t : T) (l : List Int) : Except Int Int :=
  if t.op = 2 ∧ t.c ≥ types.length then .error 3
  else if t.op = 1 then .ok t.v.k
  else if t.op = 2 then .ok (types.getD t.c.toNat 0)
  else opT t.op (l.getD 0 0) (l.getD 1 0) (l.getD 2 0)
mutual
def X.ty (types : List Int) : X → Except Int Int
  | .node t ks => match tys types ks with
    | .error e => .error e
    | .ok l => termT types t l
def tys (types : List Int) : List X → Except Int (List Int)
  | [] => .ok []
  | x :: xs => match x.ty types with
    | .error e => .error e
    | .ok a => match tys types xs with
      | .error e => .error e
      | .ok l => .ok (a :: l)
end
theorem tys_snoc (types : List Int) (xs : List X) (x : X) : tys types (xs ++ [x]) = (match tys types xs with
    | .error e => .error e
    | .ok l => match x.ty types with
      | .error e => .error e
      | .ok a => .ok (l ++ [a])) := by
  induction xs with
  | nil =>
    simp only [List.nil_append, tys]
  | cons y ys ih =>
    simp only [List.cons_append, tys, ih]
    cases y.ty types with
    | error e => rfl
    | ok a =>
      simp only
      cases tys types ys with
      | error e => rfl
      | ok l =>
        simp only
        cases x.ty types <;> rfl
theorem tys_len (types : List Int) : ∀ (xs : List X) (l : List Int), tys types xs = .ok l → l.length = xs.length := by
  intro xs
  induction xs with
  | nil => intro l h; simp [tys] at h; subst h; rfl
  | cons x xs ih =>
    intro l h
    simp only [tys] at h
    cases hx : x.ty types with
    | error e => rw [hx] at h; cases h
    | ok a =>
      rw [hx] at h
      simp only at h
      cases hl : tys types xs with
      | error e => rw [hl] at h; cases h
      | ok l' =>
        rw [hl] at h
        simp at h
        subst h
        simp [ih l' hl]
/-- A value has a type, or is null. -/
def hasT (v : V) (k : Int) : Prop := v.k = 0 ∨ v.k = k
def rowT (types : List Int) (row : List V) : Prop := ∀ (i : Nat) v k, row[i]? = some v → types[i]? = some k → hasT v k
theorem numV_T (n : Int) : hasT (numV n) 1 := by
  unfold numV V.cl
  split
  · exact .inr rfl
  · exact .inl rfl
theorem truthV_T (b : Bool) : hasT (truthV b) 1 := numV_T _
theorem null_T (k : Int) : hasT V.null k := .inl rfl
theorem nums_T (op : Int) (a b : V) : hasT (numsV op a b) 1 := by
  unfold numsV prodV quotV
  (repeat' split) <;> first | exact null_T _ | exact numV_T _ | exact truthV_T _
theorem opV_T {op : Int} {a b c : V} {ka kb kc k : Int} (h : opT op ka kb kc = .ok k) (ha : hasT a ka) (hb : hasT b kb) (hc : hasT c kc) (hop : 3 ≤ op ∧ op ≤ 18) : hasT (opV op a b c) k := by
  unfold opT at h
  unfold opV
  by_cases h1 : op = 3 ∨ op = 13
  · rw [if_pos h1] at h
    rw [if_neg (by omega), if_neg (by omega), if_neg (by omega), if_pos h1]
    split at h
    · injection h with h; subst h; exact nums_T _ _ _
    · cases h
  rw [if_neg h1] at h
  by_cases h2 : op = 8
  · rw [if_pos h2] at h
    rw [if_neg (by omega), if_pos (by omega)]
    split at h
    · injection h with h
      subst h h2
      unfold textV
      (repeat' split) <;> first | exact null_T _ | exact .inr rfl | (exfalso; omega)
    · cases h
  rw [if_neg h2] at h
  by_cases h3 : op = 9
  · rw [if_pos h3] at h
    rw [if_neg (by omega), if_pos (by omega)]
    split at h
    · injection h with h
      subst h h3
      unfold textV
      (repeat' split) <;> first | exact null_T _ | exact numV_T _ | (exfalso; omega)
    · cases h
  rw [if_neg h3] at h
  by_cases h4 : op = 10
  · rw [if_pos h4] at h
    rw [if_neg (by omega), if_pos (by omega)]
    split at h
    · injection h with h
      subst h h4
      unfold textV
      (repeat' split) <;> first | exact null_T _ | exact .inr rfl | (exfalso; omega)
    · cases h
  rw [if_neg h4] at h
  by_cases h5 : op = 11 ∨ op = 12
  · rw [if_pos h5] at h
    rw [if_neg (by omega), if_neg (by omega), if_pos h5]
    split at h
    · injection h with h
      subst h
      unfold compV
      (repeat' split) <;> first | exact null_T _ | exact truthV_T _
    · cases h
  rw [if_neg h5] at h
  by_cases h6 : op = 16
  · rw [if_pos h6] at h
    rw [if_pos (by omega)]
    injection h with h
    subst h h6
    unfold lenientV
    rw [if_neg (by omega), if_neg (by omega), if_pos rfl]
    exact truthV_T _
  rw [if_neg h6] at h
  by_cases h7 : op = 17
  · rw [if_pos h7] at h
    rw [if_pos (by omega)]
    split at h
    · rename_i hab
      injection h with h
      subst h h7 hab
      unfold lenientV
      rw [if_neg (by omega), if_neg (by omega), if_neg (by omega), if_pos rfl]
      split
      · exact hb
      · exact ha
    · cases h
  rw [if_neg h7] at h
  by_cases h8 : op = 18
  · rw [if_pos h8] at h
    rw [if_pos (by omega)]
    split at h
    · rename_i hbc
      injection h with h
      subst h h8
      unfold lenientV
      rw [if_neg (by omega), if_neg (by omega), if_neg (by omega), if_neg (by omega)]
      split
      · exact hb
      · rw [hbc.2]; exact hc
    · cases h
  rw [if_neg h8] at h
  split at h
  · injection h with h
    subst h
    by_cases h9 : op = 14 ∨ op = 15
    · rw [if_pos (by omega)]
      unfold lenientV andV orV
      (repeat' split) <;> first | exact null_T _ | exact truthV_T _ | (exfalso; omega)
    · rw [if_neg (by omega), if_neg (by omega), if_neg (by omega), if_neg (by omega)]
      exact nums_T _ _ _
  · cases h
theorem cell_T {types : List Int} {row : List V} (hr : rowT types row) (c : Int) (h0 : 0 ≤ c) (hc : ¬ c ≥ types.length) : hasT (cellV row c) (types.getD c.toNat 0) := by
  unfold cellV
  split
  · exact null_T _
  · have h1 : c.toNat < row.length := by omega
    have h2 : c.toNat < types.length := by omega
    rw [List.getElem?_eq_getElem h1, Option.getD_some, List.getD_eq_getElem?_getD, List.getElem?_eq_getElem h2, Option.getD_some]
    have := hr c.toNat _ _ (List.getElem?_eq_getElem h1) (List.getElem?_eq_getElem h2)
    unfold V.cl
    split
    · exact this
    · exact null_T _
theorem getD_T : ∀ (ks : List V) (l : List Int), ks.length = l.length → (∀ (i : Nat) v k, ks[i]? = some v → l[i]? = some k → hasT v k) → ∀ i, hasT (ks.getD i V.null) (l.getD i 0) := by
  intro ks l hl h i
  rw [List.getD_eq_getElem?_getD, List.getD_eq_getElem?_getD]
  rcases Nat.lt_or_ge i ks.length with h1 | h1
  · have h2 : i < l.length := by omega
    rw [List.getElem?_eq_getElem h1, List.getElem?_eq_getElem h2]
    exact h i _ _ (List.getElem?_eq_getElem h1) (List.getElem?_eq_getElem h2)
  · rw [List.getElem?_eq_none h1]
    exact null_T _
theorem term_op {t : T} (h : t.ok = true) : 1 ≤ t.op ∧ t.op ≤ 18 := by
  unfold T.ok at h
  rw [Bool.and_eq_true, decide_eq_true_eq] at h
  exact arity_known h.1
theorem term_col {t : T} (h : t.ok = true) (h2 : t.op = 2) : 0 ≤ t.c ∧ t.v = V.null := by
  unfold T.ok at h
  rw [if_neg (by omega), if_pos h2, Bool.and_eq_true, Bool.and_eq_true, decide_eq_true_eq, decide_eq_true_eq, V.beq_iff] at h
  exact h.2
theorem term_rest {t : T} (h : t.ok = true) (h1 : t.op ≠ 1) (h2 : t.op ≠ 2) : t.c = 0 ∧ t.v = V.null := by
  unfold T.ok at h
  rw [if_neg h1, if_neg h2, Bool.and_eq_true, Bool.and_eq_true, beq_iff_eq, V.beq_iff] at h
  exact h.2
mutual
theorem X.sound (types : List Int) (row : List V) (hr : rowT types row) (x : X) (hw : x.wf = true) (k : Int) (h : x.ty types = .ok k) : hasT (x.ev row) k := by
  match x with
  | .node t ks =>
    simp only [X.wf, Bool.and_eq_true] at hw
    rw [X.ty] at h
    cases hl : tys types ks with
    | error e => rw [hl] at h; cases h
    | ok l =>
      rw [hl] at h
      simp only at h
      have hs := sounds types row hr ks hw.2.2 l hl
      have hlen := tys_len types ks l hl
      have hg := getD_T (evs row ks) l (by rw [evs_len, hlen]) hs
      rw [X.ev]
      unfold termT at h
      unfold termV
      split at h
      · cases h
      · rename_i hc
        split at h
        · rename_i h1
          rw [if_pos h1]
          injection h with h
          exact .inr h
        · rename_i h1
          split at h
          · rename_i h2
            rw [if_neg h1, if_pos h2]
            injection h with h
            subst h
            exact cell_T hr t.c (term_col hw.1 h2).1 (fun hge => hc ⟨h2, hge⟩)
          · rename_i h2
            rw [if_neg h1, if_neg h2]
            have := term_op hw.1
            exact opV_T h (hg 0) (hg 1) (hg 2) (by omega)
theorem sounds (types : List Int) (row : List V) (hr : rowT types row) (xs : List X) (hw : wfs xs = true) (l : List Int) (h : tys types xs = .ok l) : ∀ (i : Nat) v k, (evs row xs)[i]? = some v → l[i]? = some k → hasT v k := by
  match xs with
  | [] => intro i v k hv _; simp [evs] at hv
  | x :: xs =>
    simp only [wfs, Bool.and_eq_true] at hw
    simp only [tys] at h
    cases hx : x.ty types with
    | error e => rw [hx] at h; cases h
    | ok a =>
      rw [hx] at h
      simp only at h
      cases hl : tys types xs with
      | error e => rw [hl] at h; cases h
      | ok l' =>
        rw [hl] at h
        simp at h
        subst h
        have h1 := X.sound types row hr x hw.1 a hx
        have h2 := sounds types row hr xs hw.2 l' hl
        intro i v k hv hk
        cases i with
        | zero => simp [evs] at hv hk; subst hv hk; exact h1
        | succ i => simp [evs] at hv hk; exact h2 i v k hv hk
end
end Go.Proofs.YtojcabnjodfdmaaGreatDoor

namespace Go.Proofs.YtojcabnjodfdmaaGreatDoor

/-- Each column replaced by an item, in the list. -/
def subL (items : List (List T)) (e : List T) : List T := e.flatMap fun t => if t.op = 2 then items.getD t.c.toNat [] else [t]
mutual
def X.sub (its : List X) : X → X | .node t ks => if t.op = 2 then its.getD t.c.toNat (.node t []) else .node t (subs its ks)
def subs (its : List X) : List X → List X
  | [] => []
  | x :: xs => x.sub its :: subs its xs
end
theorem subs_len (its : List X) (xs : List X) : (subs its xs).length = xs.length := by
  induction xs with
  | nil => simp [subs]
  | cons x xs ih => simp [subs, ih]
/-- All columns are below n. -/
def colsIn (n : Nat) (e : List T) : Prop := ∀ t ∈ e, t.op = 2 → t.c < n
theorem ar_col : ar 2 = 0 := by decide
theorem ar_const : ar 1 = 0 := by decide
theorem col_leaf {t : T} {ks : List X} (hw : (X.node t ks).wf = true) (h : t.op = 2) : ks = [] := by
  simp only [X.wf, Bool.and_eq_true, decide_eq_true_eq] at hw
  rw [h, ar_col] at hw
  exact List.eq_nil_of_length_eq_zero hw.2.1
theorem const_leaf {t : T} {ks : List X} (hw : (X.node t ks).wf = true) (h : t.op = 1) : ks = [] := by
  simp only [X.wf, Bool.and_eq_true, decide_eq_true_eq] at hw
  rw [h, ar_const] at hw
  exact List.eq_nil_of_length_eq_zero hw.2.1
mutual
theorem X.sub_flat (its : List X) (x : X) (hw : x.wf = true) (hc : colsIn its.length x.flat) : (x.sub its).flat = subL (its.map X.flat) x.flat := by
  match x with
  | .node t ks =>
    rw [X.sub]
    by_cases h : t.op = 2
    · have hk := col_leaf hw h
      subst hk
      have h1 := hc t (by rw [X.flat_node]; simp) h
      simp only [X.wf, Bool.and_eq_true] at hw
      have h0 := (term_col hw.1 h).1
      have hl : t.c.toNat < its.length := by omega
      rw [if_pos h, X.flat_node, flats]
      unfold subL
      rw [List.flatMap_cons, List.flatMap_nil, if_pos h, List.append_nil, List.getD_eq_getElem?_getD, List.getD_eq_getElem?_getD, List.getElem?_map, List.getElem?_eq_getElem hl]
      rfl
    · simp only [X.wf, Bool.and_eq_true] at hw
      have hs := subs_flat its ks hw.2.2 (fun u hu => hc u (by rw [X.flat_node]; exact List.mem_cons_of_mem _ hu))
      rw [if_neg h, X.flat_node, X.flat_node, hs]
      unfold subL
      rw [List.flatMap_cons, if_neg h]
      rfl
theorem subs_flat (its : List X) (xs : List X) (hw : wfs xs = true) (hc : colsIn its.length (flats xs)) : flats (subs its xs) = subL (its.map X.flat) (flats xs) := by
  match xs with
  | [] => simp [subs, flats, subL]
  | x :: xs =>
    simp only [wfs, Bool.and_eq_true] at hw
    have h1 := X.sub_flat its x hw.1 (fun u hu => hc u (by rw [flats_cons]; exact List.mem_append_left _ hu))
    have h2 := subs_flat its xs hw.2 (fun u hu => hc u (by rw [flats_cons]; exact List.mem_append_right _ hu))
    rw [subs, flats_cons, flats_cons, h1, h2]
    unfold subL
    rw [List.flatMap_append]
end
mutual
theorem X.sub_wf (its : List X) (hi : ∀ y ∈ its, y.wf = true) (x : X) (hw : x.wf = true) : (x.sub its).wf = true := by
  match x with
  | .node t ks =>
    rw [X.sub]
    split
    · rename_i h
      rw [List.getD_eq_getElem?_getD]
      cases h1 : its[t.c.toNat]? with
      | none =>
        have hk := col_leaf hw h
        subst hk
        exact hw
      | some y => exact hi y (List.mem_of_getElem? h1)
    · simp only [X.wf, Bool.and_eq_true, decide_eq_true_eq] at hw ⊢
      exact ⟨hw.1, by rw [subs_len]; exact hw.2.1, subs_wf its hi ks hw.2.2⟩
theorem subs_wf (its : List X) (hi : ∀ y ∈ its, y.wf = true) (xs : List X) (hw : wfs xs = true) : wfs (subs its xs) = true := by
  match xs with
  | [] => simp [subs, wfs]
  | x :: xs =>
    simp only [wfs, Bool.and_eq_true] at hw
    simp only [subs, wfs, Bool.and_eq_true]
    exact ⟨X.sub_wf its hi x hw.1, subs_wf its hi xs hw.2⟩
end
mutual
theorem X.sub_ev (its : List X) (hi : ∀ y ∈ its, y.wf = true) (row : List V) (x : X) (hw : x.wf = true) (hc : colsIn its.length x.flat) : (x.sub its).ev row = x.ev (its.map (X.ev row)) := by
  match x with
  | .node t ks =>
    rw [X.sub]
    by_cases h : t.op = 2
    · have hk := col_leaf hw h
      subst hk
      have h1 := hc t (by rw [X.flat_node]; simp) h
      simp only [X.wf, Bool.and_eq_true] at hw
      have h0 := (term_col hw.1 h).1
      have hl : t.c.toNat < its.length := by omega
      rw [if_pos h]
      conv => rhs; rw [X.ev]
      unfold termV cellV
      rw [if_neg (by omega), if_pos h, if_neg (by simp; omega), List.getD_eq_getElem?_getD, List.getElem?_map, List.getElem?_eq_getElem hl]
      simp only [Option.map_some, Option.getD_some]
      exact (V.cl_of (X.ev_ok row _ (hi _ (List.getElem_mem hl)))).symm
    · simp only [X.wf, Bool.and_eq_true] at hw
      have hs := subs_ev its hi row ks hw.2.2 (fun u hu => hc u (by rw [X.flat_node]; exact List.mem_cons_of_mem _ hu))
      rw [if_neg h, X.ev, X.ev, hs]
      unfold termV
      rw [if_neg h, if_neg h]
theorem subs_ev (its : List X) (hi : ∀ y ∈ its, y.wf = true) (row : List V) (xs : List X) (hw : wfs xs = true) (hc : colsIn its.length (flats xs)) : evs row (subs its xs) = evs (its.map (X.ev row)) xs := by
  match xs with
  | [] => simp [subs, evs]
  | x :: xs =>
    simp only [wfs, Bool.and_eq_true] at hw
    have h1 := X.sub_ev its hi row x hw.1 (fun u hu => hc u (by rw [flats_cons]; exact List.mem_append_left _ hu))
    have h2 := subs_ev its hi row xs hw.2 (fun u hu => hc u (by rw [flats_cons]; exact List.mem_append_right _ hu))
    rw [subs, evs, evs, h1, h2]
end
mutual
/-- The value depends on the columns that occur only. -/
theorem X.ev_cols (a b : List V) (x : X) (hc : ∀ t ∈ x.flat, t.op = 2 → cellV a t.c = cellV b t.c) : x.ev a = x.ev b := by
  match x with
  | .node t ks =>
    have hs := evs_cols a b ks (fun u hu => hc u (by rw [X.flat_node]; exact List.mem_cons_of_mem _ hu))
    rw [X.ev, X.ev, hs]
    unfold termV
    by_cases h : t.op = 2
    · have h1 : ¬ t.op = 1 := by omega
      rw [if_neg h1, if_neg h1, if_pos h, if_pos h]
      exact hc t (by rw [X.flat_node]; simp) h
    · rw [if_neg h, if_neg h]
theorem evs_cols (a b : List V) (xs : List X) (hc : ∀ t ∈ flats xs, t.op = 2 → cellV a t.c = cellV b t.c) : evs a xs = evs b xs := by
  match xs with
  | [] => simp [evs]
  | x :: xs =>
    have h1 := X.ev_cols a b x (fun u hu => hc u (by rw [flats_cons]; exact List.mem_append_left _ hu))
    have h2 := evs_cols a b xs (fun u hu => hc u (by rw [flats_cons]; exact List.mem_append_right _ hu))
    rw [evs, evs, h1, h2]
end

def constX (v : V) : X := .node ⟨1, v, 0⟩ []
def isC (x : X) : Bool := x.t.op == 1
def foldN (t : T) (ks : List X) : X := if t.op ≠ 2 ∧ ks.all isC = true ∧ ((X.node t ks).ev []).k ≠ 0 then constX ((X.node t ks).ev []) else .node t ks
mutual
def X.fold : X → X | .node t ks => foldN t (folds ks)
def folds : List X → List X
  | [] => []
  | x :: xs => x.fold :: folds xs
end
theorem folds_snoc (xs : List X) (x : X) : folds (xs ++ [x]) = folds xs ++ [x.fold] := by
  induction xs with
  | nil => simp [folds]
  | cons y ys ih => simp [folds, ih]
theorem folds_len (xs : List X) : (folds xs).length = xs.length := by
  induction xs with
  | nil => simp [folds]
  | cons y ys ih => simp [folds, ih]
theorem constX_wf {v : V} (h : v.ok = true) (hk : v.k ≠ 0) : (constX v).wf = true := by
  unfold constX
  simp only [X.wf, wfs, Bool.and_eq_true, decide_eq_true_eq, List.length_nil]
  refine ⟨?_, by decide, trivial⟩
  unfold T.ok
  simp only [Bool.and_eq_true, decide_eq_true_eq]
  refine ⟨by decide, ?_⟩
  rw [if_pos trivial]
  simp [h, hk]
theorem foldN_wf {t : T} {ks : List X} (h : (X.node t ks).wf = true) : (foldN t ks).wf = true := by
  unfold foldN
  split
  · rename_i hh; exact constX_wf (X.ev_ok [] _ h) hh.2.2
  · exact h
mutual
theorem X.fold_wf (x : X) (hw : x.wf = true) : x.fold.wf = true := by
  match x with
  | .node t ks =>
    rw [X.fold]
    apply foldN_wf
    simp only [X.wf, Bool.and_eq_true, decide_eq_true_eq] at hw ⊢
    exact ⟨hw.1, by rw [folds_len]; exact hw.2.1, folds_wf ks hw.2.2⟩
theorem folds_wf (xs : List X) (hw : wfs xs = true) : wfs (folds xs) = true := by
  match xs with
  | [] => simp [folds, wfs]
  | x :: xs =>
    simp only [wfs, Bool.and_eq_true] at hw
    simp only [folds, wfs, Bool.and_eq_true]
    exact ⟨X.fold_wf x hw.1, folds_wf xs hw.2⟩
end
theorem node_folds {t : T} {ks : List X} (hw : (X.node t ks).wf = true) : (X.node t (folds ks)).wf = true := by
  simp only [X.wf, Bool.and_eq_true, decide_eq_true_eq] at hw ⊢
  exact ⟨hw.1, by rw [folds_len]; exact hw.2.1, folds_wf ks hw.2.2⟩
theorem isC_ev {x : X} (hw : x.wf = true) (h : isC x = true) (row : List V) : x.ev row = x.t.v := by
  cases x with
  | node t ks =>
    have h1 : t.op = 1 := by simpa [isC, X.t] using h
    rw [X.ev]
    unfold termV
    rw [if_pos h1]
    rfl
theorem evs_const : ∀ (ks : List X), wfs ks = true → ks.all isC = true → ∀ (a b : List V), evs a ks = evs b ks := by
  intro ks
  induction ks with
  | nil => intro _ _ a b; simp [evs]
  | cons x xs ih =>
    intro hw hc a b
    simp only [wfs, Bool.and_eq_true] at hw
    simp only [List.all_cons, Bool.and_eq_true] at hc
    simp only [evs]
    rw [isC_ev hw.1 hc.1 a, isC_ev hw.1 hc.1 b, ih hw.2 hc.2 a b]
theorem foldN_ev {t : T} {ks : List X} (hw : (X.node t ks).wf = true) (row : List V) : (foldN t ks).ev row = (X.node t ks).ev row := by
  unfold foldN
  split
  · rename_i h
    have hk : wfs ks = true := by simp only [X.wf, Bool.and_eq_true] at hw; exact hw.2.2
    have e : (X.node t ks).ev row = (X.node t ks).ev [] := by
      rw [X.ev, X.ev, evs_const ks hk h.2.1 row []]
      unfold termV
      rw [if_neg h.1, if_neg h.1]
    rw [e]
    unfold constX
    rw [X.ev]
    unfold termV
    rw [if_pos rfl]
  · rfl
mutual
theorem X.fold_ev (x : X) (hw : x.wf = true) (row : List V) : x.fold.ev row = x.ev row := by
  match x with
  | .node t ks =>
    have hn := node_folds hw
    simp only [X.wf, Bool.and_eq_true] at hw
    rw [X.fold, foldN_ev hn, X.ev, X.ev, folds_ev ks hw.2.2 row]
theorem folds_ev (xs : List X) (hw : wfs xs = true) (row : List V) : evs row (folds xs) = evs row xs := by
  match xs with
  | [] => simp [folds]
  | x :: xs =>
    simp only [wfs, Bool.and_eq_true] at hw
    rw [folds, evs, evs, X.fold_ev x hw.1 row, folds_ev xs hw.2 row]
end
theorem const_fold {v : V} (h : v.k ≠ 0) : (constX v).fold = constX v := by
  unfold constX
  rw [X.fold, folds]
  unfold foldN
  have e : (X.node ⟨1, v, 0⟩ []).ev [] = v := by rw [X.ev]; unfold termV; rw [if_pos rfl]
  rw [if_pos ⟨by simp, rfl, by rw [e]; exact h⟩, e]
  rfl
mutual
theorem X.fold_fold (x : X) : x.fold.fold = x.fold := by
  match x with
  | .node t ks =>
    rw [X.fold]
    by_cases h : t.op ≠ 2 ∧ (folds ks).all isC = true ∧ ((X.node t (folds ks)).ev []).k ≠ 0
    · have e : foldN t (folds ks) = constX ((X.node t (folds ks)).ev []) := by unfold foldN; rw [if_pos h]
      rw [e, const_fold h.2.2]
    · have e : foldN t (folds ks) = .node t (folds ks) := by unfold foldN; rw [if_neg h]
      rw [e, X.fold, folds_folds ks, e]
theorem folds_folds (xs : List X) : folds (folds xs) = folds xs := by
  match xs with
  | [] => simp [folds]
  | x :: xs => rw [folds, folds, X.fold_fold x, folds_folds xs]
end
theorem foldN_size (t : T) (ks : List X) : (foldN t ks).flat.length ≤ (X.node t ks).flat.length ∧ (foldN t ks).depth ≤ (X.node t ks).depth := by
  unfold foldN
  split
  · unfold constX
    simp only [X.flat_node, X.depth, flats, deepest, List.length_cons, List.length_nil]
    omega
  · exact ⟨Nat.le_refl _, Nat.le_refl _⟩
mutual
theorem X.fold_size (x : X) : x.fold.flat.length ≤ x.flat.length ∧ x.fold.depth ≤ x.depth := by
  match x with
  | .node t ks =>
    have h1 := foldN_size t (folds ks)
    have h2 := folds_size ks
    rw [X.fold]
    simp only [X.flat_node, X.depth, List.length_cons] at h1 ⊢
    omega
theorem folds_size (xs : List X) : (flats (folds xs)).length ≤ (flats xs).length ∧ deepest (folds xs) ≤ deepest xs := by
  match xs with
  | [] => simp [folds]
  | x :: xs =>
    have h1 := X.fold_size x
    have h2 := folds_size xs
    simp only [folds, flats_cons, deepest, List.length_append]
    omega
end
mutual
theorem X.fold_ty (types : List Int) (x : X) (hw : x.wf = true) (k : Int) (h : x.ty types = .ok k) : x.fold.ty types = .ok k := by
  match x with
  | .node t ks =>
    have hn := node_folds hw
    simp only [X.wf, Bool.and_eq_true] at hw
    have hty : (X.node t (folds ks)).ty types = .ok k := by
      rw [X.ty] at h ⊢
      cases hl : tys types ks with
      | error e => rw [hl] at h; cases h
      | ok l => rw [hl] at h; rw [folds_ty types ks hw.2.2 l hl]; exact h
    rw [X.fold]
    unfold foldN
    split
    · rename_i hc
      have hs := X.sound types [] (fun i v k h => by simp at h) _ hn k hty
      rcases hs with hs | hs
      · exact absurd hs hc.2.2
      · unfold constX
        rw [X.ty, tys]
        simp only
        unfold termT
        rw [if_neg (by simp), if_pos rfl]
        rw [hs]
    · exact hty
theorem folds_ty (types : List Int) (xs : List X) (hw : wfs xs = true) (l : List Int) (h : tys types xs = .ok l) : tys types (folds xs) = .ok l := by
  match xs with
  | [] => simpa [folds] using h
  | x :: xs =>
    simp only [wfs, Bool.and_eq_true] at hw
    simp only [tys] at h
    cases hx : x.ty types with
    | error e => rw [hx] at h; cases h
    | ok a =>
      rw [hx] at h
      simp only at h
      cases hl : tys types xs with
      | error e => rw [hl] at h; cases h
      | ok l' =>
        rw [hl] at h
        simp only [folds, tys]
        rw [X.fold_ty types x hw.1 a hx]
        simp only
        rw [folds_ty types xs hw.2 l' hl]
        exact h
end
end Go.Proofs.YtojcabnjodfdmaaGreatDoor

namespace Go.Proofs.YtojcabnjodfdmaaGreatDoor

/-- A number into an ascending list without duplicates. -/
def addL : List Int → Int → List Int
  | [], n => [n]
  | a :: l, n => if a < n then a :: addL l n else if a = n then a :: l else n :: a :: l
def colsL (e : List T) : List Int := (e.filter fun t => t.op == 2).map T.c
def colsA (e : List T) : List Int := (colsL e).foldl addL []
def asc : List Int → Prop
  | [] => True
  | [_] => True
  | a :: b :: l => a < b ∧ asc (b :: l)
theorem asc_tail {a : Int} {l : List Int} (h : asc (a :: l)) : asc l := by
  cases l with
  | nil => trivial
  | cons b l => exact h.2
theorem asc_lt : ∀ {l : List Int} {a : Int}, asc (a :: l) → ∀ x ∈ l, a < x := by
  intro l
  induction l with
  | nil => intro a _ x hx; cases hx
  | cons b l ih =>
    intro a h x hx
    rcases List.mem_cons.1 hx with rfl | hx
    · exact h.1
    · have := ih h.2 x hx
      have := h.1
      omega
theorem asc_cons {a : Int} {l : List Int} (h : asc l) (ha : ∀ x ∈ l, a < x) : asc (a :: l) := by
  cases l with
  | nil => trivial
  | cons b l => exact ⟨ha b (by simp), h⟩
theorem asc_unique : ∀ (l m : List Int), asc l → asc m → (∀ x, x ∈ l ↔ x ∈ m) → l = m := by
  intro l
  induction l with
  | nil =>
    intro m _ _ h
    cases m with
    | nil => rfl
    | cons b m => have := (h b).2 (by simp); cases this
  | cons a l ih =>
    intro m hl hm h
    cases m with
    | nil => have := (h a).1 (by simp); cases this
    | cons b m =>
      have hab : a = b := by
        have h1 := (h a).1 (by simp)
        have h2 := (h b).2 (by simp)
        rcases List.mem_cons.1 h1 with e | e
        · exact e
        · rcases List.mem_cons.1 h2 with e2 | e2
          · exact e2.symm
          · have := asc_lt hm a e
            have := asc_lt hl b e2
            omega
      subst hab
      congr 1
      apply ih m (asc_tail hl) (asc_tail hm)
      intro x
      have hx := h x
      simp only [List.mem_cons] at hx
      constructor
      · intro h1
        have := asc_lt hl x h1
        rcases hx.1 (.inr h1) with e | e
        · omega
        · exact e
      · intro h1
        have := asc_lt hm x h1
        rcases hx.2 (.inr h1) with e | e
        · omega
        · exact e
theorem addL_mem : ∀ (l : List Int) (n x : Int), x ∈ addL l n ↔ x = n ∨ x ∈ l := by
  intro l
  induction l with
  | nil => intro n x; simp [addL]
  | cons a l ih =>
    intro n x
    unfold addL
    split
    · simp only [List.mem_cons, ih]
      constructor
      · rintro (h | h | h) <;> simp [h]
      · rintro (h | h | h) <;> simp [h]
    · split
      · rename_i h; subst h; simp
      · simp
theorem addL_asc : ∀ (l : List Int) (n : Int), asc l → asc (addL l n) := by
  intro l
  induction l with
  | nil => intro n _; trivial
  | cons a l ih =>
    intro n h
    unfold addL
    split
    · rename_i h1
      refine asc_cons (ih n (asc_tail h)) (fun x hx => ?_)
      rcases (addL_mem l n x).1 hx with e | e
      · omega
      · exact asc_lt h x e
    · split
      · exact h
      · exact ⟨by omega, h⟩
theorem foldl_add : ∀ (e l : List Int), asc l → asc (e.foldl addL l) ∧ ∀ x, x ∈ e.foldl addL l ↔ x ∈ e ∨ x ∈ l := by
  intro e
  induction e with
  | nil => intro l h; exact ⟨h, fun x => by simp⟩
  | cons a e ih =>
    intro l h
    obtain ⟨h1, h2⟩ := ih (addL l a) (addL_asc l a h)
    refine ⟨h1, fun x => ?_⟩
    rw [List.foldl_cons, h2, addL_mem, List.mem_cons]
    constructor
    · rintro (h | h | h) <;> simp [h]
    · rintro ((h | h) | h) <;> simp [h]
/-- Equal neighbours become one. -/
def compactL : List Int → List Int
  | [] => []
  | [a] => [a]
  | a :: b :: l => if a = b then compactL (b :: l) else a :: compactL (b :: l)
def leAsc : List Int → Prop
  | [] => True
  | [_] => True
  | a :: b :: l => a ≤ b ∧ leAsc (b :: l)
theorem compact_mem : ∀ (l : List Int) (x : Int), x ∈ compactL l ↔ x ∈ l := by
  intro l
  induction l with
  | nil => intro x; simp [compactL]
  | cons a l ih =>
    intro x
    cases l with
    | nil => simp [compactL]
    | cons b l =>
      rw [compactL]
      split
      · rename_i h
        subst h
        rw [ih]
        simp
      · rw [List.mem_cons, ih]; simp
theorem compact_asc : ∀ (l : List Int), leAsc l → asc (compactL l) := by
  intro l
  induction l with
  | nil => intro _; trivial
  | cons a l ih =>
    intro h
    cases l with
    | nil => trivial
    | cons b l =>
      rw [compactL]
      split
      · exact ih h.2
      · rename_i hab
        refine asc_cons (ih h.2) (fun x hx => ?_)
        have hx' := (compact_mem (b :: l) x).1 hx
        have hle : ∀ (m : List Int) (c : Int), leAsc (c :: m) → ∀ y ∈ c :: m, c ≤ y := by
          intro m
          induction m with
          | nil => intro c _ y hy; simp at hy; omega
          | cons d m ihm =>
            intro c hc y hy
            rcases List.mem_cons.1 hy with rfl | hy
            · omega
            · have := ihm d hc.2 y hy
              have := hc.1
              omega
        have := hle l b h.2 x hx'
        have := h.1
        omega
/-- Sorting and compacting gives what inserting one by one gives. -/
theorem sort_compact (e s : List Int) (hs : leAsc s) (hm : ∀ x, x ∈ s ↔ x ∈ e) : compactL s = e.foldl addL [] := by
  obtain ⟨h1, h2⟩ := foldl_add e [] trivial
  refine asc_unique _ _ (compact_asc s hs) h1 (fun x => ?_)
  rw [compact_mem, hm, h2]
  simp

def wordT : List (List UInt8) := [[110, 101, 103, 97, 116, 101], [97, 100, 100], [115, 117, 98, 116, 114, 97, 99, 116], [109, 117, 108, 116, 105, 112, 108, 121], [100, 105, 118, 105, 100, 101], [99, 111, 110, 99, 97, 116], [108, 101, 110, 103, 116, 104], [112, 114, 101, 102, 105, 120], [101, 113, 117, 97, 108], [108, 101, 115, 115], [110, 111, 116], [97, 110, 100], [111, 114], [105, 115, 110, 117, 108, 108], [99, 111, 97, 108, 101, 115, 99, 101], [105, 102]]
def wordL (op : Int) : List UInt8 := wordT.getD (op - 3).toNat []
def joinL : List (List UInt8) → List UInt8
  | [] => []
  | [a] => a
  | a :: b :: l => a ++ [44, 32] ++ joinL (b :: l)
theorem joinL_snoc : ∀ (l : List (List UInt8)) (a : List UInt8), l ≠ [] → joinL (l ++ [a]) = joinL l ++ [44, 32] ++ a := by
  intro l
  induction l with
  | nil => intro a h; exact absurd rfl h
  | cons b l ih =>
    intro a _
    cases l with
    | nil => simp [joinL]
    | cons c l =>
      have := ih a (by simp)
      simp only [List.cons_append, joinL] at this ⊢
      rw [this]
      simp
def termF (names : List ByteArray) (t : T) (l : List (List UInt8)) : List UInt8 :=
  if t.op = 1 then fmtV t.v
  else if t.op = 2 then (if t.c < names.length then (names.getD t.c.toNat ⟨#[]⟩).data.toList else [63])
  else wordL t.op ++ [40] ++ joinL l ++ [41]
mutual
def X.fmt (names : List ByteArray) : X → List UInt8 | .node t ks => termF names t (fmts names ks)
def fmts (names : List ByteArray) : List X → List (List UInt8)
  | [] => []
  | x :: xs => x.fmt names :: fmts names xs
end
theorem fmts_snoc (names : List ByteArray) (xs : List X) (x : X) : fmts names (xs ++ [x]) = fmts names xs ++ [x.fmt names] := by
  induction xs with
  | nil => simp [fmts]
  | cons y ys ih => simp [fmts, ih]
theorem fmts_len (names : List ByteArray) (xs : List X) : (fmts names xs).length = xs.length := by
  induction xs with
  | nil => simp [fmts]
  | cons y ys ih => simp [fmts, ih]
end Go.Proofs.YtojcabnjodfdmaaGreatDoor

namespace Go.Proofs.YtojcabnjodfdmaaGreatDoor

def treeE (l : List T) : Option X := if validE l = true then (readX 16 l).map Prod.fst else none
theorem treeE_bad {l : List T} (h : validE l = false) : treeE l = none := by unfold treeE; rw [h]; rfl
theorem treeE_flat {x : X} (h : x.flat.length ≤ 64) (hw : x.wf = true) (hd : x.depth ≤ 16) : treeE x.flat = some x := by
  have h1 : validE x.flat = true := (validE_iff _).2 ⟨h, x, rfl, hw, hd⟩
  have h2 := readX_flat x [] 16 hw hd
  rw [List.append_nil] at h2
  unfold treeE
  rw [if_pos h1, h2]
  rfl
theorem treeE_ok {l : List T} (h : validE l = true) : ∃ x, treeE l = some x ∧ l = x.flat ∧ x.wf = true ∧ x.depth ≤ 16 ∧ l.length ≤ 64 := by
  obtain ⟨h1, x, rfl, h2, h3⟩ := (validE_iff l).1 h
  exact ⟨x, treeE_flat h1 h2 h3, rfl, h2, h3, h1⟩
def evalE (l : List T) (row : List V) : V := match treeE l with
  | some x => x.ev row
  | none => V.null
def formatE (l : List T) (names : List ByteArray) : List UInt8 := match treeE l with
  | some x => x.fmt names
  | none => []
theorem evalE_ok (l : List T) (row : List V) : (evalE l row).ok = true := by
  cases h : validE l
  · unfold evalE; rw [treeE_bad h]; exact V.null_ok
  · obtain ⟨x, h1, _, h2, _⟩ := treeE_ok h
    unfold evalE; rw [h1]; exact X.ev_ok row x h2
end Go.Proofs.YtojcabnjodfdmaaGreatDoor

namespace Go.Proofs.YtojcabnjodfdmaaGreatDoor
mutual
theorem X.size_le (x : X) (hw : x.wf = true) : 2 * x.flat.length + 1 ≤ 3 ^ x.depth := by
  match x with
  | .node t ks =>
    simp only [X.wf, Bool.and_eq_true, decide_eq_true_eq] at hw
    have h := sizes_le ks hw.2.2
    have ha := ar_le t.op
    rw [X.flat_node, List.length_cons, X.depth, Nat.pow_succ]
    have hp : 1 ≤ 3 ^ deepest ks := Nat.one_le_pow _ _ (by omega)
    have h3 : ks.length ≤ 3 := by omega
    generalize 3 ^ deepest ks = p at h hp
    have hm : ks.length = 0 ∨ ks.length = 1 ∨ ks.length = 2 ∨ ks.length = 3 := by omega
    rcases hm with e | e | e | e <;> rw [e] at h <;> omega
theorem sizes_le (xs : List X) (hw : wfs xs = true) : 2 * (flats xs).length + xs.length ≤ xs.length * 3 ^ deepest xs := by
  match xs with
  | [] => simp [flats]
  | x :: xs =>
    simp only [wfs, Bool.and_eq_true] at hw
    have h1 := X.size_le x hw.1
    have h2 := sizes_le xs hw.2
    rw [flats_cons, List.length_append, List.length_cons, deepest]
    have p1 : 3 ^ x.depth ≤ 3 ^ max x.depth (deepest xs) := Nat.pow_le_pow_right (by omega) (by omega)
    have p2 : 3 ^ deepest xs ≤ 3 ^ max x.depth (deepest xs) := Nat.pow_le_pow_right (by omega) (by omega)
    have p3 := Nat.mul_le_mul_left xs.length p2
    rw [show (xs.length + 1) * 3 ^ max x.depth (deepest xs) = xs.length * 3 ^ max x.depth (deepest xs) + 3 ^ max x.depth (deepest xs) from Nat.succ_mul _ _]
    generalize 3 ^ max x.depth (deepest xs) = q at p1 p2 p3
    generalize 3 ^ deepest xs = q2 at h2 p2 p3
    generalize 3 ^ x.depth = q1 at h1 p1
    generalize xs.length * q = m1 at p3
    generalize xs.length * q2 = m2 at h2 p3
    omega
end
/-- An expression at most four deep has at most forty terms. -/
theorem X.size4 {x : X} (hw : x.wf = true) (hd : x.depth ≤ 4) : x.flat.length ≤ 40 := by
  have h := X.size_le x hw
  have p : 3 ^ x.depth ≤ 3 ^ 4 := Nat.pow_le_pow_right (by omega) hd
  omega
theorem validE_flat {x : X} (hw : x.wf = true) : validE x.flat = (decide (x.flat.length ≤ 64) && decide (x.depth ≤ 16)) := by
  rw [Bool.eq_iff_iff, validE_iff, Bool.and_eq_true, decide_eq_true_eq, decide_eq_true_eq]
  constructor
  · rintro ⟨h1, y, h2, h3, h4⟩
    refine ⟨h1, ?_⟩
    have e1 := readX_flat x [] (max x.depth y.depth) hw (by omega)
    have e2 := readX_flat y [] (max x.depth y.depth) h3 (by omega)
    rw [h2] at e1
    rw [e1] at e2
    simp at e2
    subst e2
    exact h4
  · rintro ⟨h1, h2⟩
    exact ⟨h1, x, rfl, hw, h2⟩
theorem valid4 {x : X} (hw : x.wf = true) (hd : x.depth ≤ 4) : validE x.flat = true := by
  have := X.size4 hw hd
  rw [validE_flat hw]
  simp
  omega
end Go.Proofs.YtojcabnjodfdmaaGreatDoor

namespace Go.Proofs.YtojcabnjodfdmaaGreatDoor
open Go.RowKit

abbrev RowT := @RowOf T T.cells
theorem RowT.at5 {w : World} {B n : Nat} {A : Option Addr} {ts : List T} (h : RowT w B A n ts) {k : Nat} (hk : k < n) :
   ∃ b off t, A = some ⟨b, off, none⟩ ∧ b < B ∧ ts[k]? = some t ∧ w.cell? ⟨b, off + k * 5, none⟩ = some (.int .i64 t.op) ∧ w.cell? ⟨b, off + k * 5 + 1, none⟩ = some (.int .i64 t.v.k) ∧ w.cell? ⟨b, off + k * 5 + 2, none⟩ = some (.int .i64 t.v.n) ∧ w.cell? ⟨b, off + k * 5 + 3, none⟩ = some (.string t.v.s) ∧ w.cell? ⟨b, off + k * 5 + 4, none⟩ = some (.int .i64 t.c) := by
  obtain ⟨b, off, t, h1, h2, h3, h4⟩ := h.at_ 5 (fun _ => rfl) (by omega) hk
  exact ⟨b, off, t, h1, h2, h3, h4 0 _ rfl, h4 1 _ rfl, h4 2 _ rfl, h4 3 _ rfl, h4 4 _ rfl⟩
theorem stT : SliceTy Tryz.prog 23 48 5 48 := SliceTy.mk' Tryz.underlying23 (z := .agg #[.int .i64 0, .int .i64 0, .int .i64 0, .string ⟨#[]⟩, .int .i64 0]) (by kernel_rfl) rfl (by decide) (by decide)

set_option maxHeartbeats 400000 in
theorem xarity (op : Int) (w : World) : Calls Tryz.prog 42 #[.int .i64 op] w fun e w' => e = .returned (.int .i64 (arity op)) ∧ w = w' := by
  go_enter Tryz.func42, Tryz.ntmps42
  go_wp2
  all_goals go_ret
  all_goals refine ⟨ret_int ?_, rfl⟩
  all_goals simp_all [arity]
  all_goals (first | done | omega)
set_option maxHeartbeats 400000 in
theorem rarity (op : Int) (w : World) : Calls Tryz.prog 22 #[.int .i64 op] w fun e w' => e = .returned (.int .i64 (arity op)) ∧ w = w' := by
  go_enter Tryz.func22, Tryz.ntmps22
  go_wp2
  all_goals go_ret
  all_goals refine ⟨ret_int ?_, rfl⟩
  all_goals simp_all [arity]
  all_goals (first | done | omega)
end Go.Proofs.YtojcabnjodfdmaaGreatDoor

namespace Go.Proofs.YtojcabnjodfdmaaGreatDoor
open Go.RowKit

set_option maxRecDepth 100000 in
set_option maxHeartbeats 1000000 in
theorem xvalidTerm (t : T) (w : World) : Calls Tryz.prog 46 #[.agg #[.int .i64 t.op, .int .i64 t.v.k, .int .i64 t.v.n, .string t.v.s, .int .i64 t.c]] w fun e w' => e = .returned (.bool t.ok) ∧ Below w.heap.size w w' := by
  have hA := xarity t.op
  have he := run_eqV t.v.k t.v.n t.v.s 0 0 ⟨#[]⟩
  rw [show eqB t.v.k t.v.n t.v.s 0 0 ⟨#[]⟩ = t.v.beq V.null from rfl] at he
  by_cases ha : arity t.op < 0
  · have HR := Lib.hid (show t.ok = false by unfold T.ok; rw [show decide (0 ≤ arity t.op) = false by simpa using ha]; rfl)
    go_enter Tryz.func46, Tryz.ntmps46
    go_wp2_with (go_at_call 42; refine (hA _).mono ?_; rintro e w1 ⟨rfl, rfl⟩)
    go_ret
    exact ⟨ret_bool HR.out.symm, by (repeat (first | (with_reducible exact Below.refl _ _) | (with_reducible assumption) | (with_reducible refine Below.drew ?_) | (with_reducible refine below_drewN ?_ _) | ((with_reducible refine Below.setCell ?_ ?_ _); rotate_left; (focus (first | (simp; done) | (simp; omega) | omega))) | ((with_reducible refine Below.alloc ?_ ?_ _); rotate_left; (focus (first | (simp; done) | (simp; omega) | omega))) | ((with_reducible apply below_step1); (focus (with_reducible assumption)))))⟩
  have hk : decide (0 ≤ arity t.op) = true := by simp; omega
  by_cases h1 : t.op = 1
  · have t1 : (t.op == 1) = true := by simpa using h1
    have HT := Lib.hid (show t.ok = (t.c == 0 && (t.v.k != 0 && t.v.ok)) by unfold T.ok; rw [hk, if_pos h1]; rfl)
    clear h1 hk
    go_enter Tryz.func46, Tryz.ntmps46
    go_wp2_with (first
      | (go_at_call 42; refine (hA _).mono ?_; rintro e w1 ⟨rfl, rfl⟩)
      | (go_at_call 64; refine (vvalid t.v _).mono ?_; rintro e w2 ⟨rfl, hb2⟩))
    all_goals go_ret
    all_goals refine ⟨ret_bool ?_, by (repeat (first | (with_reducible exact Below.refl _ _) | (with_reducible assumption) | (with_reducible refine Below.drew ?_) | (with_reducible refine below_drewN ?_ _) | ((with_reducible refine Below.setCell ?_ ?_ _); rotate_left; (focus (first | (simp; done) | (simp; omega) | omega))) | ((with_reducible refine Below.alloc ?_ ?_ _); rotate_left; (focus (first | (simp; done) | (simp; omega) | omega))) | ((with_reducible apply below_step1); (focus (with_reducible assumption)))))⟩
    all_goals rw [HT.out]
    all_goals simp_all
  have t1 : (t.op == 1) = false := by simpa using h1
  by_cases h2 : t.op = 2
  · have t2 : (t.op == 2) = true := by simpa using h2
    have HT := Lib.hid (show t.ok = (decide (0 ≤ t.c) && t.v.beq V.null) by unfold T.ok; rw [hk, if_neg h1, if_pos h2]; rfl)
    clear h1 h2 hk
    generalize t.v.beq V.null = nb at he HT
    go_enter Tryz.func46, Tryz.ntmps46
    go_wp2_with (go_at_call 42; refine (hA _).mono ?_; rintro e w1 ⟨rfl, rfl⟩)
    all_goals go_ret
    all_goals refine ⟨ret_bool ?_, by (repeat (first | (with_reducible exact Below.refl _ _) | (with_reducible assumption) | (with_reducible refine Below.drew ?_) | (with_reducible refine below_drewN ?_ _) | ((with_reducible refine Below.setCell ?_ ?_ _); rotate_left; (focus (first | (simp; done) | (simp; omega) | omega))) | ((with_reducible refine Below.alloc ?_ ?_ _); rotate_left; (focus (first | (simp; done) | (simp; omega) | omega))) | ((with_reducible apply below_step1); (focus (with_reducible assumption)))))⟩
    all_goals rw [HT.out]
    all_goals simp_all
    all_goals (intro h; exfalso; omega)
  · have t2 : (t.op == 2) = false := by simpa using h2
    have HT := Lib.hid (show t.ok = (t.c == 0 && t.v.beq V.null) by unfold T.ok; rw [hk, if_neg h1, if_neg h2]; rfl)
    clear h1 h2 hk
    generalize t.v.beq V.null = nb at he HT
    go_enter Tryz.func46, Tryz.ntmps46
    go_wp2_with (go_at_call 42; refine (hA _).mono ?_; rintro e w1 ⟨rfl, rfl⟩)
    all_goals go_ret
    all_goals refine ⟨ret_bool ?_, by (repeat (first | (with_reducible exact Below.refl _ _) | (with_reducible assumption) | (with_reducible refine Below.drew ?_) | (with_reducible refine below_drewN ?_ _) | ((with_reducible refine Below.setCell ?_ ?_ _); rotate_left; (focus (first | (simp; done) | (simp; omega) | omega))) | ((with_reducible refine Below.alloc ?_ ?_ _); rotate_left; (focus (first | (simp; done) | (simp; omega) | omega))) | ((with_reducible apply below_step1); (focus (with_reducible assumption)))))⟩
    all_goals rw [HT.out]
    all_goals simp_all
end Go.Proofs.YtojcabnjodfdmaaGreatDoor

namespace Go.Proofs.YtojcabnjodfdmaaGreatDoor
open Go.RowKit

def MPost (w : World) (x : Nat × Nat) (e : Ending) (w' : World) : Prop := e = .returned (.tuple #[.int .i64 (x.1 : Int), .int .i64 (x.2 : Int)]) ∧ Below w.heap.size w w'
def MRel (w : World) (es : List T) (pos : Nat) (n : Nat) (v6 v7 v31 : Value) (wr : World) : Prop := ∃ i d e : Nat, v31 = .int .i64 i ∧ v6 = .int .i64 d ∧ v7 = .int .i64 e ∧ i ≤ n ∧ d ≤ es.length ∧ e ≤ es.length ∧ Rd3 (es.length - 1) es (pos + 1) i d e ∧ Below w.heap.size w wr
set_option maxRecDepth 100000 in
set_option maxHeartbeats 1000000 in
theorem xmeasure (A : Option Addr) (n c : Nat) (es : List T) (hn : n ≤ 1000) : ∀ (m pos : Nat) (w : World), n - pos ≤ m → pos ≤ n → RowT w w.heap.size A n es → Calls Tryz.prog 28 #[.slice A n c, .int .i64 (pos : Int)] w (MPost w (measO es pos)) := by
  intro m
  induction m with
  | zero =>
    intro pos w hm hp hr
    have hl := hr.len
    have HR := Lib.hid (measO_over (es := es) (pos := pos) (by omega))
    have h1 : (n : Int) ≤ (pos : Int) := by omega
    go_enter Tryz.func28, Tryz.ntmps28
    go_wp2_with fail
    refine bodyPost_ret (by simp [results, Tryz.results28, go_sem]; rfl) rfl ?_
    unfold MPost
    rw [HR.out]
    exact ⟨rfl, by (repeat (first | (with_reducible exact Below.refl _ _) | (with_reducible assumption) | (with_reducible refine Below.drew ?_) | (with_reducible refine below_drewN ?_ _) | ((with_reducible refine Below.setCell ?_ ?_ _); rotate_left; (focus (first | (simp; done) | (simp; omega) | omega))) | ((with_reducible refine Below.alloc ?_ ?_ _); rotate_left; (focus (first | (simp; done) | (simp; omega) | omega))) | ((with_reducible apply below_step1); (focus (with_reducible assumption)))))⟩
  | succ m ih =>
    intro pos w hm hp hr
    have hl := hr.len
    have HLN := Lib.hid hl
    by_cases hlt : pos < n
    case neg =>
      have HR := Lib.hid (measO_over (es := es) (pos := pos) (by omega))
      have h1 : (n : Int) ≤ (pos : Int) := by omega
      clear hl
      go_enter Tryz.func28, Tryz.ntmps28
      go_wp2_with fail
      refine bodyPost_ret (by simp [results, Tryz.results28, go_sem]; rfl) rfl ?_
      unfold MPost
      rw [HR.out]
      exact ⟨rfl, by (repeat (first | (with_reducible exact Below.refl _ _) | (with_reducible assumption) | (with_reducible refine Below.drew ?_) | (with_reducible refine below_drewN ?_ _) | ((with_reducible refine Below.setCell ?_ ?_ _); rotate_left; (focus (first | (simp; done) | (simp; omega) | omega))) | ((with_reducible refine Below.alloc ?_ ?_ _); rotate_left; (focus (first | (simp; done) | (simp; omega) | omega))) | ((with_reducible apply below_step1); (focus (with_reducible assumption)))))⟩
    case pos =>
      obtain ⟨b, off, t, rfl, hb, ht, c0, c1, c2, c3, c4⟩ := RowT.at5 hr hlt
      have HT := Lib.hid ht
      have h1 : ¬ (n : Int) ≤ (pos : Int) := by omega
      have hp0 : (0 : Int) ≤ (pos : Int) := by omega
      have hp1 : (pos : Int) < (n : Int) := by omega
      clear ht hl
      cases hok : t.ok
      · have HK := Lib.hid hok
        have HR := Lib.hid (measO_bad HT.out hok)
        clear hok
        go_enter Tryz.func28, Tryz.ntmps28
        go_wp2_with (go_at_call 46; refine (xvalidTerm t _).mono ?_; rintro e w1 ⟨rfl, hb1⟩; rw [HK.out])
        refine bodyPost_ret (by simp [results, Tryz.results28, go_sem]; rfl) rfl ?_
        unfold MPost
        rw [HR.out]
        exact ⟨rfl, by (repeat (first | (with_reducible exact Below.refl _ _) | (with_reducible assumption) | (with_reducible refine Below.drew ?_) | (with_reducible refine below_drewN ?_ _) | ((with_reducible refine Below.setCell ?_ ?_ _); rotate_left; (focus (first | (simp; done) | (simp; omega) | omega))) | ((with_reducible refine Below.alloc ?_ ?_ _); rotate_left; (focus (first | (simp; done) | (simp; omega) | omega))) | ((with_reducible apply below_step1); (focus (with_reducible assumption)))))⟩
      · have HK := Lib.hid hok
        clear hok
        have har := arity_range t.op
        have hak : 0 ≤ arity t.op := by
          have := HK.out
          unfold T.ok at this
          rw [Bool.and_eq_true, decide_eq_true_eq] at this
          exact this.1
        have HN := Lib.hid (show (ar t.op : Int) = arity t.op by unfold ar; omega)
        have hpw : IntKind.i64.wrap ((pos : Int) + 1) = (pos : Int) + 1 := IntWalk.i64_in _ (by omega)
        go_enter Tryz.func28, Tryz.ntmps28
        go_wp2_with (first
          | (go_at_call 46; refine (xvalidTerm t _).mono ?_; rintro e w1 ⟨rfl, hb1⟩; rw [HK.out]; obtain ⟨hc1, hf1⟩ := bcell hb1; have hz1 := (hb1).size; (try simp at hz1))
          | (go_at_call 42; refine (xarity t.op _).mono ?_; rintro e w2 ⟨rfl, rfl⟩))
        have hspos : pos + 1 ≤ es.length := by rw [HLN.out]; omega
        go_loopw [6, 7, 31] (fun v6 v7 v31 wr => MRel w es pos (ar t.op) v6 v7 v31 wr) (fun _ _ v31 _ => ar t.op - (intOf v31).toNat)
        case atStart => exact ⟨0, 0, pos + 1, rfl, rfl, by go_num, Nat.zero_le _, Nat.zero_le _, hspos, Rd3.start _ _ _, by (repeat (first | (with_reducible exact Below.refl _ _) | (with_reducible assumption) | (with_reducible refine Below.drew ?_) | (with_reducible refine below_drewN ?_ _) | ((with_reducible refine Below.setCell ?_ ?_ _); rotate_left; (focus (first | (simp; done) | (simp; omega) | omega))) | ((with_reducible refine Below.alloc ?_ ?_ _); rotate_left; (focus (first | (simp; done) | (simp; omega) | omega))) | ((with_reducible apply below_step1); (focus (with_reducible assumption)))))⟩
        case round =>
          obtain ⟨i, d, e, rfl, rfl, rfl, hi, hd, he, hR, hbel⟩ := hrel
          have hle := hR.le
          have HR := Lib.hid hR
          clear hR
          have hzz := hbel.size
          by_cases hlt2 : i < ar t.op
          · have hia : (i : Int) < arity t.op := by have := HN.out; omega
            have ihe := ih e wr (by have := HLN.out; omega) (by have := HLN.out; omega) ((hr.below hbel).more hzz)
            have hml := measO_le he
            have HS := Lib.hid (fun h => meas_step HR.out h)
            have HF := Lib.hid (fun h => meas_fail HT.out HK.out HR.out h hlt2)
            obtain ⟨y, hy⟩ : ∃ y, measO es e = y := ⟨_, rfl⟩
            rw [hy] at ihe hml HS HF
            clear hy hlt2
            obtain ⟨dp, nx⟩ := y
            simp only at hml
            by_cases hdp : dp = 0
            · have hdz : ((dp : Int) == 0) = true := by simpa using hdp
              have HD := Lib.hid (HF.out hdp)
              clear hdp
              go_wp2_with (go_at_call 28; refine ihe.mono ?_; rintro e2 w2 ⟨rfl, hb2⟩)
              refine bodyPost_ret (by simp [results, Tryz.results28, go_sem]; rfl) rfl ?_
              unfold MPost
              rw [HD.out]
              exact ⟨rfl, by (repeat (first | (with_reducible exact Below.refl _ _) | (with_reducible assumption) | (with_reducible refine Below.drew ?_) | (with_reducible refine below_drewN ?_ _) | ((with_reducible refine Below.setCell ?_ ?_ _); rotate_left; (focus (first | (simp; done) | (simp; omega) | omega))) | ((with_reducible refine Below.alloc ?_ ?_ _); rotate_left; (focus (first | (simp; done) | (simp; omega) | omega))) | ((with_reducible apply below_step1); (focus (with_reducible assumption)))))⟩
            · have hdz : ((dp : Int) == 0) = false := by simpa using hdp
              have HD := Lib.hid (HS.out hdp)
              clear hdp
              have hmax : max (d : Int) (dp : Int) = ((max d dp : Nat) : Int) := by omega
              go_wp2_with (go_at_call 28; refine ihe.mono ?_; rintro e2 w2 ⟨rfl, hb2⟩)
              go_roundw
              case rel => exact ⟨i + 1, max d dp, nx, by go_num, val_int (by omega), rfl, by have := HN.out; omega, by omega, hml.2.2, HD.out, by (repeat (first | (with_reducible exact Below.refl _ _) | (with_reducible assumption) | (with_reducible refine Below.drew ?_) | (with_reducible refine below_drewN ?_ _) | ((with_reducible refine Below.setCell ?_ ?_ _); rotate_left; (focus (first | (simp; done) | (simp; omega) | omega))) | ((with_reducible refine Below.alloc ?_ ?_ _); rotate_left; (focus (first | (simp; done) | (simp; omega) | omega))) | ((with_reducible apply below_step1); (focus (with_reducible assumption)))))⟩
              case measure => simp [intOf]; have := HN.out; omega
          · have hia : ¬ (i : Int) < arity t.op := by have := HN.out; omega
            have hieq : i = ar t.op := by omega
            subst hieq
            have HD := Lib.hid (meas_done HT.out HK.out HR.out)
            clear hlt2
            have hlen := HLN.out
            have hdw : IntKind.i64.wrap ((d : Int) + 1) = (d : Int) + 1 := IntWalk.i64_in _ (by omega)
            clear hlen
            go_wp2_with fail
            refine bodyPost_ret (by simp [results, Tryz.results28, go_sem]; rfl) rfl ?_
            unfold MPost
            rw [HD.out]
            exact ⟨by go_num, by (repeat (first | (with_reducible exact Below.refl _ _) | (with_reducible assumption) | (with_reducible refine Below.drew ?_) | (with_reducible refine below_drewN ?_ _) | ((with_reducible refine Below.setCell ?_ ?_ _); rotate_left; (focus (first | (simp; done) | (simp; omega) | omega))) | ((with_reducible refine Below.alloc ?_ ?_ _); rotate_left; (focus (first | (simp; done) | (simp; omega) | omega))) | ((with_reducible apply below_step1); (focus (with_reducible assumption)))))⟩
end Go.Proofs.YtojcabnjodfdmaaGreatDoor

namespace Go.Proofs.YtojcabnjodfdmaaGreatDoor
open Go.RowKit

set_option maxRecDepth 100000 in
set_option maxHeartbeats 1000000 in
theorem rfields (t : T) (w : World) : Calls Tryz.prog 59 #[.agg #[.int .i64 t.op, .int .i64 t.v.k, .int .i64 t.v.n, .string t.v.s, .int .i64 t.c]] w fun e w' => e = .returned (.bool t.fok) ∧ Below w.heap.size w w' := by
  have he := run_eqV t.v.k t.v.n t.v.s 0 0 ⟨#[]⟩
  rw [show eqB t.v.k t.v.n t.v.s 0 0 ⟨#[]⟩ = t.v.beq V.null from rfl] at he
  by_cases h1 : t.op = 1
  · have t1 : (t.op == 1) = true := by simpa using h1
    have HT := Lib.hid (show t.fok = (t.c == 0 && (t.v.k != 0 && t.v.ok)) by unfold T.fok; rw [if_pos h1])
    clear h1
    go_enter Tryz.func59, Tryz.ntmps59
    go_wp2_with (go_at_call 74; refine (rvalid t.v _).mono ?_; rintro e w2 ⟨rfl, hb2⟩; obtain ⟨hc2, hf2⟩ := bcell hb2; have hz2 := (hb2).size; (try simp at hz2))
    all_goals go_ret
    all_goals refine ⟨ret_bool ?_, by (repeat (first | (with_reducible exact Below.refl _ _) | (with_reducible assumption) | (with_reducible refine Below.drew ?_) | (with_reducible refine below_drewN ?_ _) | ((with_reducible refine Below.setCell ?_ ?_ _); rotate_left; (focus (first | (simp; done) | (simp; omega) | omega))) | ((with_reducible refine Below.alloc ?_ ?_ _); rotate_left; (focus (first | (simp; done) | (simp; omega) | omega))) | ((with_reducible apply below_step1); (focus (with_reducible assumption)))))⟩
    all_goals rw [HT.out]
    all_goals simp_all
    all_goals exact Bool.and_comm _ _
  have t1 : (t.op == 1) = false := by simpa using h1
  by_cases h2 : t.op = 2
  · have t2 : (t.op == 2) = true := by simpa using h2
    have HT := Lib.hid (show t.fok = (decide (0 ≤ t.c) && t.v.beq V.null) by unfold T.fok; rw [if_neg h1, if_pos h2])
    clear h1 h2
    generalize t.v.beq V.null = nb at he HT
    go_enter Tryz.func59, Tryz.ntmps59
    go_wp2_with fail
    all_goals go_ret
    all_goals refine ⟨ret_bool ?_, by (repeat (first | (with_reducible exact Below.refl _ _) | (with_reducible assumption) | (with_reducible refine Below.drew ?_) | (with_reducible refine below_drewN ?_ _) | ((with_reducible refine Below.setCell ?_ ?_ _); rotate_left; (focus (first | (simp; done) | (simp; omega) | omega))) | ((with_reducible refine Below.alloc ?_ ?_ _); rotate_left; (focus (first | (simp; done) | (simp; omega) | omega))) | ((with_reducible apply below_step1); (focus (with_reducible assumption)))))⟩
    all_goals rw [HT.out]
    all_goals simp_all
  · have t2 : (t.op == 2) = false := by simpa using h2
    have HT := Lib.hid (show t.fok = (t.c == 0 && t.v.beq V.null) by unfold T.fok; rw [if_neg h1, if_neg h2])
    clear h1 h2
    generalize t.v.beq V.null = nb at he HT
    go_enter Tryz.func59, Tryz.ntmps59
    go_wp2_with fail
    all_goals go_ret
    all_goals refine ⟨ret_bool ?_, by (repeat (first | (with_reducible exact Below.refl _ _) | (with_reducible assumption) | (with_reducible refine Below.drew ?_) | (with_reducible refine below_drewN ?_ _) | ((with_reducible refine Below.setCell ?_ ?_ _); rotate_left; (focus (first | (simp; done) | (simp; omega) | omega))) | ((with_reducible refine Below.alloc ?_ ?_ _); rotate_left; (focus (first | (simp; done) | (simp; omega) | omega))) | ((with_reducible apply below_step1); (focus (with_reducible assumption)))))⟩
    all_goals rw [HT.out]
    all_goals simp_all

def EPost (w : World) (x : Int) (e : Ending) (w' : World) : Prop := e = .returned (.int .i64 x) ∧ Below w.heap.size w w'
def ERel (w : World) (es : List T) (at_ dp n : Nat) (v1 v5 : Value) (wr : World) : Prop := ∃ i d e : Nat, v5 = .int .i64 i ∧ v1 = .int .i64 e ∧ i ≤ n ∧ e ≤ es.length ∧ Rd3 dp es (at_ + 1) i d e ∧ Below w.heap.size w wr
set_option maxRecDepth 100000 in
set_option maxHeartbeats 1000000 in
theorem rend (A : Option Addr) (n c : Nat) (es : List T) (hn : n ≤ 1000) : ∀ (dp pos : Nat) (w : World), dp ≤ 1000 → pos ≤ n → RowT w w.heap.size A n es → Calls Tryz.prog 43 #[.slice A n c, .int .i64 (pos : Int), .int .i64 (dp : Int)] w (EPost w (endO es pos dp)) := by
  intro dp
  induction dp with
  | zero =>
    intro pos w hd hp hr
    have HR := Lib.hid (endO_zero es pos)
    by_cases hlt : pos < n
    · have h1 : ¬ (n : Int) ≤ (pos : Int) := by omega
      go_enter Tryz.func43, Tryz.ntmps43
      go_wp2_with fail
      go_ret
      exact ⟨ret_int HR.out.symm, by (repeat (first | (with_reducible exact Below.refl _ _) | (with_reducible assumption) | (with_reducible refine Below.drew ?_) | (with_reducible refine below_drewN ?_ _) | ((with_reducible refine Below.setCell ?_ ?_ _); rotate_left; (focus (first | (simp; done) | (simp; omega) | omega))) | ((with_reducible refine Below.alloc ?_ ?_ _); rotate_left; (focus (first | (simp; done) | (simp; omega) | omega))) | ((with_reducible apply below_step1); (focus (with_reducible assumption)))))⟩
    · have h1 : (n : Int) ≤ (pos : Int) := by omega
      go_enter Tryz.func43, Tryz.ntmps43
      go_wp2_with fail
      go_ret
      exact ⟨ret_int HR.out.symm, by (repeat (first | (with_reducible exact Below.refl _ _) | (with_reducible assumption) | (with_reducible refine Below.drew ?_) | (with_reducible refine below_drewN ?_ _) | ((with_reducible refine Below.setCell ?_ ?_ _); rotate_left; (focus (first | (simp; done) | (simp; omega) | omega))) | ((with_reducible refine Below.alloc ?_ ?_ _); rotate_left; (focus (first | (simp; done) | (simp; omega) | omega))) | ((with_reducible apply below_step1); (focus (with_reducible assumption)))))⟩
  | succ dp ih =>
    intro pos w hd hp hr
    have hl := hr.len
    have HLN := Lib.hid hl
    have hdz : ((dp : Int) + 1 == 0) = false := by simp; omega
    by_cases hlt : pos < n
    case neg =>
      have HR := Lib.hid (endO_over (es := es) (at_ := pos) (dp := dp + 1) (by omega))
      have h1 : (n : Int) ≤ (pos : Int) := by omega
      clear hl
      go_enter Tryz.func43, Tryz.ntmps43
      go_wp2_with fail
      go_ret
      exact ⟨ret_int HR.out.symm, by (repeat (first | (with_reducible exact Below.refl _ _) | (with_reducible assumption) | (with_reducible refine Below.drew ?_) | (with_reducible refine below_drewN ?_ _) | ((with_reducible refine Below.setCell ?_ ?_ _); rotate_left; (focus (first | (simp; done) | (simp; omega) | omega))) | ((with_reducible refine Below.alloc ?_ ?_ _); rotate_left; (focus (first | (simp; done) | (simp; omega) | omega))) | ((with_reducible apply below_step1); (focus (with_reducible assumption)))))⟩
    case pos =>
      obtain ⟨b, off, t, rfl, hb, ht, c0, c1, c2, c3, c4⟩ := RowT.at5 hr hlt
      have HT := Lib.hid ht
      have h1 : ¬ (n : Int) ≤ (pos : Int) := by omega
      have hp0 : (0 : Int) ≤ (pos : Int) := by omega
      have hp1 : (pos : Int) < (n : Int) := by omega
      clear ht hl
      by_cases ha : arity t.op < 0
      · have hok : t.ok = false := by rw [T.ok_fok, show decide (0 ≤ arity t.op) = false by simpa using ha]; rfl
        have HR := Lib.hid (endO_bad (dp := dp + 1) HT.out hok)
        clear hok
        go_enter Tryz.func43, Tryz.ntmps43
        go_wp2_with (go_at_call 22; refine (rarity t.op _).mono ?_; rintro e w1 ⟨rfl, rfl⟩)
        go_ret
        exact ⟨ret_int HR.out.symm, by (repeat (first | (with_reducible exact Below.refl _ _) | (with_reducible assumption) | (with_reducible refine Below.drew ?_) | (with_reducible refine below_drewN ?_ _) | ((with_reducible refine Below.setCell ?_ ?_ _); rotate_left; (focus (first | (simp; done) | (simp; omega) | omega))) | ((with_reducible refine Below.alloc ?_ ?_ _); rotate_left; (focus (first | (simp; done) | (simp; omega) | omega))) | ((with_reducible apply below_step1); (focus (with_reducible assumption)))))⟩
      have hak : decide (0 ≤ arity t.op) = true := by simp; omega
      cases hok : t.fok
      · have HK := Lib.hid hok
        have HR := Lib.hid (endO_bad (dp := dp + 1) HT.out (show t.ok = false by rw [T.ok_fok, hok, Bool.and_false]))
        clear hok
        go_enter Tryz.func43, Tryz.ntmps43
        go_wp2_with (first
          | (go_at_call 22; refine (rarity t.op _).mono ?_; rintro e w1 ⟨rfl, rfl⟩)
          | (go_at_call 59; refine (rfields t _).mono ?_; rintro e w1 ⟨rfl, hb1⟩; rw [HK.out]))
        go_ret
        exact ⟨ret_int HR.out.symm, by (repeat (first | (with_reducible exact Below.refl _ _) | (with_reducible assumption) | (with_reducible refine Below.drew ?_) | (with_reducible refine below_drewN ?_ _) | ((with_reducible refine Below.setCell ?_ ?_ _); rotate_left; (focus (first | (simp; done) | (simp; omega) | omega))) | ((with_reducible refine Below.alloc ?_ ?_ _); rotate_left; (focus (first | (simp; done) | (simp; omega) | omega))) | ((with_reducible apply below_step1); (focus (with_reducible assumption)))))⟩
      · have HF := Lib.hid hok
        have HK := Lib.hid (show t.ok = true by rw [T.ok_fok, hok, hak]; rfl)
        clear hok
        have har := arity_range t.op
        have HN := Lib.hid (show (ar t.op : Int) = arity t.op by unfold ar; omega)
        have hpw : IntKind.i64.wrap ((pos : Int) + 1) = (pos : Int) + 1 := IntWalk.i64_in _ (by omega)
        go_enter Tryz.func43, Tryz.ntmps43
        go_wp2_with (first
          | (go_at_call 22; refine (rarity t.op _).mono ?_; rintro e w1 ⟨rfl, rfl⟩)
          | (go_at_call 59; refine (rfields t _).mono ?_; rintro e w1 ⟨rfl, hb1⟩; rw [HF.out]; obtain ⟨hc1, hf1⟩ := bcell hb1; have hz1 := (hb1).size; (try simp at hz1)))
        have hspos : pos + 1 ≤ es.length := by rw [HLN.out]; omega
        go_loopw [1, 8] (fun v1 v5 wr => ERel w es pos dp (ar t.op) v1 v5 wr) (fun _ v5 _ => ar t.op - (intOf v5).toNat)
        case atStart => exact ⟨0, 0, pos + 1, rfl, by go_num, Nat.zero_le _, hspos, Rd3.start _ _ _, by (repeat (first | (with_reducible exact Below.refl _ _) | (with_reducible assumption) | (with_reducible refine Below.drew ?_) | (with_reducible refine below_drewN ?_ _) | ((with_reducible refine Below.setCell ?_ ?_ _); rotate_left; (focus (first | (simp; done) | (simp; omega) | omega))) | ((with_reducible refine Below.alloc ?_ ?_ _); rotate_left; (focus (first | (simp; done) | (simp; omega) | omega))) | ((with_reducible apply below_step1); (focus (with_reducible assumption)))))⟩
        case round =>
          obtain ⟨i, d, e, rfl, rfl, hi, he, hR, hbel⟩ := hrel
          have hle := hR.le
          have HR := Lib.hid hR
          clear hR
          have hzz := hbel.size
          by_cases hlt2 : i < ar t.op
          · have hia : (i : Int) < arity t.op := by have := HN.out; omega
            have ihe := ih e wr (by omega) (by have := HLN.out; omega) ((hr.below hbel).more hzz)
            have hml := endO_le (dp := dp) he
            have HS := Lib.hid (fun h => end_step HR.out h)
            have HF2 := Lib.hid (fun h => end_fail HT.out HK.out HR.out h hlt2)
            have hdd : IntKind.i64.wrap (dp : Int) = (dp : Int) := IntWalk.i64_in _ (by omega)
            obtain ⟨y, hy⟩ : ∃ y, endO es e dp = y := ⟨_, rfl⟩
            rw [hy] at ihe hml HS HF2
            clear hy hlt2
            by_cases hdp : y < 0
            · have HD := Lib.hid (HF2.out hdp)
              go_wp2_with (go_at_call 43; refine ihe.mono ?_; rintro e2 w2 ⟨rfl, hb2⟩)
              go_ret
              exact ⟨ret_int HD.out.symm, by (repeat (first | (with_reducible exact Below.refl _ _) | (with_reducible assumption) | (with_reducible refine Below.drew ?_) | (with_reducible refine below_drewN ?_ _) | ((with_reducible refine Below.setCell ?_ ?_ _); rotate_left; (focus (first | (simp; done) | (simp; omega) | omega))) | ((with_reducible refine Below.alloc ?_ ?_ _); rotate_left; (focus (first | (simp; done) | (simp; omega) | omega))) | ((with_reducible apply below_step1); (focus (with_reducible assumption)))))⟩
            · obtain ⟨d', e', hy', hR'⟩ := HS.out (by omega)
              have HD := Lib.hid hR'
              clear hR'
              go_wp2_with (go_at_call 43; refine ihe.mono ?_; rintro e2 w2 ⟨rfl, hb2⟩)
              go_roundw
              case rel => exact ⟨i + 1, d', e', by go_num, by first | rfl | exact val_int hy', by have := HN.out; omega, by omega, HD.out, by (repeat (first | (with_reducible exact Below.refl _ _) | (with_reducible assumption) | (with_reducible refine Below.drew ?_) | (with_reducible refine below_drewN ?_ _) | ((with_reducible refine Below.setCell ?_ ?_ _); rotate_left; (focus (first | (simp; done) | (simp; omega) | omega))) | ((with_reducible refine Below.alloc ?_ ?_ _); rotate_left; (focus (first | (simp; done) | (simp; omega) | omega))) | ((with_reducible apply below_step1); (focus (with_reducible assumption)))))⟩
              case measure => simp [intOf]; have := HN.out; omega
          · have hia : ¬ (i : Int) < arity t.op := by have := HN.out; omega
            have hieq : i = ar t.op := by omega
            subst hieq
            have HD := Lib.hid (end_done HT.out HK.out HR.out)
            clear hlt2
            go_wp2_with fail
            go_ret
            exact ⟨ret_int HD.out.symm, by (repeat (first | (with_reducible exact Below.refl _ _) | (with_reducible assumption) | (with_reducible refine Below.drew ?_) | (with_reducible refine below_drewN ?_ _) | ((with_reducible refine Below.setCell ?_ ?_ _); rotate_left; (focus (first | (simp; done) | (simp; omega) | omega))) | ((with_reducible refine Below.alloc ?_ ?_ _); rotate_left; (focus (first | (simp; done) | (simp; omega) | omega))) | ((with_reducible apply below_step1); (focus (with_reducible assumption)))))⟩
set_option maxRecDepth 100000 in
set_option maxHeartbeats 1000000 in
theorem rvalidE (A : Option Addr) (n c : Nat) (es : List T) (w : World) (hn : n ≤ maxLen) (hr : RowT w w.heap.size A n es) : Calls Tryz.prog 25 #[.slice A n c] w fun e w' => e = .returned (.bool (validE es)) ∧ Below w.heap.size w w' := by
  unfold maxLen at hn
  have HL := Lib.hid hr.len
  have HV := Lib.hid (valid_ref es)
  rw [hr.len] at HV
  by_cases h0 : n = 0
  · have h1 : ¬ (1 : Int) ≤ (n : Int) := by omega
    have HR := Lib.hid (show validE es = false by rw [HV.out, show decide (1 ≤ n) = false by simp; omega]; rfl)
    go_enter Tryz.func25, Tryz.ntmps25
    go_wp2_with fail
    go_ret
    exact ⟨ret_bool HR.out.symm, by (repeat (first | (with_reducible exact Below.refl _ _) | (with_reducible assumption) | (with_reducible refine Below.drew ?_) | (with_reducible refine below_drewN ?_ _) | ((with_reducible refine Below.setCell ?_ ?_ _); rotate_left; (focus (first | (simp; done) | (simp; omega) | omega))) | ((with_reducible refine Below.alloc ?_ ?_ _); rotate_left; (focus (first | (simp; done) | (simp; omega) | omega))) | ((with_reducible apply below_step1); (focus (with_reducible assumption)))))⟩
  have h1 : (1 : Int) ≤ (n : Int) := by omega
  by_cases h64 : 64 < n
  · have h2 : ¬ (n : Int) ≤ 64 := by omega
    have HR := Lib.hid (show validE es = false by rw [HV.out, show decide (n ≤ 64) = false by simp; omega, Bool.false_and, Bool.and_false])
    go_enter Tryz.func25, Tryz.ntmps25
    go_wp2_with fail
    go_ret
    exact ⟨ret_bool HR.out.symm, by (repeat (first | (with_reducible exact Below.refl _ _) | (with_reducible assumption) | (with_reducible refine Below.drew ?_) | (with_reducible refine below_drewN ?_ _) | ((with_reducible refine Below.setCell ?_ ?_ _); rotate_left; (focus (first | (simp; done) | (simp; omega) | omega))) | ((with_reducible refine Below.alloc ?_ ?_ _); rotate_left; (focus (first | (simp; done) | (simp; omega) | omega))) | ((with_reducible apply below_step1); (focus (with_reducible assumption)))))⟩
  have h2 : (n : Int) ≤ 64 := by omega
  have hE := rend A n c es (by omega) 16 0 w (by omega) (by omega) hr
  have HR := Lib.hid (show validE es = (endO es 0 16 == (n : Int)) by rw [HV.out, show decide (1 ≤ n) = true by simp; omega, show decide (n ≤ 64) = true by simp; omega]; rfl)
  obtain ⟨y, hy⟩ : ∃ y, endO es 0 16 = y := ⟨_, rfl⟩
  rw [hy] at HR hE
  clear hy
  go_enter Tryz.func25, Tryz.ntmps25
  go_wp2_with (go_at_call 43; refine hE.mono ?_; rintro e2 w2 ⟨rfl, hb2⟩)
  go_ret
  exact ⟨ret_bool HR.out.symm, by (repeat (first | (with_reducible exact Below.refl _ _) | (with_reducible assumption) | (with_reducible refine Below.drew ?_) | (with_reducible refine below_drewN ?_ _) | ((with_reducible refine Below.setCell ?_ ?_ _); rotate_left; (focus (first | (simp; done) | (simp; omega) | omega))) | ((with_reducible refine Below.alloc ?_ ?_ _); rotate_left; (focus (first | (simp; done) | (simp; omega) | omega))) | ((with_reducible apply below_step1); (focus (with_reducible assumption)))))⟩
end Go.Proofs.YtojcabnjodfdmaaGreatDoor

namespace Go.Proofs.YtojcabnjodfdmaaGreatDoor
open Go.RowKit

theorem idle_Valid (w : World) : CallsD Tryz.prog 27 #[] .returning w fun e u' w' => e = .returned (.tuple #[]) ∧ u' = .returning ∧ w' = w := by
  refine callsD_of_wpS Tryz.func27 rfl fun c₀ cs hu => ?_
  apply wpS_region
  cases c₀
  simp_all [wpOpsS, go_sem, recoverD, Tryz.ntmps27, bodyPostS, results, Tryz.results27]
set_option maxRecDepth 100000 in
set_option maxHeartbeats 1000000 in
theorem xvalidE (A : Option Addr) (n c : Nat) (es : List T) (w : World) (hn : n ≤ maxLen) (hr : RowT w w.heap.size A n es) : Calls Tryz.prog 11 #[.slice A n c] w fun e w' => e = .returned (.bool (validE es)) ∧ Below w.heap.size w w' := by
  have hmf : ∀ (fn : Fn) (first cap : Array Value) (w : World), (Instr.makeFunc fn first cap).run Tryz.prog w = .ok (.func fn first cap) w := fun _ _ _ _ => rfl
  unfold maxLen at hn
  have HV := Lib.hid (valid_prog es)
  rw [hr.len] at HV
  by_cases h64 : 64 < n
  · have h2 : (64 : Int) < (n : Int) := by omega
    have HR := Lib.hid (show validE es = false by rw [HV.out, show decide (n ≤ 64) = false by simp; omega]; rfl)
    go_enter_defers Tryz.func11, Tryz.ntmps11
    go_wp2_with fail
    refine leave_idle idle_Valid (by simp [go_sem]) (by simp [results, Tryz.results11, go_sem]; rfl) ?_
    exact ⟨ret_bool HR.out.symm, by (repeat (first | (with_reducible exact Below.refl _ _) | (with_reducible assumption) | (with_reducible refine Below.drew ?_) | (with_reducible refine below_drewN ?_ _) | ((with_reducible refine Below.setCell ?_ ?_ _); rotate_left; (focus (first | (simp; done) | (simp; omega) | omega))) | ((with_reducible refine Below.alloc ?_ ?_ _); rotate_left; (focus (first | (simp; done) | (simp; omega) | omega))) | ((with_reducible apply below_step1); (focus (with_reducible assumption)))))⟩
  have h2 : ¬ (64 : Int) < (n : Int) := by omega
  have hE := xmeasure A n c es (by omega) n 0 w (by omega) (by omega) hr
  have hml := measO_le (es := es) (e := 0) (by omega)
  rw [hr.len] at hml
  have HR := Lib.hid (show validE es = (decide (0 < (measO es 0).1) && (decide ((measO es 0).1 ≤ 16) && decide ((measO es 0).2 = n))) by rw [HV.out, show decide (n ≤ 64) = true by simp; omega]; rfl)
  obtain ⟨y, hy⟩ : ∃ y, measO es 0 = y := ⟨_, rfl⟩
  rw [hy] at HR hE hml
  clear hy
  obtain ⟨d, e⟩ := y
  simp only at hml HR
  go_enter_defers Tryz.func11, Tryz.ntmps11
  go_wp2_with (go_at_call 28; refine hE.mono ?_; rintro e2 w2 ⟨rfl, hb2⟩)
  all_goals refine leave_idle idle_Valid (by simp [go_sem]) (by simp [results, Tryz.results11, go_sem]; rfl) ?_
  all_goals refine ⟨ret_bool ?_, by (repeat (first | (with_reducible exact Below.refl _ _) | (with_reducible assumption) | (with_reducible refine Below.drew ?_) | (with_reducible refine below_drewN ?_ _) | ((with_reducible refine Below.setCell ?_ ?_ _); rotate_left; (focus (first | (simp; done) | (simp; omega) | omega))) | ((with_reducible refine Below.alloc ?_ ?_ _); rotate_left; (focus (first | (simp; done) | (simp; omega) | omega))) | ((with_reducible apply below_step1); (focus (with_reducible assumption)))))⟩
  all_goals rw [HR.out, Bool.eq_iff_iff]
  all_goals simp
  all_goals omega
end Go.Proofs.YtojcabnjodfdmaaGreatDoor

namespace Go.Proofs.YtojcabnjodfdmaaGreatDoor
open Go.RowKit

set_option maxHeartbeats 400000 in
theorem isTrue_c (v : V) (w : World) : Calls Tryz.prog 69 #[.agg #[.int .i64 v.k, .int .i64 v.n, .string v.s]] w fun e w' => e = .returned (.bool (isTrueV v)) ∧ Below w.heap.size w w' := by
  go_enter Tryz.func69, Tryz.ntmps69
  go_wp2
  all_goals go_ret
  all_goals refine ⟨ret_bool ?_, by (repeat (first | (with_reducible exact Below.refl _ _) | (with_reducible assumption) | (with_reducible refine Below.drew ?_) | (with_reducible refine below_drewN ?_ _) | ((with_reducible refine Below.setCell ?_ ?_ _); rotate_left; (focus (first | (simp; done) | (simp; omega) | omega))) | ((with_reducible refine Below.alloc ?_ ?_ _); rotate_left; (focus (first | (simp; done) | (simp; omega) | omega))) | ((with_reducible apply below_step1); (focus (with_reducible assumption)))))⟩
  all_goals simp_all [isTrueV]
set_option maxHeartbeats 400000 in
theorem isFalse_c (v : V) (w : World) : Calls Tryz.prog 91 #[.agg #[.int .i64 v.k, .int .i64 v.n, .string v.s]] w fun e w' => e = .returned (.bool (isFalseV v)) ∧ Below w.heap.size w w' := by
  go_enter Tryz.func91, Tryz.ntmps91
  go_wp2
  all_goals go_ret
  all_goals refine ⟨ret_bool ?_, by (repeat (first | (with_reducible exact Below.refl _ _) | (with_reducible assumption) | (with_reducible refine Below.drew ?_) | (with_reducible refine below_drewN ?_ _) | ((with_reducible refine Below.setCell ?_ ?_ _); rotate_left; (focus (first | (simp; done) | (simp; omega) | omega))) | ((with_reducible refine Below.alloc ?_ ?_ _); rotate_left; (focus (first | (simp; done) | (simp; omega) | omega))) | ((with_reducible apply below_step1); (focus (with_reducible assumption)))))⟩
  all_goals simp_all [isFalseV]
set_option maxHeartbeats 400000 in
theorem number_c (n : Int) (w : World) : Calls Tryz.prog 70 #[.int .i64 n] w fun e w' => e = .returned (.agg #[.int .i64 (numV n).k, .int .i64 (numV n).n, .string (numV n).s]) ∧ Below w.heap.size w w' := by
  go_enter Tryz.func70, Tryz.ntmps70
  go_wp2_with (go_at_call 65; refine (vclean ⟨1, n, ⟨#[]⟩⟩ _).mono ?_; rintro e w1 ⟨rfl, hb1⟩; obtain ⟨hc1, hf1⟩ := bcell hb1; have hz1 := (hb1).size; try simp at hz1)
  refine bodyPost_ret (by simp [results, Tryz.results70, go_sem, hc1]; rfl) rfl ?_
  exact ⟨rfl, by (repeat (first | (with_reducible exact Below.refl _ _) | (with_reducible assumption) | (with_reducible refine Below.drew ?_) | (with_reducible refine below_drewN ?_ _) | ((with_reducible refine Below.setCell ?_ ?_ _); rotate_left; (focus (first | (simp; done) | (simp; omega) | omega))) | ((with_reducible refine Below.alloc ?_ ?_ _); rotate_left; (focus (first | (simp; done) | (simp; omega) | omega))) | ((with_reducible apply below_step1); (focus (with_reducible assumption)))))⟩
set_option maxHeartbeats 400000 in
theorem truth_c (b : Bool) (w : World) : Calls Tryz.prog 68 #[.bool b] w fun e w' => e = .returned (.agg #[.int .i64 (truthV b).k, .int .i64 (truthV b).n, .string (truthV b).s]) ∧ Below w.heap.size w w' := by
  cases b
  all_goals go_enter Tryz.func68, Tryz.ntmps68
  all_goals go_wp2_with (go_at_call 70; refine (number_c _ _).mono ?_; rintro e w1 ⟨rfl, hb1⟩; obtain ⟨hc1, hf1⟩ := bcell hb1; have hz1 := (hb1).size; try simp at hz1)
  all_goals refine bodyPost_ret (by simp [results, Tryz.results68, go_sem, hc1]; rfl) rfl ?_
  all_goals exact ⟨rfl, by (repeat (first | (with_reducible exact Below.refl _ _) | (with_reducible assumption) | (with_reducible refine Below.drew ?_) | (with_reducible refine below_drewN ?_ _) | ((with_reducible refine Below.setCell ?_ ?_ _); rotate_left; (focus (first | (simp; done) | (simp; omega) | omega))) | ((with_reducible refine Below.alloc ?_ ?_ _); rotate_left; (focus (first | (simp; done) | (simp; omega) | omega))) | ((with_reducible apply below_step1); (focus (with_reducible assumption)))))⟩
set_option maxRecDepth 100000 in
set_option maxHeartbeats 1000000 in
theorem and_c (a b : V) (w : World) : Calls Tryz.prog 66 #[.agg #[.int .i64 a.k, .int .i64 a.n, .string a.s], .agg #[.int .i64 b.k, .int .i64 b.n, .string b.s]] w fun e w' => e = .returned (.agg #[.int .i64 (andV a b).k, .int .i64 (andV a b).n, .string (andV a b).s]) ∧ Below w.heap.size w w' := by
  have F1 := isFalse_c a
  have F2 := isFalse_c b
  have T1 := isTrue_c a
  have T2 := isTrue_c b
  have HE := Lib.hid (show andV a b = if (isFalseV a || isFalseV b) = true then truthV false else if (isTrueV a && isTrueV b) = true then truthV true else V.null from rfl)
  generalize andV a b = r at HE
  generalize isFalseV a = fa at F1 HE
  generalize isFalseV b = fb at F2 HE
  generalize isTrueV a = ta at T1 HE
  generalize isTrueV b = tb at T2 HE
  cases fa
  · cases fb
    · cases ta
      · have HR := Lib.hid (show r = V.null from HE.out)
        go_enter Tryz.func66, Tryz.ntmps66
        go_wp2_with (first
            | (go_at_call_of 91 (Value.agg #[.int .i64 a.k, .int .i64 a.n, .string a.s]); refine (F1 _).mono ?_; rintro e w1 ⟨rfl, hb1⟩; obtain ⟨hc1, hf1⟩ := bcell hb1; have hz1 := (hb1).size; (try simp at hz1); have hl10 : w.heap.size < w1.heap.size := (by omega); have hl11 : w.heap.size + 1 < w1.heap.size := (by omega); have hl12 : w.heap.size + 1 + 1 < w1.heap.size := (by omega)) | (go_at_call_of 91 (Value.agg #[.int .i64 b.k, .int .i64 b.n, .string b.s]); refine (F2 _).mono ?_; rintro e w1 ⟨rfl, hb1⟩; obtain ⟨hc1, hf1⟩ := bcell hb1; have hz1 := (hb1).size; (try simp at hz1); have hl10 : w.heap.size < w1.heap.size := (by omega); have hl11 : w.heap.size + 1 < w1.heap.size := (by omega); have hl12 : w.heap.size + 1 + 1 < w1.heap.size := (by omega))
            | (go_at_call_of 69 (Value.agg #[.int .i64 a.k, .int .i64 a.n, .string a.s]); refine (T1 _).mono ?_; rintro e w1 ⟨rfl, hb1⟩; obtain ⟨hc1, hf1⟩ := bcell hb1; have hz1 := (hb1).size; (try simp at hz1); have hl10 : w.heap.size < w1.heap.size := (by omega); have hl11 : w.heap.size + 1 < w1.heap.size := (by omega); have hl12 : w.heap.size + 1 + 1 < w1.heap.size := (by omega)) | (go_at_call_of 69 (Value.agg #[.int .i64 b.k, .int .i64 b.n, .string b.s]); refine (T2 _).mono ?_; rintro e w1 ⟨rfl, hb1⟩; obtain ⟨hc1, hf1⟩ := bcell hb1; have hz1 := (hb1).size; (try simp at hz1); have hl10 : w.heap.size < w1.heap.size := (by omega); have hl11 : w.heap.size + 1 < w1.heap.size := (by omega); have hl12 : w.heap.size + 1 + 1 < w1.heap.size := (by omega))
            | (go_at_call 68; refine (truth_c _ _).mono ?_; rintro e w1 ⟨rfl, hb1⟩; obtain ⟨hc1, hf1⟩ := bcell hb1; have hz1 := (hb1).size; (try simp at hz1); have hl10 : w.heap.size < w1.heap.size := (by omega); have hl11 : w.heap.size + 1 < w1.heap.size := (by omega); have hl12 : w.heap.size + 1 + 1 < w1.heap.size := (by omega)))
        refine bodyPost_ret (by simp [results, Tryz.results66, go_sem, *]; rfl) rfl ?_
        rw [HR.out]
        exact ⟨rfl, by (repeat (first | (with_reducible exact Below.refl _ _) | (with_reducible assumption) | (with_reducible refine Below.drew ?_) | (with_reducible refine below_drewN ?_ _) | ((with_reducible refine Below.setCell ?_ ?_ _); rotate_left; (focus (first | (simp; done) | (simp; omega) | omega))) | ((with_reducible refine Below.alloc ?_ ?_ _); rotate_left; (focus (first | (simp; done) | (simp; omega) | omega))) | ((with_reducible apply below_step1); (focus (with_reducible assumption)))))⟩
      · cases tb
        · have HR := Lib.hid (show r = V.null from HE.out)
          go_enter Tryz.func66, Tryz.ntmps66
          go_wp2_with (first
              | (go_at_call_of 91 (Value.agg #[.int .i64 a.k, .int .i64 a.n, .string a.s]); refine (F1 _).mono ?_; rintro e w1 ⟨rfl, hb1⟩; obtain ⟨hc1, hf1⟩ := bcell hb1; have hz1 := (hb1).size; (try simp at hz1); have hl10 : w.heap.size < w1.heap.size := (by omega); have hl11 : w.heap.size + 1 < w1.heap.size := (by omega); have hl12 : w.heap.size + 1 + 1 < w1.heap.size := (by omega)) | (go_at_call_of 91 (Value.agg #[.int .i64 b.k, .int .i64 b.n, .string b.s]); refine (F2 _).mono ?_; rintro e w1 ⟨rfl, hb1⟩; obtain ⟨hc1, hf1⟩ := bcell hb1; have hz1 := (hb1).size; (try simp at hz1); have hl10 : w.heap.size < w1.heap.size := (by omega); have hl11 : w.heap.size + 1 < w1.heap.size := (by omega); have hl12 : w.heap.size + 1 + 1 < w1.heap.size := (by omega))
              | (go_at_call_of 69 (Value.agg #[.int .i64 a.k, .int .i64 a.n, .string a.s]); refine (T1 _).mono ?_; rintro e w1 ⟨rfl, hb1⟩; obtain ⟨hc1, hf1⟩ := bcell hb1; have hz1 := (hb1).size; (try simp at hz1); have hl10 : w.heap.size < w1.heap.size := (by omega); have hl11 : w.heap.size + 1 < w1.heap.size := (by omega); have hl12 : w.heap.size + 1 + 1 < w1.heap.size := (by omega)) | (go_at_call_of 69 (Value.agg #[.int .i64 b.k, .int .i64 b.n, .string b.s]); refine (T2 _).mono ?_; rintro e w1 ⟨rfl, hb1⟩; obtain ⟨hc1, hf1⟩ := bcell hb1; have hz1 := (hb1).size; (try simp at hz1); have hl10 : w.heap.size < w1.heap.size := (by omega); have hl11 : w.heap.size + 1 < w1.heap.size := (by omega); have hl12 : w.heap.size + 1 + 1 < w1.heap.size := (by omega))
              | (go_at_call 68; refine (truth_c _ _).mono ?_; rintro e w1 ⟨rfl, hb1⟩; obtain ⟨hc1, hf1⟩ := bcell hb1; have hz1 := (hb1).size; (try simp at hz1); have hl10 : w.heap.size < w1.heap.size := (by omega); have hl11 : w.heap.size + 1 < w1.heap.size := (by omega); have hl12 : w.heap.size + 1 + 1 < w1.heap.size := (by omega)))
          refine bodyPost_ret (by simp [results, Tryz.results66, go_sem, *]; rfl) rfl ?_
          rw [HR.out]
          exact ⟨rfl, by (repeat (first | (with_reducible exact Below.refl _ _) | (with_reducible assumption) | (with_reducible refine Below.drew ?_) | (with_reducible refine below_drewN ?_ _) | ((with_reducible refine Below.setCell ?_ ?_ _); rotate_left; (focus (first | (simp; done) | (simp; omega) | omega))) | ((with_reducible refine Below.alloc ?_ ?_ _); rotate_left; (focus (first | (simp; done) | (simp; omega) | omega))) | ((with_reducible apply below_step1); (focus (with_reducible assumption)))))⟩
        · have HR := Lib.hid (show r = truthV true from HE.out)
          go_enter Tryz.func66, Tryz.ntmps66
          go_wp2_with (first
              | (go_at_call_of 91 (Value.agg #[.int .i64 a.k, .int .i64 a.n, .string a.s]); refine (F1 _).mono ?_; rintro e w1 ⟨rfl, hb1⟩; obtain ⟨hc1, hf1⟩ := bcell hb1; have hz1 := (hb1).size; (try simp at hz1); have hl10 : w.heap.size < w1.heap.size := (by omega); have hl11 : w.heap.size + 1 < w1.heap.size := (by omega); have hl12 : w.heap.size + 1 + 1 < w1.heap.size := (by omega)) | (go_at_call_of 91 (Value.agg #[.int .i64 b.k, .int .i64 b.n, .string b.s]); refine (F2 _).mono ?_; rintro e w1 ⟨rfl, hb1⟩; obtain ⟨hc1, hf1⟩ := bcell hb1; have hz1 := (hb1).size; (try simp at hz1); have hl10 : w.heap.size < w1.heap.size := (by omega); have hl11 : w.heap.size + 1 < w1.heap.size := (by omega); have hl12 : w.heap.size + 1 + 1 < w1.heap.size := (by omega))
              | (go_at_call_of 69 (Value.agg #[.int .i64 a.k, .int .i64 a.n, .string a.s]); refine (T1 _).mono ?_; rintro e w1 ⟨rfl, hb1⟩; obtain ⟨hc1, hf1⟩ := bcell hb1; have hz1 := (hb1).size; (try simp at hz1); have hl10 : w.heap.size < w1.heap.size := (by omega); have hl11 : w.heap.size + 1 < w1.heap.size := (by omega); have hl12 : w.heap.size + 1 + 1 < w1.heap.size := (by omega)) | (go_at_call_of 69 (Value.agg #[.int .i64 b.k, .int .i64 b.n, .string b.s]); refine (T2 _).mono ?_; rintro e w1 ⟨rfl, hb1⟩; obtain ⟨hc1, hf1⟩ := bcell hb1; have hz1 := (hb1).size; (try simp at hz1); have hl10 : w.heap.size < w1.heap.size := (by omega); have hl11 : w.heap.size + 1 < w1.heap.size := (by omega); have hl12 : w.heap.size + 1 + 1 < w1.heap.size := (by omega))
              | (go_at_call 68; refine (truth_c _ _).mono ?_; rintro e w1 ⟨rfl, hb1⟩; obtain ⟨hc1, hf1⟩ := bcell hb1; have hz1 := (hb1).size; (try simp at hz1); have hl10 : w.heap.size < w1.heap.size := (by omega); have hl11 : w.heap.size + 1 < w1.heap.size := (by omega); have hl12 : w.heap.size + 1 + 1 < w1.heap.size := (by omega)))
          refine bodyPost_ret (by simp [results, Tryz.results66, go_sem, *]; rfl) rfl ?_
          rw [HR.out]
          exact ⟨rfl, by (repeat (first | (with_reducible exact Below.refl _ _) | (with_reducible assumption) | (with_reducible refine Below.drew ?_) | (with_reducible refine below_drewN ?_ _) | ((with_reducible refine Below.setCell ?_ ?_ _); rotate_left; (focus (first | (simp; done) | (simp; omega) | omega))) | ((with_reducible refine Below.alloc ?_ ?_ _); rotate_left; (focus (first | (simp; done) | (simp; omega) | omega))) | ((with_reducible apply below_step1); (focus (with_reducible assumption)))))⟩
    · have HR := Lib.hid (show r = truthV false from HE.out)
      go_enter Tryz.func66, Tryz.ntmps66
      go_wp2_with (first
          | (go_at_call_of 91 (Value.agg #[.int .i64 a.k, .int .i64 a.n, .string a.s]); refine (F1 _).mono ?_; rintro e w1 ⟨rfl, hb1⟩; obtain ⟨hc1, hf1⟩ := bcell hb1; have hz1 := (hb1).size; (try simp at hz1); have hl10 : w.heap.size < w1.heap.size := (by omega); have hl11 : w.heap.size + 1 < w1.heap.size := (by omega); have hl12 : w.heap.size + 1 + 1 < w1.heap.size := (by omega)) | (go_at_call_of 91 (Value.agg #[.int .i64 b.k, .int .i64 b.n, .string b.s]); refine (F2 _).mono ?_; rintro e w1 ⟨rfl, hb1⟩; obtain ⟨hc1, hf1⟩ := bcell hb1; have hz1 := (hb1).size; (try simp at hz1); have hl10 : w.heap.size < w1.heap.size := (by omega); have hl11 : w.heap.size + 1 < w1.heap.size := (by omega); have hl12 : w.heap.size + 1 + 1 < w1.heap.size := (by omega))
          | (go_at_call_of 69 (Value.agg #[.int .i64 a.k, .int .i64 a.n, .string a.s]); refine (T1 _).mono ?_; rintro e w1 ⟨rfl, hb1⟩; obtain ⟨hc1, hf1⟩ := bcell hb1; have hz1 := (hb1).size; (try simp at hz1); have hl10 : w.heap.size < w1.heap.size := (by omega); have hl11 : w.heap.size + 1 < w1.heap.size := (by omega); have hl12 : w.heap.size + 1 + 1 < w1.heap.size := (by omega)) | (go_at_call_of 69 (Value.agg #[.int .i64 b.k, .int .i64 b.n, .string b.s]); refine (T2 _).mono ?_; rintro e w1 ⟨rfl, hb1⟩; obtain ⟨hc1, hf1⟩ := bcell hb1; have hz1 := (hb1).size; (try simp at hz1); have hl10 : w.heap.size < w1.heap.size := (by omega); have hl11 : w.heap.size + 1 < w1.heap.size := (by omega); have hl12 : w.heap.size + 1 + 1 < w1.heap.size := (by omega))
          | (go_at_call 68; refine (truth_c _ _).mono ?_; rintro e w1 ⟨rfl, hb1⟩; obtain ⟨hc1, hf1⟩ := bcell hb1; have hz1 := (hb1).size; (try simp at hz1); have hl10 : w.heap.size < w1.heap.size := (by omega); have hl11 : w.heap.size + 1 < w1.heap.size := (by omega); have hl12 : w.heap.size + 1 + 1 < w1.heap.size := (by omega)))
      refine bodyPost_ret (by simp [results, Tryz.results66, go_sem, *]; rfl) rfl ?_
      rw [HR.out]
      exact ⟨rfl, by (repeat (first | (with_reducible exact Below.refl _ _) | (with_reducible assumption) | (with_reducible refine Below.drew ?_) | (with_reducible refine below_drewN ?_ _) | ((with_reducible refine Below.setCell ?_ ?_ _); rotate_left; (focus (first | (simp; done) | (simp; omega) | omega))) | ((with_reducible refine Below.alloc ?_ ?_ _); rotate_left; (focus (first | (simp; done) | (simp; omega) | omega))) | ((with_reducible apply below_step1); (focus (with_reducible assumption)))))⟩
  · have HR := Lib.hid (show r = truthV false from HE.out)
    go_enter Tryz.func66, Tryz.ntmps66
    go_wp2_with (first
        | (go_at_call_of 91 (Value.agg #[.int .i64 a.k, .int .i64 a.n, .string a.s]); refine (F1 _).mono ?_; rintro e w1 ⟨rfl, hb1⟩; obtain ⟨hc1, hf1⟩ := bcell hb1; have hz1 := (hb1).size; (try simp at hz1); have hl10 : w.heap.size < w1.heap.size := (by omega); have hl11 : w.heap.size + 1 < w1.heap.size := (by omega); have hl12 : w.heap.size + 1 + 1 < w1.heap.size := (by omega)) | (go_at_call_of 91 (Value.agg #[.int .i64 b.k, .int .i64 b.n, .string b.s]); refine (F2 _).mono ?_; rintro e w1 ⟨rfl, hb1⟩; obtain ⟨hc1, hf1⟩ := bcell hb1; have hz1 := (hb1).size; (try simp at hz1); have hl10 : w.heap.size < w1.heap.size := (by omega); have hl11 : w.heap.size + 1 < w1.heap.size := (by omega); have hl12 : w.heap.size + 1 + 1 < w1.heap.size := (by omega))
        | (go_at_call_of 69 (Value.agg #[.int .i64 a.k, .int .i64 a.n, .string a.s]); refine (T1 _).mono ?_; rintro e w1 ⟨rfl, hb1⟩; obtain ⟨hc1, hf1⟩ := bcell hb1; have hz1 := (hb1).size; (try simp at hz1); have hl10 : w.heap.size < w1.heap.size := (by omega); have hl11 : w.heap.size + 1 < w1.heap.size := (by omega); have hl12 : w.heap.size + 1 + 1 < w1.heap.size := (by omega)) | (go_at_call_of 69 (Value.agg #[.int .i64 b.k, .int .i64 b.n, .string b.s]); refine (T2 _).mono ?_; rintro e w1 ⟨rfl, hb1⟩; obtain ⟨hc1, hf1⟩ := bcell hb1; have hz1 := (hb1).size; (try simp at hz1); have hl10 : w.heap.size < w1.heap.size := (by omega); have hl11 : w.heap.size + 1 < w1.heap.size := (by omega); have hl12 : w.heap.size + 1 + 1 < w1.heap.size := (by omega))
        | (go_at_call 68; refine (truth_c _ _).mono ?_; rintro e w1 ⟨rfl, hb1⟩; obtain ⟨hc1, hf1⟩ := bcell hb1; have hz1 := (hb1).size; (try simp at hz1); have hl10 : w.heap.size < w1.heap.size := (by omega); have hl11 : w.heap.size + 1 < w1.heap.size := (by omega); have hl12 : w.heap.size + 1 + 1 < w1.heap.size := (by omega)))
    refine bodyPost_ret (by simp [results, Tryz.results66, go_sem, *]; rfl) rfl ?_
    rw [HR.out]
    exact ⟨rfl, by (repeat (first | (with_reducible exact Below.refl _ _) | (with_reducible assumption) | (with_reducible refine Below.drew ?_) | (with_reducible refine below_drewN ?_ _) | ((with_reducible refine Below.setCell ?_ ?_ _); rotate_left; (focus (first | (simp; done) | (simp; omega) | omega))) | ((with_reducible refine Below.alloc ?_ ?_ _); rotate_left; (focus (first | (simp; done) | (simp; omega) | omega))) | ((with_reducible apply below_step1); (focus (with_reducible assumption)))))⟩
set_option maxRecDepth 100000 in
set_option maxHeartbeats 1000000 in
theorem or_c (a b : V) (w : World) : Calls Tryz.prog 67 #[.agg #[.int .i64 a.k, .int .i64 a.n, .string a.s], .agg #[.int .i64 b.k, .int .i64 b.n, .string b.s]] w fun e w' => e = .returned (.agg #[.int .i64 (orV a b).k, .int .i64 (orV a b).n, .string (orV a b).s]) ∧ Below w.heap.size w w' := by
  have F1 := isTrue_c a
  have F2 := isTrue_c b
  have T1 := isFalse_c a
  have T2 := isFalse_c b
  have HE := Lib.hid (show orV a b = if (isTrueV a || isTrueV b) = true then truthV true else if (isFalseV a && isFalseV b) = true then truthV false else V.null from rfl)
  generalize orV a b = r at HE
  generalize isTrueV a = fa at F1 HE
  generalize isTrueV b = fb at F2 HE
  generalize isFalseV a = ta at T1 HE
  generalize isFalseV b = tb at T2 HE
  cases fa
  · cases fb
    · cases ta
      · have HR := Lib.hid (show r = V.null from HE.out)
        go_enter Tryz.func67, Tryz.ntmps67
        go_wp2_with (first
            | (go_at_call_of 69 (Value.agg #[.int .i64 a.k, .int .i64 a.n, .string a.s]); refine (F1 _).mono ?_; rintro e w1 ⟨rfl, hb1⟩; obtain ⟨hc1, hf1⟩ := bcell hb1; have hz1 := (hb1).size; (try simp at hz1); have hl10 : w.heap.size < w1.heap.size := (by omega); have hl11 : w.heap.size + 1 < w1.heap.size := (by omega); have hl12 : w.heap.size + 1 + 1 < w1.heap.size := (by omega)) | (go_at_call_of 69 (Value.agg #[.int .i64 b.k, .int .i64 b.n, .string b.s]); refine (F2 _).mono ?_; rintro e w1 ⟨rfl, hb1⟩; obtain ⟨hc1, hf1⟩ := bcell hb1; have hz1 := (hb1).size; (try simp at hz1); have hl10 : w.heap.size < w1.heap.size := (by omega); have hl11 : w.heap.size + 1 < w1.heap.size := (by omega); have hl12 : w.heap.size + 1 + 1 < w1.heap.size := (by omega))
            | (go_at_call_of 91 (Value.agg #[.int .i64 a.k, .int .i64 a.n, .string a.s]); refine (T1 _).mono ?_; rintro e w1 ⟨rfl, hb1⟩; obtain ⟨hc1, hf1⟩ := bcell hb1; have hz1 := (hb1).size; (try simp at hz1); have hl10 : w.heap.size < w1.heap.size := (by omega); have hl11 : w.heap.size + 1 < w1.heap.size := (by omega); have hl12 : w.heap.size + 1 + 1 < w1.heap.size := (by omega)) | (go_at_call_of 91 (Value.agg #[.int .i64 b.k, .int .i64 b.n, .string b.s]); refine (T2 _).mono ?_; rintro e w1 ⟨rfl, hb1⟩; obtain ⟨hc1, hf1⟩ := bcell hb1; have hz1 := (hb1).size; (try simp at hz1); have hl10 : w.heap.size < w1.heap.size := (by omega); have hl11 : w.heap.size + 1 < w1.heap.size := (by omega); have hl12 : w.heap.size + 1 + 1 < w1.heap.size := (by omega))
            | (go_at_call 68; refine (truth_c _ _).mono ?_; rintro e w1 ⟨rfl, hb1⟩; obtain ⟨hc1, hf1⟩ := bcell hb1; have hz1 := (hb1).size; (try simp at hz1); have hl10 : w.heap.size < w1.heap.size := (by omega); have hl11 : w.heap.size + 1 < w1.heap.size := (by omega); have hl12 : w.heap.size + 1 + 1 < w1.heap.size := (by omega)))
        refine bodyPost_ret (by simp [results, Tryz.results67, go_sem, *]; rfl) rfl ?_
        rw [HR.out]
        exact ⟨rfl, by (repeat (first | (with_reducible exact Below.refl _ _) | (with_reducible assumption) | (with_reducible refine Below.drew ?_) | (with_reducible refine below_drewN ?_ _) | ((with_reducible refine Below.setCell ?_ ?_ _); rotate_left; (focus (first | (simp; done) | (simp; omega) | omega))) | ((with_reducible refine Below.alloc ?_ ?_ _); rotate_left; (focus (first | (simp; done) | (simp; omega) | omega))) | ((with_reducible apply below_step1); (focus (with_reducible assumption)))))⟩
      · cases tb
        · have HR := Lib.hid (show r = V.null from HE.out)
          go_enter Tryz.func67, Tryz.ntmps67
          go_wp2_with (first
              | (go_at_call_of 69 (Value.agg #[.int .i64 a.k, .int .i64 a.n, .string a.s]); refine (F1 _).mono ?_; rintro e w1 ⟨rfl, hb1⟩; obtain ⟨hc1, hf1⟩ := bcell hb1; have hz1 := (hb1).size; (try simp at hz1); have hl10 : w.heap.size < w1.heap.size := (by omega); have hl11 : w.heap.size + 1 < w1.heap.size := (by omega); have hl12 : w.heap.size + 1 + 1 < w1.heap.size := (by omega)) | (go_at_call_of 69 (Value.agg #[.int .i64 b.k, .int .i64 b.n, .string b.s]); refine (F2 _).mono ?_; rintro e w1 ⟨rfl, hb1⟩; obtain ⟨hc1, hf1⟩ := bcell hb1; have hz1 := (hb1).size; (try simp at hz1); have hl10 : w.heap.size < w1.heap.size := (by omega); have hl11 : w.heap.size + 1 < w1.heap.size := (by omega); have hl12 : w.heap.size + 1 + 1 < w1.heap.size := (by omega))
              | (go_at_call_of 91 (Value.agg #[.int .i64 a.k, .int .i64 a.n, .string a.s]); refine (T1 _).mono ?_; rintro e w1 ⟨rfl, hb1⟩; obtain ⟨hc1, hf1⟩ := bcell hb1; have hz1 := (hb1).size; (try simp at hz1); have hl10 : w.heap.size < w1.heap.size := (by omega); have hl11 : w.heap.size + 1 < w1.heap.size := (by omega); have hl12 : w.heap.size + 1 + 1 < w1.heap.size := (by omega)) | (go_at_call_of 91 (Value.agg #[.int .i64 b.k, .int .i64 b.n, .string b.s]); refine (T2 _).mono ?_; rintro e w1 ⟨rfl, hb1⟩; obtain ⟨hc1, hf1⟩ := bcell hb1; have hz1 := (hb1).size; (try simp at hz1); have hl10 : w.heap.size < w1.heap.size := (by omega); have hl11 : w.heap.size + 1 < w1.heap.size := (by omega); have hl12 : w.heap.size + 1 + 1 < w1.heap.size := (by omega))
              | (go_at_call 68; refine (truth_c _ _).mono ?_; rintro e w1 ⟨rfl, hb1⟩; obtain ⟨hc1, hf1⟩ := bcell hb1; have hz1 := (hb1).size; (try simp at hz1); have hl10 : w.heap.size < w1.heap.size := (by omega); have hl11 : w.heap.size + 1 < w1.heap.size := (by omega); have hl12 : w.heap.size + 1 + 1 < w1.heap.size := (by omega)))
          refine bodyPost_ret (by simp [results, Tryz.results67, go_sem, *]; rfl) rfl ?_
          rw [HR.out]
          exact ⟨rfl, by (repeat (first | (with_reducible exact Below.refl _ _) | (with_reducible assumption) | (with_reducible refine Below.drew ?_) | (with_reducible refine below_drewN ?_ _) | ((with_reducible refine Below.setCell ?_ ?_ _); rotate_left; (focus (first | (simp; done) | (simp; omega) | omega))) | ((with_reducible refine Below.alloc ?_ ?_ _); rotate_left; (focus (first | (simp; done) | (simp; omega) | omega))) | ((with_reducible apply below_step1); (focus (with_reducible assumption)))))⟩
        · have HR := Lib.hid (show r = truthV false from HE.out)
          go_enter Tryz.func67, Tryz.ntmps67
          go_wp2_with (first
              | (go_at_call_of 69 (Value.agg #[.int .i64 a.k, .int .i64 a.n, .string a.s]); refine (F1 _).mono ?_; rintro e w1 ⟨rfl, hb1⟩; obtain ⟨hc1, hf1⟩ := bcell hb1; have hz1 := (hb1).size; (try simp at hz1); have hl10 : w.heap.size < w1.heap.size := (by omega); have hl11 : w.heap.size + 1 < w1.heap.size := (by omega); have hl12 : w.heap.size + 1 + 1 < w1.heap.size := (by omega)) | (go_at_call_of 69 (Value.agg #[.int .i64 b.k, .int .i64 b.n, .string b.s]); refine (F2 _).mono ?_; rintro e w1 ⟨rfl, hb1⟩; obtain ⟨hc1, hf1⟩ := bcell hb1; have hz1 := (hb1).size; (try simp at hz1); have hl10 : w.heap.size < w1.heap.size := (by omega); have hl11 : w.heap.size + 1 < w1.heap.size := (by omega); have hl12 : w.heap.size + 1 + 1 < w1.heap.size := (by omega))
              | (go_at_call_of 91 (Value.agg #[.int .i64 a.k, .int .i64 a.n, .string a.s]); refine (T1 _).mono ?_; rintro e w1 ⟨rfl, hb1⟩; obtain ⟨hc1, hf1⟩ := bcell hb1; have hz1 := (hb1).size; (try simp at hz1); have hl10 : w.heap.size < w1.heap.size := (by omega); have hl11 : w.heap.size + 1 < w1.heap.size := (by omega); have hl12 : w.heap.size + 1 + 1 < w1.heap.size := (by omega)) | (go_at_call_of 91 (Value.agg #[.int .i64 b.k, .int .i64 b.n, .string b.s]); refine (T2 _).mono ?_; rintro e w1 ⟨rfl, hb1⟩; obtain ⟨hc1, hf1⟩ := bcell hb1; have hz1 := (hb1).size; (try simp at hz1); have hl10 : w.heap.size < w1.heap.size := (by omega); have hl11 : w.heap.size + 1 < w1.heap.size := (by omega); have hl12 : w.heap.size + 1 + 1 < w1.heap.size := (by omega))
              | (go_at_call 68; refine (truth_c _ _).mono ?_; rintro e w1 ⟨rfl, hb1⟩; obtain ⟨hc1, hf1⟩ := bcell hb1; have hz1 := (hb1).size; (try simp at hz1); have hl10 : w.heap.size < w1.heap.size := (by omega); have hl11 : w.heap.size + 1 < w1.heap.size := (by omega); have hl12 : w.heap.size + 1 + 1 < w1.heap.size := (by omega)))
          refine bodyPost_ret (by simp [results, Tryz.results67, go_sem, *]; rfl) rfl ?_
          rw [HR.out]
          exact ⟨rfl, by (repeat (first | (with_reducible exact Below.refl _ _) | (with_reducible assumption) | (with_reducible refine Below.drew ?_) | (with_reducible refine below_drewN ?_ _) | ((with_reducible refine Below.setCell ?_ ?_ _); rotate_left; (focus (first | (simp; done) | (simp; omega) | omega))) | ((with_reducible refine Below.alloc ?_ ?_ _); rotate_left; (focus (first | (simp; done) | (simp; omega) | omega))) | ((with_reducible apply below_step1); (focus (with_reducible assumption)))))⟩
    · have HR := Lib.hid (show r = truthV true from HE.out)
      go_enter Tryz.func67, Tryz.ntmps67
      go_wp2_with (first
          | (go_at_call_of 69 (Value.agg #[.int .i64 a.k, .int .i64 a.n, .string a.s]); refine (F1 _).mono ?_; rintro e w1 ⟨rfl, hb1⟩; obtain ⟨hc1, hf1⟩ := bcell hb1; have hz1 := (hb1).size; (try simp at hz1); have hl10 : w.heap.size < w1.heap.size := (by omega); have hl11 : w.heap.size + 1 < w1.heap.size := (by omega); have hl12 : w.heap.size + 1 + 1 < w1.heap.size := (by omega)) | (go_at_call_of 69 (Value.agg #[.int .i64 b.k, .int .i64 b.n, .string b.s]); refine (F2 _).mono ?_; rintro e w1 ⟨rfl, hb1⟩; obtain ⟨hc1, hf1⟩ := bcell hb1; have hz1 := (hb1).size; (try simp at hz1); have hl10 : w.heap.size < w1.heap.size := (by omega); have hl11 : w.heap.size + 1 < w1.heap.size := (by omega); have hl12 : w.heap.size + 1 + 1 < w1.heap.size := (by omega))
          | (go_at_call_of 91 (Value.agg #[.int .i64 a.k, .int .i64 a.n, .string a.s]); refine (T1 _).mono ?_; rintro e w1 ⟨rfl, hb1⟩; obtain ⟨hc1, hf1⟩ := bcell hb1; have hz1 := (hb1).size; (try simp at hz1); have hl10 : w.heap.size < w1.heap.size := (by omega); have hl11 : w.heap.size + 1 < w1.heap.size := (by omega); have hl12 : w.heap.size + 1 + 1 < w1.heap.size := (by omega)) | (go_at_call_of 91 (Value.agg #[.int .i64 b.k, .int .i64 b.n, .string b.s]); refine (T2 _).mono ?_; rintro e w1 ⟨rfl, hb1⟩; obtain ⟨hc1, hf1⟩ := bcell hb1; have hz1 := (hb1).size; (try simp at hz1); have hl10 : w.heap.size < w1.heap.size := (by omega); have hl11 : w.heap.size + 1 < w1.heap.size := (by omega); have hl12 : w.heap.size + 1 + 1 < w1.heap.size := (by omega))
          | (go_at_call 68; refine (truth_c _ _).mono ?_; rintro e w1 ⟨rfl, hb1⟩; obtain ⟨hc1, hf1⟩ := bcell hb1; have hz1 := (hb1).size; (try simp at hz1); have hl10 : w.heap.size < w1.heap.size := (by omega); have hl11 : w.heap.size + 1 < w1.heap.size := (by omega); have hl12 : w.heap.size + 1 + 1 < w1.heap.size := (by omega)))
      refine bodyPost_ret (by simp [results, Tryz.results67, go_sem, *]; rfl) rfl ?_
      rw [HR.out]
      exact ⟨rfl, by (repeat (first | (with_reducible exact Below.refl _ _) | (with_reducible assumption) | (with_reducible refine Below.drew ?_) | (with_reducible refine below_drewN ?_ _) | ((with_reducible refine Below.setCell ?_ ?_ _); rotate_left; (focus (first | (simp; done) | (simp; omega) | omega))) | ((with_reducible refine Below.alloc ?_ ?_ _); rotate_left; (focus (first | (simp; done) | (simp; omega) | omega))) | ((with_reducible apply below_step1); (focus (with_reducible assumption)))))⟩
  · have HR := Lib.hid (show r = truthV true from HE.out)
    go_enter Tryz.func67, Tryz.ntmps67
    go_wp2_with (first
        | (go_at_call_of 69 (Value.agg #[.int .i64 a.k, .int .i64 a.n, .string a.s]); refine (F1 _).mono ?_; rintro e w1 ⟨rfl, hb1⟩; obtain ⟨hc1, hf1⟩ := bcell hb1; have hz1 := (hb1).size; (try simp at hz1); have hl10 : w.heap.size < w1.heap.size := (by omega); have hl11 : w.heap.size + 1 < w1.heap.size := (by omega); have hl12 : w.heap.size + 1 + 1 < w1.heap.size := (by omega)) | (go_at_call_of 69 (Value.agg #[.int .i64 b.k, .int .i64 b.n, .string b.s]); refine (F2 _).mono ?_; rintro e w1 ⟨rfl, hb1⟩; obtain ⟨hc1, hf1⟩ := bcell hb1; have hz1 := (hb1).size; (try simp at hz1); have hl10 : w.heap.size < w1.heap.size := (by omega); have hl11 : w.heap.size + 1 < w1.heap.size := (by omega); have hl12 : w.heap.size + 1 + 1 < w1.heap.size := (by omega))
        | (go_at_call_of 91 (Value.agg #[.int .i64 a.k, .int .i64 a.n, .string a.s]); refine (T1 _).mono ?_; rintro e w1 ⟨rfl, hb1⟩; obtain ⟨hc1, hf1⟩ := bcell hb1; have hz1 := (hb1).size; (try simp at hz1); have hl10 : w.heap.size < w1.heap.size := (by omega); have hl11 : w.heap.size + 1 < w1.heap.size := (by omega); have hl12 : w.heap.size + 1 + 1 < w1.heap.size := (by omega)) | (go_at_call_of 91 (Value.agg #[.int .i64 b.k, .int .i64 b.n, .string b.s]); refine (T2 _).mono ?_; rintro e w1 ⟨rfl, hb1⟩; obtain ⟨hc1, hf1⟩ := bcell hb1; have hz1 := (hb1).size; (try simp at hz1); have hl10 : w.heap.size < w1.heap.size := (by omega); have hl11 : w.heap.size + 1 < w1.heap.size := (by omega); have hl12 : w.heap.size + 1 + 1 < w1.heap.size := (by omega))
        | (go_at_call 68; refine (truth_c _ _).mono ?_; rintro e w1 ⟨rfl, hb1⟩; obtain ⟨hc1, hf1⟩ := bcell hb1; have hz1 := (hb1).size; (try simp at hz1); have hl10 : w.heap.size < w1.heap.size := (by omega); have hl11 : w.heap.size + 1 < w1.heap.size := (by omega); have hl12 : w.heap.size + 1 + 1 < w1.heap.size := (by omega)))
    refine bodyPost_ret (by simp [results, Tryz.results67, go_sem, *]; rfl) rfl ?_
    rw [HR.out]
    exact ⟨rfl, by (repeat (first | (with_reducible exact Below.refl _ _) | (with_reducible assumption) | (with_reducible refine Below.drew ?_) | (with_reducible refine below_drewN ?_ _) | ((with_reducible refine Below.setCell ?_ ?_ _); rotate_left; (focus (first | (simp; done) | (simp; omega) | omega))) | ((with_reducible refine Below.alloc ?_ ?_ _); rotate_left; (focus (first | (simp; done) | (simp; omega) | omega))) | ((with_reducible apply below_step1); (focus (with_reducible assumption)))))⟩
end Go.Proofs.YtojcabnjodfdmaaGreatDoor

namespace Go.Proofs.YtojcabnjodfdmaaGreatDoor
open Go.RowKit

set_option maxRecDepth 100000 in
set_option maxHeartbeats 2000000 in
theorem lenient_c (op : Int) (a b c : V) (w : World) : Calls Tryz.prog 49 #[.int .i64 op, .agg #[.int .i64 a.k, .int .i64 a.n, .string a.s], .agg #[.int .i64 b.k, .int .i64 b.n, .string b.s], .agg #[.int .i64 c.k, .int .i64 c.n, .string c.s]] w fun e w' => e = .returned (.agg #[.int .i64 (lenientV op a b c).k, .int .i64 (lenientV op a b c).n, .string (lenientV op a b c).s]) ∧ Below w.heap.size w w' := by
  have HE := Lib.hid (show lenientV op a b c = if op = 14 then andV a b else if op = 15 then orV a b else if op = 16 then truthV (a.k == 0) else if op = 17 then (if a.k = 0 then b else a) else if isTrueV a = true then b else c from rfl)
  generalize lenientV op a b c = r at HE
  by_cases h14 : op = 14
  · have t14 : (op == 14) = true := by simpa using h14
    have HR := Lib.hid (show r = andV a b by rw [HE.out, if_pos h14])
    clear h14
    go_enter Tryz.func49, Tryz.ntmps49
    go_wp2_with (go_at_call 66; refine (and_c a b _).mono ?_; rintro e w1 ⟨rfl, hb1⟩; obtain ⟨hc1, hf1⟩ := bcell hb1; have hz1 := (hb1).size; (try simp at hz1); have hl10 : w.heap.size < w1.heap.size := (by omega); have hl11 : w.heap.size + 1 < w1.heap.size := (by omega); have hl12 : w.heap.size + 1 + 1 < w1.heap.size := (by omega); have hl13 : w.heap.size + 1 + 1 + 1 < w1.heap.size := (by omega))
    refine bodyPost_ret (by simp [results, Tryz.results49, go_sem, *]; rfl) rfl ?_
    rw [HR.out]
    exact ⟨rfl, by (repeat (first | (with_reducible exact Below.refl _ _) | (with_reducible assumption) | (with_reducible refine Below.drew ?_) | (with_reducible refine below_drewN ?_ _) | ((with_reducible refine Below.setCell ?_ ?_ _); rotate_left; (focus (first | (simp; done) | (simp; omega) | omega))) | ((with_reducible refine Below.alloc ?_ ?_ _); rotate_left; (focus (first | (simp; done) | (simp; omega) | omega))) | ((with_reducible apply below_step1); (focus (with_reducible assumption)))))⟩
  have t14 : (op == 14) = false := by simpa using h14
  rw [if_neg h14] at HE
  clear h14
  by_cases h15 : op = 15
  · have t15 : (op == 15) = true := by simpa using h15
    have HR := Lib.hid (show r = orV a b by rw [HE.out, if_pos h15])
    clear h15
    go_enter Tryz.func49, Tryz.ntmps49
    go_wp2_with (go_at_call 67; refine (or_c a b _).mono ?_; rintro e w1 ⟨rfl, hb1⟩; obtain ⟨hc1, hf1⟩ := bcell hb1; have hz1 := (hb1).size; (try simp at hz1); have hl10 : w.heap.size < w1.heap.size := (by omega); have hl11 : w.heap.size + 1 < w1.heap.size := (by omega); have hl12 : w.heap.size + 1 + 1 < w1.heap.size := (by omega); have hl13 : w.heap.size + 1 + 1 + 1 < w1.heap.size := (by omega))
    refine bodyPost_ret (by simp [results, Tryz.results49, go_sem, *]; rfl) rfl ?_
    rw [HR.out]
    exact ⟨rfl, by (repeat (first | (with_reducible exact Below.refl _ _) | (with_reducible assumption) | (with_reducible refine Below.drew ?_) | (with_reducible refine below_drewN ?_ _) | ((with_reducible refine Below.setCell ?_ ?_ _); rotate_left; (focus (first | (simp; done) | (simp; omega) | omega))) | ((with_reducible refine Below.alloc ?_ ?_ _); rotate_left; (focus (first | (simp; done) | (simp; omega) | omega))) | ((with_reducible apply below_step1); (focus (with_reducible assumption)))))⟩
  have t15 : (op == 15) = false := by simpa using h15
  rw [if_neg h15] at HE
  clear h15
  by_cases h16 : op = 16
  · have t16 : (op == 16) = true := by simpa using h16
    have HR := Lib.hid (show r = truthV (a.k == 0) by rw [HE.out, if_pos h16])
    clear h16
    go_enter Tryz.func49, Tryz.ntmps49
    go_wp2_with (go_at_call 68; refine (truth_c _ _).mono ?_; rintro e w1 ⟨rfl, hb1⟩; obtain ⟨hc1, hf1⟩ := bcell hb1; have hz1 := (hb1).size; (try simp at hz1); have hl10 : w.heap.size < w1.heap.size := (by omega); have hl11 : w.heap.size + 1 < w1.heap.size := (by omega); have hl12 : w.heap.size + 1 + 1 < w1.heap.size := (by omega); have hl13 : w.heap.size + 1 + 1 + 1 < w1.heap.size := (by omega))
    refine bodyPost_ret (by simp [results, Tryz.results49, go_sem, *]; rfl) rfl ?_
    rw [HR.out]
    exact ⟨rfl, by (repeat (first | (with_reducible exact Below.refl _ _) | (with_reducible assumption) | (with_reducible refine Below.drew ?_) | (with_reducible refine below_drewN ?_ _) | ((with_reducible refine Below.setCell ?_ ?_ _); rotate_left; (focus (first | (simp; done) | (simp; omega) | omega))) | ((with_reducible refine Below.alloc ?_ ?_ _); rotate_left; (focus (first | (simp; done) | (simp; omega) | omega))) | ((with_reducible apply below_step1); (focus (with_reducible assumption)))))⟩
  have t16 : (op == 16) = false := by simpa using h16
  rw [if_neg h16] at HE
  clear h16
  by_cases h17 : op = 17
  · have t17 : (op == 17) = true := by simpa using h17
    rw [if_pos h17] at HE
    clear h17
    by_cases hk : a.k = 0
    · have tk : (a.k == 0) = true := by simpa using hk
      rw [if_pos hk] at HE
      clear hk
      go_enter Tryz.func49, Tryz.ntmps49
      go_wp2_with fail
      refine bodyPost_ret (by simp [results, Tryz.results49, go_sem, *]; rfl) rfl ?_
      rw [HE.out]
      exact ⟨rfl, by (repeat (first | (with_reducible exact Below.refl _ _) | (with_reducible assumption) | (with_reducible refine Below.drew ?_) | (with_reducible refine below_drewN ?_ _) | ((with_reducible refine Below.setCell ?_ ?_ _); rotate_left; (focus (first | (simp; done) | (simp; omega) | omega))) | ((with_reducible refine Below.alloc ?_ ?_ _); rotate_left; (focus (first | (simp; done) | (simp; omega) | omega))) | ((with_reducible apply below_step1); (focus (with_reducible assumption)))))⟩
    · have tk : (a.k == 0) = false := by simpa using hk
      rw [if_neg hk] at HE
      clear hk
      go_enter Tryz.func49, Tryz.ntmps49
      go_wp2_with fail
      refine bodyPost_ret (by simp [results, Tryz.results49, go_sem, *]; rfl) rfl ?_
      rw [HE.out]
      exact ⟨rfl, by (repeat (first | (with_reducible exact Below.refl _ _) | (with_reducible assumption) | (with_reducible refine Below.drew ?_) | (with_reducible refine below_drewN ?_ _) | ((with_reducible refine Below.setCell ?_ ?_ _); rotate_left; (focus (first | (simp; done) | (simp; omega) | omega))) | ((with_reducible refine Below.alloc ?_ ?_ _); rotate_left; (focus (first | (simp; done) | (simp; omega) | omega))) | ((with_reducible apply below_step1); (focus (with_reducible assumption)))))⟩
  have t17 : (op == 17) = false := by simpa using h17
  rw [if_neg h17] at HE
  clear h17
  have hT := isTrue_c a
  generalize isTrueV a = ta at hT HE
  cases ta
  · have HR := Lib.hid (show r = c from HE.out)
    go_enter Tryz.func49, Tryz.ntmps49
    go_wp2_with (go_at_call 69; refine (hT _).mono ?_; rintro e w1 ⟨rfl, hb1⟩; obtain ⟨hc1, hf1⟩ := bcell hb1; have hz1 := (hb1).size; (try simp at hz1); have hl10 : w.heap.size < w1.heap.size := (by omega); have hl11 : w.heap.size + 1 < w1.heap.size := (by omega); have hl12 : w.heap.size + 1 + 1 < w1.heap.size := (by omega); have hl13 : w.heap.size + 1 + 1 + 1 < w1.heap.size := (by omega))
    refine bodyPost_ret (by simp [results, Tryz.results49, go_sem, *]; rfl) rfl ?_
    rw [HR.out]
    exact ⟨rfl, by (repeat (first | (with_reducible exact Below.refl _ _) | (with_reducible assumption) | (with_reducible refine Below.drew ?_) | (with_reducible refine below_drewN ?_ _) | ((with_reducible refine Below.setCell ?_ ?_ _); rotate_left; (focus (first | (simp; done) | (simp; omega) | omega))) | ((with_reducible refine Below.alloc ?_ ?_ _); rotate_left; (focus (first | (simp; done) | (simp; omega) | omega))) | ((with_reducible apply below_step1); (focus (with_reducible assumption)))))⟩
  · have HR := Lib.hid (show r = b from HE.out)
    go_enter Tryz.func49, Tryz.ntmps49
    go_wp2_with (go_at_call 69; refine (hT _).mono ?_; rintro e w1 ⟨rfl, hb1⟩; obtain ⟨hc1, hf1⟩ := bcell hb1; have hz1 := (hb1).size; (try simp at hz1); have hl10 : w.heap.size < w1.heap.size := (by omega); have hl11 : w.heap.size + 1 < w1.heap.size := (by omega); have hl12 : w.heap.size + 1 + 1 < w1.heap.size := (by omega); have hl13 : w.heap.size + 1 + 1 + 1 < w1.heap.size := (by omega))
    refine bodyPost_ret (by simp [results, Tryz.results49, go_sem, *]; rfl) rfl ?_
    rw [HR.out]
    exact ⟨rfl, by (repeat (first | (with_reducible exact Below.refl _ _) | (with_reducible assumption) | (with_reducible refine Below.drew ?_) | (with_reducible refine below_drewN ?_ _) | ((with_reducible refine Below.setCell ?_ ?_ _); rotate_left; (focus (first | (simp; done) | (simp; omega) | omega))) | ((with_reducible refine Below.alloc ?_ ?_ _); rotate_left; (focus (first | (simp; done) | (simp; omega) | omega))) | ((with_reducible apply below_step1); (focus (with_reducible assumption)))))⟩

set_option maxRecDepth 100000 in
set_option maxHeartbeats 1000000 in
theorem cell_c (A : Option Addr) (n c : Nat) (row : List V) (k : Int) (w : World) (_hn : n ≤ maxLen) (hk : 0 ≤ k) (hr : Row w w.heap.size A n row) : Calls Tryz.prog 48 #[.slice A n c, .int .i64 k] w fun e w' => e = .returned (.agg #[.int .i64 (cellV row k).k, .int .i64 (cellV row k).n, .string (cellV row k).s]) ∧ Below w.heap.size w w' := by
  unfold maxLen at _hn
  have hl := hr.len
  by_cases h : k ≥ row.length
  · have HR := Lib.hid (show cellV row k = V.null by unfold cellV; rw [if_pos h])
    have h1 : (n : Int) ≤ k := by omega
    clear h hl
    go_enter Tryz.func48, Tryz.ntmps48
    go_wp2_with fail
    refine bodyPost_ret (by simp [results, Tryz.results48, go_sem, *]; rfl) rfl ?_
    rw [HR.out]
    exact ⟨rfl, by (repeat (first | (with_reducible exact Below.refl _ _) | (with_reducible assumption) | (with_reducible refine Below.drew ?_) | (with_reducible refine below_drewN ?_ _) | ((with_reducible refine Below.setCell ?_ ?_ _); rotate_left; (focus (first | (simp; done) | (simp; omega) | omega))) | ((with_reducible refine Below.alloc ?_ ?_ _); rotate_left; (focus (first | (simp; done) | (simp; omega) | omega))) | ((with_reducible apply below_step1); (focus (with_reducible assumption)))))⟩
  · have h1 : ¬ (n : Int) ≤ k := by omega
    have h2 : k < (n : Int) := by omega
    obtain ⟨i, rfl⟩ := Int.eq_ofNat_of_zero_le hk
    obtain ⟨b, off, v, rfl, hb, hv, c0, c1, c2⟩ := Row.at3 hr (show i < n by omega)
    have HR := Lib.hid (show cellV row (i : Int) = v.cl by unfold cellV; rw [if_neg h, Int.toNat_natCast, hv]; rfl)
    clear h hl hv
    go_enter Tryz.func48, Tryz.ntmps48
    go_wp2_with (go_at_call 65; refine (vclean v _).mono ?_; rintro e w1 ⟨rfl, hb1⟩; obtain ⟨hc1, hf1⟩ := bcell hb1; have hz1 := (hb1).size; (try simp at hz1); have hl10 : w.heap.size < w1.heap.size := (by omega))
    refine bodyPost_ret (by simp [results, Tryz.results48, go_sem, *]; rfl) rfl ?_
    rw [HR.out]
    exact ⟨rfl, by (repeat (first | (with_reducible exact Below.refl _ _) | (with_reducible assumption) | (with_reducible refine Below.drew ?_) | (with_reducible refine below_drewN ?_ _) | ((with_reducible refine Below.setCell ?_ ?_ _); rotate_left; (focus (first | (simp; done) | (simp; omega) | omega))) | ((with_reducible refine Below.alloc ?_ ?_ _); rotate_left; (focus (first | (simp; done) | (simp; omega) | omega))) | ((with_reducible apply below_step1); (focus (with_reducible assumption)))))⟩
end Go.Proofs.YtojcabnjodfdmaaGreatDoor

namespace Go.Proofs.YtojcabnjodfdmaaGreatDoor
open Go.RowKit

set_option maxRecDepth 100000 in
set_option maxHeartbeats 2000000 in
theorem ofText_c (op : Int) (a b : V) (w : World) (ha : a.s.size ≤ 1000) (hb : b.s.size ≤ 1000) : Calls Tryz.prog 50 #[.int .i64 op, .agg #[.int .i64 a.k, .int .i64 a.n, .string a.s], .agg #[.int .i64 b.k, .int .i64 b.n, .string b.s]] w fun e w' => e = .returned (.agg #[.int .i64 (textV op a b).k, .int .i64 (textV op a b).n, .string (textV op a b).s]) ∧ Below w.heap.size w w' := by
  have HE := Lib.hid (show textV op a b = if a.k ≠ 2 then V.null else if op = 9 then numV a.s.size else if op = 8 ∧ b.k = 2 ∧ a.s.size + b.s.size ≤ 32 then ⟨2, 0, a.s ++ b.s⟩ else if op = 10 ∧ b.k = 1 ∧ 0 ≤ b.n then ⟨2, 0, a.s.extract 0 (min b.n a.s.size).toNat⟩ else V.null from rfl)
  generalize textV op a b = r at HE
  have hsw : IntKind.i64.wrap (a.s.size : Int) = (a.s.size : Int) := IntWalk.i64_in _ (by omega)
  have hsw2 : IntKind.i64.wrap ((a.s.size : Int) + (b.s.size : Int)) = (a.s.size : Int) + (b.s.size : Int) := IntWalk.i64_in _ (by omega)
  have hadd : ∀ w, (Op.stringOp .add a.s b.s).run Tryz.prog w = .ok (.string (a.s ++ b.s)) w := fun w => run_string_add_sum w _ _ (by omega)
  by_cases hk : a.k = 2
  case neg =>
    have tk : (a.k != 2) = true := by simpa using hk
    rw [if_pos hk] at HE
    clear hk
    go_enter Tryz.func50, Tryz.ntmps50
    go_wp2_with fail
    refine bodyPost_ret (by simp [results, Tryz.results50, go_sem, *]; rfl) rfl ?_
    rw [HE.out]
    exact ⟨rfl, by (repeat (first | (with_reducible exact Below.refl _ _) | (with_reducible assumption) | (with_reducible refine Below.drew ?_) | (with_reducible refine below_drewN ?_ _) | ((with_reducible refine Below.setCell ?_ ?_ _); rotate_left; (focus (first | (simp; done) | (simp; omega) | omega))) | ((with_reducible refine Below.alloc ?_ ?_ _); rotate_left; (focus (first | (simp; done) | (simp; omega) | omega))) | ((with_reducible apply below_step1); (focus (with_reducible assumption)))))⟩
  have tk : (a.k != 2) = false := by simpa using hk
  rw [if_neg (by simpa using hk)] at HE
  clear hk
  by_cases h9 : op = 9
  · have t9 : (op == 9) = true := by simpa using h9
    rw [if_pos h9] at HE
    clear h9
    go_enter Tryz.func50, Tryz.ntmps50
    go_wp2_with (go_at_call 70; refine (number_c _ _).mono ?_; rintro e w1 ⟨rfl, hb1⟩; obtain ⟨hc1, hf1⟩ := bcell hb1; have hz1 := (hb1).size; (try simp at hz1); have hl10 : w.heap.size < w1.heap.size := (by omega); have hl11 : w.heap.size + 1 < w1.heap.size := (by omega); have hl12 : w.heap.size + 1 + 1 < w1.heap.size := (by omega))
    refine bodyPost_ret (by simp [results, Tryz.results50, go_sem, *]; rfl) rfl ?_
    rw [HE.out]
    exact ⟨rfl, by (repeat (first | (with_reducible exact Below.refl _ _) | (with_reducible assumption) | (with_reducible refine Below.drew ?_) | (with_reducible refine below_drewN ?_ _) | ((with_reducible refine Below.setCell ?_ ?_ _); rotate_left; (focus (first | (simp; done) | (simp; omega) | omega))) | ((with_reducible refine Below.alloc ?_ ?_ _); rotate_left; (focus (first | (simp; done) | (simp; omega) | omega))) | ((with_reducible apply below_step1); (focus (with_reducible assumption)))))⟩
  have t9 : (op == 9) = false := by simpa using h9
  rw [if_neg h9] at HE
  clear h9
  by_cases h8 : op = 8
  · have t8 : (op == 8) = true := by simpa using h8
    have t10 : (op == 10) = false := by simp; omega
    rw [if_neg (show ¬ (op = 10 ∧ b.k = 1 ∧ 0 ≤ b.n) by omega)] at HE
    by_cases hk : b.k = 2
    · have tk2 : (b.k == 2) = true := by simpa using hk
      by_cases hs : a.s.size + b.s.size ≤ 32
      · have ts : (a.s.size : Int) + (b.s.size : Int) ≤ 32 := by omega
        rw [if_pos ⟨h8, hk, hs⟩] at HE
        clear h8 hk hs
        go_enter Tryz.func50, Tryz.ntmps50
        go_wp2_with fail
        refine bodyPost_ret (by simp [results, Tryz.results50, go_sem, *]; rfl) rfl ?_
        rw [HE.out]
        exact ⟨rfl, by (repeat (first | (with_reducible exact Below.refl _ _) | (with_reducible assumption) | (with_reducible refine Below.drew ?_) | (with_reducible refine below_drewN ?_ _) | ((with_reducible refine Below.setCell ?_ ?_ _); rotate_left; (focus (first | (simp; done) | (simp; omega) | omega))) | ((with_reducible refine Below.alloc ?_ ?_ _); rotate_left; (focus (first | (simp; done) | (simp; omega) | omega))) | ((with_reducible apply below_step1); (focus (with_reducible assumption)))))⟩
      · have ts : ¬ (a.s.size : Int) + (b.s.size : Int) ≤ 32 := by omega
        rw [if_neg (fun h => hs h.2.2)] at HE
        clear h8 hk hs
        go_enter Tryz.func50, Tryz.ntmps50
        go_wp2_with fail
        refine bodyPost_ret (by simp [results, Tryz.results50, go_sem, *]; rfl) rfl ?_
        rw [HE.out]
        exact ⟨rfl, by (repeat (first | (with_reducible exact Below.refl _ _) | (with_reducible assumption) | (with_reducible refine Below.drew ?_) | (with_reducible refine below_drewN ?_ _) | ((with_reducible refine Below.setCell ?_ ?_ _); rotate_left; (focus (first | (simp; done) | (simp; omega) | omega))) | ((with_reducible refine Below.alloc ?_ ?_ _); rotate_left; (focus (first | (simp; done) | (simp; omega) | omega))) | ((with_reducible apply below_step1); (focus (with_reducible assumption)))))⟩
    · have tk2 : (b.k == 2) = false := by simpa using hk
      rw [if_neg (fun h => hk h.2.1)] at HE
      clear h8 hk
      go_enter Tryz.func50, Tryz.ntmps50
      go_wp2_with fail
      refine bodyPost_ret (by simp [results, Tryz.results50, go_sem, *]; rfl) rfl ?_
      rw [HE.out]
      exact ⟨rfl, by (repeat (first | (with_reducible exact Below.refl _ _) | (with_reducible assumption) | (with_reducible refine Below.drew ?_) | (with_reducible refine below_drewN ?_ _) | ((with_reducible refine Below.setCell ?_ ?_ _); rotate_left; (focus (first | (simp; done) | (simp; omega) | omega))) | ((with_reducible refine Below.alloc ?_ ?_ _); rotate_left; (focus (first | (simp; done) | (simp; omega) | omega))) | ((with_reducible apply below_step1); (focus (with_reducible assumption)))))⟩
  have t8 : (op == 8) = false := by simpa using h8
  rw [if_neg (fun h => h8 h.1)] at HE
  clear h8
  by_cases h10 : op = 10
  · have t10 : (op == 10) = true := by simpa using h10
    by_cases hk : b.k = 1
    · have tk2 : (b.k == 1) = true := by simpa using hk
      by_cases hs : 0 ≤ b.n
      · rw [if_pos ⟨h10, hk, hs⟩] at HE
        clear h10 hk
        have hm0 : 0 ≤ min b.n (a.s.size : Int) := by omega
        have hm1 : min b.n (a.s.size : Int) ≤ (a.s.size : Int) := by omega
        have HM := Lib.hid hm0
        go_enter Tryz.func50, Tryz.ntmps50
        go_wp2_with fail
        refine bodyPost_ret (by simp [results, Tryz.results50, go_sem, *]; rfl) rfl ?_
        rw [HE.out]
        exact ⟨rfl, by (repeat (first | (with_reducible exact Below.refl _ _) | (with_reducible assumption) | (with_reducible refine Below.drew ?_) | (with_reducible refine below_drewN ?_ _) | ((with_reducible refine Below.setCell ?_ ?_ _); rotate_left; (focus (first | (simp; done) | (simp; omega) | omega))) | ((with_reducible refine Below.alloc ?_ ?_ _); rotate_left; (focus (first | (simp; done) | (simp; omega) | omega))) | ((with_reducible apply below_step1); (focus (with_reducible assumption)))))⟩
      · rw [if_neg (fun h => hs h.2.2)] at HE
        clear h10 hk
        go_enter Tryz.func50, Tryz.ntmps50
        go_wp2_with fail
        refine bodyPost_ret (by simp [results, Tryz.results50, go_sem, *]; rfl) rfl ?_
        rw [HE.out]
        exact ⟨rfl, by (repeat (first | (with_reducible exact Below.refl _ _) | (with_reducible assumption) | (with_reducible refine Below.drew ?_) | (with_reducible refine below_drewN ?_ _) | ((with_reducible refine Below.setCell ?_ ?_ _); rotate_left; (focus (first | (simp; done) | (simp; omega) | omega))) | ((with_reducible refine Below.alloc ?_ ?_ _); rotate_left; (focus (first | (simp; done) | (simp; omega) | omega))) | ((with_reducible apply below_step1); (focus (with_reducible assumption)))))⟩
    · have tk2 : (b.k == 1) = false := by simpa using hk
      rw [if_neg (fun h => hk h.2.1)] at HE
      clear h10 hk
      go_enter Tryz.func50, Tryz.ntmps50
      go_wp2_with fail
      refine bodyPost_ret (by simp [results, Tryz.results50, go_sem, *]; rfl) rfl ?_
      rw [HE.out]
      exact ⟨rfl, by (repeat (first | (with_reducible exact Below.refl _ _) | (with_reducible assumption) | (with_reducible refine Below.drew ?_) | (with_reducible refine below_drewN ?_ _) | ((with_reducible refine Below.setCell ?_ ?_ _); rotate_left; (focus (first | (simp; done) | (simp; omega) | omega))) | ((with_reducible refine Below.alloc ?_ ?_ _); rotate_left; (focus (first | (simp; done) | (simp; omega) | omega))) | ((with_reducible apply below_step1); (focus (with_reducible assumption)))))⟩
  have t10 : (op == 10) = false := by simpa using h10
  rw [if_neg (fun h => h10 h.1)] at HE
  clear h10
  go_enter Tryz.func50, Tryz.ntmps50
  go_wp2_with fail
  refine bodyPost_ret (by simp [results, Tryz.results50, go_sem, *]; rfl) rfl ?_
  rw [HE.out]
  exact ⟨rfl, by (repeat (first | (with_reducible exact Below.refl _ _) | (with_reducible assumption) | (with_reducible refine Below.drew ?_) | (with_reducible refine below_drewN ?_ _) | ((with_reducible refine Below.setCell ?_ ?_ _); rotate_left; (focus (first | (simp; done) | (simp; omega) | omega))) | ((with_reducible refine Below.alloc ?_ ?_ _); rotate_left; (focus (first | (simp; done) | (simp; omega) | omega))) | ((with_reducible apply below_step1); (focus (with_reducible assumption)))))⟩

set_option maxRecDepth 100000 in
set_option maxHeartbeats 2000000 in
theorem compare_c (op : Int) (a b : V) (w : World) : Calls Tryz.prog 51 #[.int .i64 op, .agg #[.int .i64 a.k, .int .i64 a.n, .string a.s], .agg #[.int .i64 b.k, .int .i64 b.n, .string b.s]] w fun e w' => e = .returned (.agg #[.int .i64 (compV op a b).k, .int .i64 (compV op a b).n, .string (compV op a b).s]) ∧ Below w.heap.size w w' := by
  have HE := Lib.hid (show compV op a b = if a.k = 0 ∨ a.k ≠ b.k then V.null else if op = 11 then truthV (a.beq b) else truthV (decide (cmpV a b < 0)) from rfl)
  generalize compV op a b = r at HE
  have he := run_eqV a.k a.n a.s b.k b.n b.s
  rw [show eqB a.k a.n a.s b.k b.n b.s = a.beq b from rfl] at he
  generalize a.beq b = q at he HE
  by_cases hk : a.k = 0
  · have tk : (a.k == 0) = true := by simpa using hk
    rw [if_pos (.inl hk)] at HE
    clear hk
    go_enter Tryz.func51, Tryz.ntmps51
    go_wp2_with fail
    refine bodyPost_ret (by simp [results, Tryz.results51, go_sem, *]; rfl) rfl ?_
    rw [HE.out]
    exact ⟨rfl, by (repeat (first | (with_reducible exact Below.refl _ _) | (with_reducible assumption) | (with_reducible refine Below.drew ?_) | (with_reducible refine below_drewN ?_ _) | ((with_reducible refine Below.setCell ?_ ?_ _); rotate_left; (focus (first | (simp; done) | (simp; omega) | omega))) | ((with_reducible refine Below.alloc ?_ ?_ _); rotate_left; (focus (first | (simp; done) | (simp; omega) | omega))) | ((with_reducible apply below_step1); (focus (with_reducible assumption)))))⟩
  have tk : (a.k == 0) = false := by simpa using hk
  by_cases hkk : a.k = b.k
  case neg =>
    have tkk : (a.k != b.k) = true := by simpa using hkk
    rw [if_pos (.inr hkk)] at HE
    clear hk hkk
    go_enter Tryz.func51, Tryz.ntmps51
    go_wp2_with fail
    refine bodyPost_ret (by simp [results, Tryz.results51, go_sem, *]; rfl) rfl ?_
    rw [HE.out]
    exact ⟨rfl, by (repeat (first | (with_reducible exact Below.refl _ _) | (with_reducible assumption) | (with_reducible refine Below.drew ?_) | (with_reducible refine below_drewN ?_ _) | ((with_reducible refine Below.setCell ?_ ?_ _); rotate_left; (focus (first | (simp; done) | (simp; omega) | omega))) | ((with_reducible refine Below.alloc ?_ ?_ _); rotate_left; (focus (first | (simp; done) | (simp; omega) | omega))) | ((with_reducible apply below_step1); (focus (with_reducible assumption)))))⟩
  have tkk : (a.k != b.k) = false := by simpa using hkk
  rw [if_neg (show ¬ (a.k = 0 ∨ a.k ≠ b.k) by rintro (h | h); exact hk h; exact h hkk)] at HE
  clear hk hkk
  by_cases h11 : op = 11
  · have t11 : (op == 11) = true := by simpa using h11
    rw [if_pos h11] at HE
    clear h11
    go_enter Tryz.func51, Tryz.ntmps51
    go_wp2_with (go_at_call 68; refine (truth_c _ _).mono ?_; rintro e w1 ⟨rfl, hb1⟩; obtain ⟨hc1, hf1⟩ := bcell hb1; have hz1 := (hb1).size; (try simp at hz1); have hl10 : w.heap.size < w1.heap.size := (by omega); have hl11 : w.heap.size + 1 < w1.heap.size := (by omega); have hl12 : w.heap.size + 1 + 1 < w1.heap.size := (by omega))
    refine bodyPost_ret (by simp [results, Tryz.results51, go_sem, *]; rfl) rfl ?_
    rw [HE.out]
    exact ⟨rfl, by (repeat (first | (with_reducible exact Below.refl _ _) | (with_reducible assumption) | (with_reducible refine Below.drew ?_) | (with_reducible refine below_drewN ?_ _) | ((with_reducible refine Below.setCell ?_ ?_ _); rotate_left; (focus (first | (simp; done) | (simp; omega) | omega))) | ((with_reducible refine Below.alloc ?_ ?_ _); rotate_left; (focus (first | (simp; done) | (simp; omega) | omega))) | ((with_reducible apply below_step1); (focus (with_reducible assumption)))))⟩
  · have t11 : (op == 11) = false := by simpa using h11
    rw [if_neg h11] at HE
    clear h11 he
    have hC := vcompare a b
    generalize cmpV a b = z at hC HE
    go_enter Tryz.func51, Tryz.ntmps51
    go_wp2_with (first
      | (go_at_call 71; refine (hC _).mono ?_; rintro e w1 ⟨rfl, hb1⟩; obtain ⟨hc1, hf1⟩ := bcell hb1; have hz1 := (hb1).size; (try simp at hz1); have hl10 : w.heap.size < w1.heap.size := (by omega); have hl11 : w.heap.size + 1 < w1.heap.size := (by omega); have hl12 : w.heap.size + 1 + 1 < w1.heap.size := (by omega))
      | (go_at_call 68; refine (truth_c _ _).mono ?_; rintro e w2 ⟨rfl, hb2⟩; obtain ⟨hc2, hf2⟩ := bcell hb2; have hz2 := (hb2).size; (try simp at hz2); have hl20 : w.heap.size < w2.heap.size := (by omega); have hl21 : w.heap.size + 1 < w2.heap.size := (by omega); have hl22 : w.heap.size + 1 + 1 < w2.heap.size := (by omega)))
    refine bodyPost_ret (by simp [results, Tryz.results51, go_sem, *]; rfl) rfl ?_
    rw [HE.out]
    exact ⟨rfl, by (repeat (first | (with_reducible exact Below.refl _ _) | (with_reducible assumption) | (with_reducible refine Below.drew ?_) | (with_reducible refine below_drewN ?_ _) | ((with_reducible refine Below.setCell ?_ ?_ _); rotate_left; (focus (first | (simp; done) | (simp; omega) | omega))) | ((with_reducible refine Below.alloc ?_ ?_ _); rotate_left; (focus (first | (simp; done) | (simp; omega) | omega))) | ((with_reducible apply below_step1); (focus (with_reducible assumption)))))⟩
end Go.Proofs.YtojcabnjodfdmaaGreatDoor

namespace Go.Proofs.YtojcabnjodfdmaaGreatDoor
open Go.RowKit

theorem tdiv_abs (a b : Int) : -a.natAbs ≤ a.tdiv b ∧ a.tdiv b ≤ a.natAbs := by
  have h : (a.tdiv b).natAbs ≤ a.natAbs := by rw [Int.natAbs_tdiv]; exact Nat.div_le_self _ _
  omega
theorem tmod_abs (a b : Int) : -a.natAbs ≤ a.tmod b ∧ a.tmod b ≤ a.natAbs := by
  have h : (a.tmod b).natAbs ≤ a.natAbs := by rw [Int.natAbs_tmod]; exact Nat.mod_le _ _
  omega
theorem prod_small {a b m : Int} (hm : 0 ≤ m) (ha : a ≠ 0) (h : ¬ max b (-b) > m.tdiv (max a (-a))) : -m ≤ a * b ∧ a * b ≤ m := by
  have h1 : 0 < max a (-a) := by omega
  have h2 : max b (-b) * max a (-a) ≤ m := by
    have h3 : max b (-b) ≤ m / max a (-a) := by rw [Int.tdiv_eq_ediv_of_nonneg hm] at h; omega
    have h4 := Int.mul_le_mul_of_nonneg_right h3 (show 0 ≤ max a (-a) by omega)
    have h5 := Int.ediv_mul_le m (show max a (-a) ≠ 0 by omega)
    omega
  have e : (a * b).natAbs = (max b (-b) * max a (-a)).natAbs := by
    rw [Int.natAbs_mul, Int.natAbs_mul, Nat.mul_comm]
    congr 1 <;> omega
  have h6 : 0 ≤ max b (-b) * max a (-a) := Int.mul_nonneg (by omega) (by omega)
  omega

set_option maxRecDepth 100000 in
set_option maxHeartbeats 1000000 in
theorem product_c (a b : Int) (w : World) (ha : -4294967296 ≤ a ∧ a ≤ 4294967296) (hb : -4294967296 ≤ b ∧ b ≤ 4294967296) : Calls Tryz.prog 72 #[.int .i64 a, .int .i64 b] w fun e w' => e = .returned (.agg #[.int .i64 (prodV a b).k, .int .i64 (prodV a b).n, .string (prodV a b).s]) ∧ Below w.heap.size w w' := by
  have HE := Lib.hid (show prodV a b = if a ≠ 0 ∧ max b (-b) > (4294967296 : Int).tdiv (max a (-a)) then V.null else numV (a * b) from rfl)
  have HPS := Lib.hid (fun h => prod_small (a := a) (b := b) (m := 4294967296) (by omega) h)
  generalize prodV a b = r at HE
  have hna : IntKind.i64.wrap (-a) = -a := IntWalk.i64_in _ (by omega)
  have hnb : IntKind.i64.wrap (-b) = -b := IntWalk.i64_in _ (by omega)
  by_cases h0 : a = 0
  · have t0 : (a != 0) = false := by simpa using h0
    rw [if_neg (fun h => h.1 h0)] at HE
    have hz : a * b = 0 := by rw [h0, Int.zero_mul]
    have hab : IntKind.i64.wrap (a * b) = a * b := by rw [hz]; rfl
    clear h0 hz
    go_enter Tryz.func72, Tryz.ntmps72
    go_wp2_with (go_at_call 70; refine (number_c _ _).mono ?_; rintro e w1 ⟨rfl, hb1⟩; obtain ⟨hc1, hf1⟩ := bcell hb1; have hz1 := (hb1).size; (try simp at hz1); have hl10 : w.heap.size < w1.heap.size := (by omega))
    refine bodyPost_ret (by simp [results, Tryz.results72, go_sem, *]; rfl) rfl ?_
    rw [HE.out]
    exact ⟨rfl, by (repeat (first | (with_reducible exact Below.refl _ _) | (with_reducible assumption) | (with_reducible refine Below.drew ?_) | (with_reducible refine below_drewN ?_ _) | ((with_reducible refine Below.setCell ?_ ?_ _); rotate_left; (focus (first | (simp; done) | (simp; omega) | omega))) | ((with_reducible refine Below.alloc ?_ ?_ _); rotate_left; (focus (first | (simp; done) | (simp; omega) | omega))) | ((with_reducible apply below_step1); (focus (with_reducible assumption)))))⟩
  have t0 : (a != 0) = true := by simpa using h0
  have hqd : (4294967296 : Int).tdiv (max a (-a)) = 4294967296 / max a (-a) := Int.tdiv_eq_ediv_of_nonneg (by omega)
  have hqb := tdiv_abs 4294967296 (max a (-a))
  obtain ⟨q, hq⟩ : ∃ q, (4294967296 : Int).tdiv (max a (-a)) = q := ⟨_, rfl⟩
  rw [hq] at hqb HE HPS hqd
  have hqw : IntKind.i64.wrap q = q := IntWalk.i64_in _ (by omega)
  clear hq
  by_cases ha0 : 0 ≤ a
  · have ma : max a (-a) = a := by omega
    rw [ma] at hqd
    have ha1 : -a ≤ a := by omega
    have hdv : 4294967296 / a = q := hqd.symm
    have hz : (a == 0) = false := by simpa using h0
    clear hqd
    by_cases hb0 : 0 ≤ b
    · have mb : max b (-b) = b := by omega
      rw [mb] at HE HPS
      have hb1 : -b ≤ b := by omega
      by_cases hc : q < b
      · rw [if_pos ⟨h0, hc⟩] at HE
        go_enter Tryz.func72, Tryz.ntmps72
        go_wp2_with fail
        refine bodyPost_ret (by simp [results, Tryz.results72, go_sem, *]; rfl) rfl ?_
        rw [HE.out]
        exact ⟨rfl, by (repeat (first | (with_reducible exact Below.refl _ _) | (with_reducible assumption) | (with_reducible refine Below.drew ?_) | (with_reducible refine below_drewN ?_ _) | ((with_reducible refine Below.setCell ?_ ?_ _); rotate_left; (focus (first | (simp; done) | (simp; omega) | omega))) | ((with_reducible refine Below.alloc ?_ ?_ _); rotate_left; (focus (first | (simp; done) | (simp; omega) | omega))) | ((with_reducible apply below_step1); (focus (with_reducible assumption)))))⟩
      · rw [if_neg (fun h => hc h.2)] at HE
        have hps := HPS.out h0 hc
        have hab : IntKind.i64.wrap (a * b) = a * b := IntWalk.i64_in _ (by omega)
        clear hps
        go_enter Tryz.func72, Tryz.ntmps72
        go_wp2_with (go_at_call 70; refine (number_c _ _).mono ?_; rintro e w1 ⟨rfl, hb1⟩; obtain ⟨hc1, hf1⟩ := bcell hb1; have hz1 := (hb1).size; (try simp at hz1); have hl10 : w.heap.size < w1.heap.size := (by omega))
        refine bodyPost_ret (by simp [results, Tryz.results72, go_sem, *]; rfl) rfl ?_
        rw [HE.out]
        exact ⟨rfl, by (repeat (first | (with_reducible exact Below.refl _ _) | (with_reducible assumption) | (with_reducible refine Below.drew ?_) | (with_reducible refine below_drewN ?_ _) | ((with_reducible refine Below.setCell ?_ ?_ _); rotate_left; (focus (first | (simp; done) | (simp; omega) | omega))) | ((with_reducible refine Below.alloc ?_ ?_ _); rotate_left; (focus (first | (simp; done) | (simp; omega) | omega))) | ((with_reducible apply below_step1); (focus (with_reducible assumption)))))⟩
    · have mb : max b (-b) = -b := by omega
      rw [mb] at HE HPS
      have hb1 : b < -b := by omega
      by_cases hc : q < -b
      · rw [if_pos ⟨h0, hc⟩] at HE
        go_enter Tryz.func72, Tryz.ntmps72
        go_wp2_with fail
        refine bodyPost_ret (by simp [results, Tryz.results72, go_sem, *]; rfl) rfl ?_
        rw [HE.out]
        exact ⟨rfl, by (repeat (first | (with_reducible exact Below.refl _ _) | (with_reducible assumption) | (with_reducible refine Below.drew ?_) | (with_reducible refine below_drewN ?_ _) | ((with_reducible refine Below.setCell ?_ ?_ _); rotate_left; (focus (first | (simp; done) | (simp; omega) | omega))) | ((with_reducible refine Below.alloc ?_ ?_ _); rotate_left; (focus (first | (simp; done) | (simp; omega) | omega))) | ((with_reducible apply below_step1); (focus (with_reducible assumption)))))⟩
      · rw [if_neg (fun h => hc h.2)] at HE
        have hps := HPS.out h0 hc
        have hab : IntKind.i64.wrap (a * b) = a * b := IntWalk.i64_in _ (by omega)
        clear hps
        go_enter Tryz.func72, Tryz.ntmps72
        go_wp2_with (go_at_call 70; refine (number_c _ _).mono ?_; rintro e w1 ⟨rfl, hb1⟩; obtain ⟨hc1, hf1⟩ := bcell hb1; have hz1 := (hb1).size; (try simp at hz1); have hl10 : w.heap.size < w1.heap.size := (by omega))
        refine bodyPost_ret (by simp [results, Tryz.results72, go_sem, *]; rfl) rfl ?_
        rw [HE.out]
        exact ⟨rfl, by (repeat (first | (with_reducible exact Below.refl _ _) | (with_reducible assumption) | (with_reducible refine Below.drew ?_) | (with_reducible refine below_drewN ?_ _) | ((with_reducible refine Below.setCell ?_ ?_ _); rotate_left; (focus (first | (simp; done) | (simp; omega) | omega))) | ((with_reducible refine Below.alloc ?_ ?_ _); rotate_left; (focus (first | (simp; done) | (simp; omega) | omega))) | ((with_reducible apply below_step1); (focus (with_reducible assumption)))))⟩
  · have ma : max a (-a) = -a := by omega
    rw [ma] at hqd
    have ha1 : a < -a := by omega
    have hdv : -Int.tdiv 4294967296 a = q := by rw [Int.tdiv_eq_ediv_of_nonneg (by omega), hqd, Int.ediv_neg]
    have hqx : wrap64 q = q := IntWalk.wrap64_in _ ⟨by omega, by omega⟩
    have hz : (-a == 0) = false := by simp; omega
    clear hqd
    by_cases hb0 : 0 ≤ b
    · have mb : max b (-b) = b := by omega
      rw [mb] at HE HPS
      have hb1 : -b ≤ b := by omega
      by_cases hc : q < b
      · rw [if_pos ⟨h0, hc⟩] at HE
        go_enter Tryz.func72, Tryz.ntmps72
        go_wp2_with fail
        refine bodyPost_ret (by simp [results, Tryz.results72, go_sem, *]; rfl) rfl ?_
        rw [HE.out]
        exact ⟨rfl, by (repeat (first | (with_reducible exact Below.refl _ _) | (with_reducible assumption) | (with_reducible refine Below.drew ?_) | (with_reducible refine below_drewN ?_ _) | ((with_reducible refine Below.setCell ?_ ?_ _); rotate_left; (focus (first | (simp; done) | (simp; omega) | omega))) | ((with_reducible refine Below.alloc ?_ ?_ _); rotate_left; (focus (first | (simp; done) | (simp; omega) | omega))) | ((with_reducible apply below_step1); (focus (with_reducible assumption)))))⟩
      · rw [if_neg (fun h => hc h.2)] at HE
        have hps := HPS.out h0 hc
        have hab : IntKind.i64.wrap (a * b) = a * b := IntWalk.i64_in _ (by omega)
        clear hps
        go_enter Tryz.func72, Tryz.ntmps72
        go_wp2_with (go_at_call 70; refine (number_c _ _).mono ?_; rintro e w1 ⟨rfl, hb1⟩; obtain ⟨hc1, hf1⟩ := bcell hb1; have hz1 := (hb1).size; (try simp at hz1); have hl10 : w.heap.size < w1.heap.size := (by omega))
        refine bodyPost_ret (by simp [results, Tryz.results72, go_sem, *]; rfl) rfl ?_
        rw [HE.out]
        exact ⟨rfl, by (repeat (first | (with_reducible exact Below.refl _ _) | (with_reducible assumption) | (with_reducible refine Below.drew ?_) | (with_reducible refine below_drewN ?_ _) | ((with_reducible refine Below.setCell ?_ ?_ _); rotate_left; (focus (first | (simp; done) | (simp; omega) | omega))) | ((with_reducible refine Below.alloc ?_ ?_ _); rotate_left; (focus (first | (simp; done) | (simp; omega) | omega))) | ((with_reducible apply below_step1); (focus (with_reducible assumption)))))⟩
    · have mb : max b (-b) = -b := by omega
      rw [mb] at HE HPS
      have hb1 : b < -b := by omega
      by_cases hc : q < -b
      · rw [if_pos ⟨h0, hc⟩] at HE
        go_enter Tryz.func72, Tryz.ntmps72
        go_wp2_with fail
        refine bodyPost_ret (by simp [results, Tryz.results72, go_sem, *]; rfl) rfl ?_
        rw [HE.out]
        exact ⟨rfl, by (repeat (first | (with_reducible exact Below.refl _ _) | (with_reducible assumption) | (with_reducible refine Below.drew ?_) | (with_reducible refine below_drewN ?_ _) | ((with_reducible refine Below.setCell ?_ ?_ _); rotate_left; (focus (first | (simp; done) | (simp; omega) | omega))) | ((with_reducible refine Below.alloc ?_ ?_ _); rotate_left; (focus (first | (simp; done) | (simp; omega) | omega))) | ((with_reducible apply below_step1); (focus (with_reducible assumption)))))⟩
      · rw [if_neg (fun h => hc h.2)] at HE
        have hps := HPS.out h0 hc
        have hab : IntKind.i64.wrap (a * b) = a * b := IntWalk.i64_in _ (by omega)
        clear hps
        go_enter Tryz.func72, Tryz.ntmps72
        go_wp2_with (go_at_call 70; refine (number_c _ _).mono ?_; rintro e w1 ⟨rfl, hb1⟩; obtain ⟨hc1, hf1⟩ := bcell hb1; have hz1 := (hb1).size; (try simp at hz1); have hl10 : w.heap.size < w1.heap.size := (by omega))
        refine bodyPost_ret (by simp [results, Tryz.results72, go_sem, *]; rfl) rfl ?_
        rw [HE.out]
        exact ⟨rfl, by (repeat (first | (with_reducible exact Below.refl _ _) | (with_reducible assumption) | (with_reducible refine Below.drew ?_) | (with_reducible refine below_drewN ?_ _) | ((with_reducible refine Below.setCell ?_ ?_ _); rotate_left; (focus (first | (simp; done) | (simp; omega) | omega))) | ((with_reducible refine Below.alloc ?_ ?_ _); rotate_left; (focus (first | (simp; done) | (simp; omega) | omega))) | ((with_reducible apply below_step1); (focus (with_reducible assumption)))))⟩
set_option maxRecDepth 100000 in
set_option maxHeartbeats 1000000 in
theorem quotient_c (a b : Int) (w : World) (ha : -4294967296 ≤ a ∧ a ≤ 4294967296) (_hb : -4294967296 ≤ b ∧ b ≤ 4294967296) : Calls Tryz.prog 73 #[.int .i64 a, .int .i64 b] w fun e w' => e = .returned (.agg #[.int .i64 (quotV a b).k, .int .i64 (quotV a b).n, .string (quotV a b).s]) ∧ Below w.heap.size w w' := by
  have HE := Lib.hid (show quotV a b = if b = 0 then V.null else if a.tmod b ≠ 0 ∧ (decide (a < 0) != decide (b < 0)) = true then numV (a.tdiv b - 1) else numV (a.tdiv b) from rfl)
  generalize quotV a b = r at HE
  by_cases h0 : b = 0
  · have t0 : (b == 0) = true := by simpa using h0
    rw [if_pos h0] at HE
    clear h0
    go_enter Tryz.func73, Tryz.ntmps73
    go_wp2_with fail
    refine bodyPost_ret (by simp [results, Tryz.results73, go_sem, *]; rfl) rfl ?_
    rw [HE.out]
    exact ⟨rfl, by (repeat (first | (with_reducible exact Below.refl _ _) | (with_reducible assumption) | (with_reducible refine Below.drew ?_) | (with_reducible refine below_drewN ?_ _) | ((with_reducible refine Below.setCell ?_ ?_ _); rotate_left; (focus (first | (simp; done) | (simp; omega) | omega))) | ((with_reducible refine Below.alloc ?_ ?_ _); rotate_left; (focus (first | (simp; done) | (simp; omega) | omega))) | ((with_reducible apply below_step1); (focus (with_reducible assumption)))))⟩
  have t0 : (b == 0) = false := by simpa using h0
  rw [if_neg h0] at HE
  obtain ⟨q, hq⟩ : ∃ q, a.tdiv b = q := ⟨_, rfl⟩
  obtain ⟨m, hm⟩ : ∃ m, a.tmod b = m := ⟨_, rfl⟩
  have hqb := tdiv_abs a b
  have hmb := tmod_abs a b
  rw [hq] at hqb HE
  rw [hm] at hmb HE
  have hqw : IntKind.i64.wrap q = q := IntWalk.i64_in _ (by omega)
  have hmw : IntKind.i64.wrap m = m := IntWalk.i64_in _ (by omega)
  have hq1 : IntKind.i64.wrap (q - 1) = q - 1 := IntWalk.i64_in _ (by omega)
  by_cases hm0 : m = 0
  · have tm : (m != 0) = false := by simpa using hm0
    rw [if_neg (fun h => h.1 hm0)] at HE
    clear hm0
    go_enter Tryz.func73, Tryz.ntmps73
    go_wp2_with (go_at_call 70; refine (number_c _ _).mono ?_; rintro e w1 ⟨rfl, hb1⟩; obtain ⟨hc1, hf1⟩ := bcell hb1; have hz1 := (hb1).size; (try simp at hz1); have hl10 : w.heap.size < w1.heap.size := (by omega))
    refine bodyPost_ret (by simp [results, Tryz.results73, go_sem, *]; rfl) rfl ?_
    rw [HE.out]
    exact ⟨rfl, by (repeat (first | (with_reducible exact Below.refl _ _) | (with_reducible assumption) | (with_reducible refine Below.drew ?_) | (with_reducible refine below_drewN ?_ _) | ((with_reducible refine Below.setCell ?_ ?_ _); rotate_left; (focus (first | (simp; done) | (simp; omega) | omega))) | ((with_reducible refine Below.alloc ?_ ?_ _); rotate_left; (focus (first | (simp; done) | (simp; omega) | omega))) | ((with_reducible apply below_step1); (focus (with_reducible assumption)))))⟩
  have tm : (m != 0) = true := by simpa using hm0
  by_cases sa : a < 0
  · have da : decide (a < 0) = true := by simpa using sa
    by_cases sb : b < 0
    · have db : decide (b < 0) = true := by simpa using sb
      rw [da, db] at HE
      rw [if_neg (fun h => by cases h.2)] at HE
      clear hm0
      go_enter Tryz.func73, Tryz.ntmps73
      go_wp2_with (go_at_call 70; refine (number_c _ _).mono ?_; rintro e w1 ⟨rfl, hb1⟩; obtain ⟨hc1, hf1⟩ := bcell hb1; have hz1 := (hb1).size; (try simp at hz1); have hl10 : w.heap.size < w1.heap.size := (by omega))
      refine bodyPost_ret (by simp [results, Tryz.results73, go_sem, *]; rfl) rfl ?_
      rw [HE.out]
      exact ⟨rfl, by (repeat (first | (with_reducible exact Below.refl _ _) | (with_reducible assumption) | (with_reducible refine Below.drew ?_) | (with_reducible refine below_drewN ?_ _) | ((with_reducible refine Below.setCell ?_ ?_ _); rotate_left; (focus (first | (simp; done) | (simp; omega) | omega))) | ((with_reducible refine Below.alloc ?_ ?_ _); rotate_left; (focus (first | (simp; done) | (simp; omega) | omega))) | ((with_reducible apply below_step1); (focus (with_reducible assumption)))))⟩
    · have db : decide (b < 0) = false := by simpa using sb
      rw [da, db] at HE
      rw [if_pos ⟨hm0, rfl⟩] at HE
      clear hm0
      go_enter Tryz.func73, Tryz.ntmps73
      go_wp2_with (go_at_call 70; refine (number_c _ _).mono ?_; rintro e w1 ⟨rfl, hb1⟩; obtain ⟨hc1, hf1⟩ := bcell hb1; have hz1 := (hb1).size; (try simp at hz1); have hl10 : w.heap.size < w1.heap.size := (by omega))
      refine bodyPost_ret (by simp [results, Tryz.results73, go_sem, *]; rfl) rfl ?_
      rw [HE.out]
      exact ⟨rfl, by (repeat (first | (with_reducible exact Below.refl _ _) | (with_reducible assumption) | (with_reducible refine Below.drew ?_) | (with_reducible refine below_drewN ?_ _) | ((with_reducible refine Below.setCell ?_ ?_ _); rotate_left; (focus (first | (simp; done) | (simp; omega) | omega))) | ((with_reducible refine Below.alloc ?_ ?_ _); rotate_left; (focus (first | (simp; done) | (simp; omega) | omega))) | ((with_reducible apply below_step1); (focus (with_reducible assumption)))))⟩
  · have da : decide (a < 0) = false := by simpa using sa
    by_cases sb : b < 0
    · have db : decide (b < 0) = true := by simpa using sb
      rw [da, db] at HE
      rw [if_pos ⟨hm0, rfl⟩] at HE
      clear hm0
      go_enter Tryz.func73, Tryz.ntmps73
      go_wp2_with (go_at_call 70; refine (number_c _ _).mono ?_; rintro e w1 ⟨rfl, hb1⟩; obtain ⟨hc1, hf1⟩ := bcell hb1; have hz1 := (hb1).size; (try simp at hz1); have hl10 : w.heap.size < w1.heap.size := (by omega))
      refine bodyPost_ret (by simp [results, Tryz.results73, go_sem, *]; rfl) rfl ?_
      rw [HE.out]
      exact ⟨rfl, by (repeat (first | (with_reducible exact Below.refl _ _) | (with_reducible assumption) | (with_reducible refine Below.drew ?_) | (with_reducible refine below_drewN ?_ _) | ((with_reducible refine Below.setCell ?_ ?_ _); rotate_left; (focus (first | (simp; done) | (simp; omega) | omega))) | ((with_reducible refine Below.alloc ?_ ?_ _); rotate_left; (focus (first | (simp; done) | (simp; omega) | omega))) | ((with_reducible apply below_step1); (focus (with_reducible assumption)))))⟩
    · have db : decide (b < 0) = false := by simpa using sb
      rw [da, db] at HE
      rw [if_neg (fun h => by cases h.2)] at HE
      clear hm0
      go_enter Tryz.func73, Tryz.ntmps73
      go_wp2_with (go_at_call 70; refine (number_c _ _).mono ?_; rintro e w1 ⟨rfl, hb1⟩; obtain ⟨hc1, hf1⟩ := bcell hb1; have hz1 := (hb1).size; (try simp at hz1); have hl10 : w.heap.size < w1.heap.size := (by omega))
      refine bodyPost_ret (by simp [results, Tryz.results73, go_sem, *]; rfl) rfl ?_
      rw [HE.out]
      exact ⟨rfl, by (repeat (first | (with_reducible exact Below.refl _ _) | (with_reducible assumption) | (with_reducible refine Below.drew ?_) | (with_reducible refine below_drewN ?_ _) | ((with_reducible refine Below.setCell ?_ ?_ _); rotate_left; (focus (first | (simp; done) | (simp; omega) | omega))) | ((with_reducible refine Below.alloc ?_ ?_ _); rotate_left; (focus (first | (simp; done) | (simp; omega) | omega))) | ((with_reducible apply below_step1); (focus (with_reducible assumption)))))⟩
set_option maxRecDepth 100000 in
set_option maxHeartbeats 2000000 in
theorem ofNumbers_c (op : Int) (a b : V) (w : World) (ha : -4294967296 ≤ a.n ∧ a.n ≤ 4294967296) (hb : -4294967296 ≤ b.n ∧ b.n ≤ 4294967296) : Calls Tryz.prog 52 #[.int .i64 op, .agg #[.int .i64 a.k, .int .i64 a.n, .string a.s], .agg #[.int .i64 b.k, .int .i64 b.n, .string b.s]] w fun e w' => e = .returned (.agg #[.int .i64 (numsV op a b).k, .int .i64 (numsV op a b).n, .string (numsV op a b).s]) ∧ Below w.heap.size w w' := by
  have HE := Lib.hid (show numsV op a b = if a.k ≠ 1 ∨ b.k ≠ 1 then V.null else if op = 3 then numV (-a.n) else if op = 13 then truthV (a.n == 0) else if op = 4 then numV (a.n + b.n) else if op = 5 then numV (a.n - b.n) else if op = 6 then prodV a.n b.n else quotV a.n b.n from rfl)
  generalize numsV op a b = r at HE
  have hP := product_c a.n b.n
  have hQ := quotient_c a.n b.n
  generalize prodV a.n b.n = pv at hP HE
  generalize quotV a.n b.n = qv at hQ HE
  have hna : IntKind.i64.wrap (-a.n) = -a.n := IntWalk.i64_in _ (by omega)
  have hsum : IntKind.i64.wrap (a.n + b.n) = a.n + b.n := IntWalk.i64_in _ (by omega)
  have hdif : IntKind.i64.wrap (a.n - b.n) = a.n - b.n := IntWalk.i64_in _ (by omega)
  by_cases hk : a.k = 1
  case neg =>
    have tk : (a.k != 1) = true := by simpa using hk
    rw [if_pos (.inl hk)] at HE
    clear hk
    go_enter Tryz.func52, Tryz.ntmps52
    go_wp2_with fail
    refine bodyPost_ret (by simp [results, Tryz.results52, go_sem, *]; rfl) rfl ?_
    rw [HE.out]
    exact ⟨rfl, by (repeat (first | (with_reducible exact Below.refl _ _) | (with_reducible assumption) | (with_reducible refine Below.drew ?_) | (with_reducible refine below_drewN ?_ _) | ((with_reducible refine Below.setCell ?_ ?_ _); rotate_left; (focus (first | (simp; done) | (simp; omega) | omega))) | ((with_reducible refine Below.alloc ?_ ?_ _); rotate_left; (focus (first | (simp; done) | (simp; omega) | omega))) | ((with_reducible apply below_step1); (focus (with_reducible assumption)))))⟩
  have tk : (a.k != 1) = false := by simpa using hk
  by_cases hk2 : b.k = 1
  case neg =>
    have tk2 : (b.k != 1) = true := by simpa using hk2
    rw [if_pos (.inr hk2)] at HE
    clear hk hk2
    go_enter Tryz.func52, Tryz.ntmps52
    go_wp2_with fail
    refine bodyPost_ret (by simp [results, Tryz.results52, go_sem, *]; rfl) rfl ?_
    rw [HE.out]
    exact ⟨rfl, by (repeat (first | (with_reducible exact Below.refl _ _) | (with_reducible assumption) | (with_reducible refine Below.drew ?_) | (with_reducible refine below_drewN ?_ _) | ((with_reducible refine Below.setCell ?_ ?_ _); rotate_left; (focus (first | (simp; done) | (simp; omega) | omega))) | ((with_reducible refine Below.alloc ?_ ?_ _); rotate_left; (focus (first | (simp; done) | (simp; omega) | omega))) | ((with_reducible apply below_step1); (focus (with_reducible assumption)))))⟩
  have tk2 : (b.k != 1) = false := by simpa using hk2
  rw [if_neg (show ¬ (a.k ≠ 1 ∨ b.k ≠ 1) by rintro (h | h); exact h hk; exact h hk2)] at HE
  clear hk hk2
  by_cases h3 : op = 3
  · have t3 : (op == 3) = true := by simpa using h3
    rw [if_pos h3] at HE
    clear h3
    go_enter Tryz.func52, Tryz.ntmps52
    go_wp2_with (go_at_call 70; refine (number_c _ _).mono ?_; rintro e w1 ⟨rfl, hb1⟩; obtain ⟨hc1, hf1⟩ := bcell hb1; have hz1 := (hb1).size; (try simp at hz1); have hl10 : w.heap.size < w1.heap.size := (by omega); have hl11 : w.heap.size + 1 < w1.heap.size := (by omega); have hl12 : w.heap.size + 1 + 1 < w1.heap.size := (by omega))
    refine bodyPost_ret (by simp [results, Tryz.results52, go_sem, *]; rfl) rfl ?_
    rw [HE.out]
    exact ⟨rfl, by (repeat (first | (with_reducible exact Below.refl _ _) | (with_reducible assumption) | (with_reducible refine Below.drew ?_) | (with_reducible refine below_drewN ?_ _) | ((with_reducible refine Below.setCell ?_ ?_ _); rotate_left; (focus (first | (simp; done) | (simp; omega) | omega))) | ((with_reducible refine Below.alloc ?_ ?_ _); rotate_left; (focus (first | (simp; done) | (simp; omega) | omega))) | ((with_reducible apply below_step1); (focus (with_reducible assumption)))))⟩
  have t3 : (op == 3) = false := by simpa using h3
  rw [if_neg h3] at HE
  clear h3
  by_cases h13 : op = 13
  · have t13 : (op == 13) = true := by simpa using h13
    rw [if_pos h13] at HE
    clear h13
    go_enter Tryz.func52, Tryz.ntmps52
    go_wp2_with (go_at_call 68; refine (truth_c _ _).mono ?_; rintro e w1 ⟨rfl, hb1⟩; obtain ⟨hc1, hf1⟩ := bcell hb1; have hz1 := (hb1).size; (try simp at hz1); have hl10 : w.heap.size < w1.heap.size := (by omega); have hl11 : w.heap.size + 1 < w1.heap.size := (by omega); have hl12 : w.heap.size + 1 + 1 < w1.heap.size := (by omega))
    refine bodyPost_ret (by simp [results, Tryz.results52, go_sem, *]; rfl) rfl ?_
    rw [HE.out]
    exact ⟨rfl, by (repeat (first | (with_reducible exact Below.refl _ _) | (with_reducible assumption) | (with_reducible refine Below.drew ?_) | (with_reducible refine below_drewN ?_ _) | ((with_reducible refine Below.setCell ?_ ?_ _); rotate_left; (focus (first | (simp; done) | (simp; omega) | omega))) | ((with_reducible refine Below.alloc ?_ ?_ _); rotate_left; (focus (first | (simp; done) | (simp; omega) | omega))) | ((with_reducible apply below_step1); (focus (with_reducible assumption)))))⟩
  have t13 : (op == 13) = false := by simpa using h13
  rw [if_neg h13] at HE
  clear h13
  by_cases h4 : op = 4
  · have t4 : (op == 4) = true := by simpa using h4
    rw [if_pos h4] at HE
    clear h4
    go_enter Tryz.func52, Tryz.ntmps52
    go_wp2_with (go_at_call 70; refine (number_c _ _).mono ?_; rintro e w1 ⟨rfl, hb1⟩; obtain ⟨hc1, hf1⟩ := bcell hb1; have hz1 := (hb1).size; (try simp at hz1); have hl10 : w.heap.size < w1.heap.size := (by omega); have hl11 : w.heap.size + 1 < w1.heap.size := (by omega); have hl12 : w.heap.size + 1 + 1 < w1.heap.size := (by omega))
    refine bodyPost_ret (by simp [results, Tryz.results52, go_sem, *]; rfl) rfl ?_
    rw [HE.out]
    exact ⟨rfl, by (repeat (first | (with_reducible exact Below.refl _ _) | (with_reducible assumption) | (with_reducible refine Below.drew ?_) | (with_reducible refine below_drewN ?_ _) | ((with_reducible refine Below.setCell ?_ ?_ _); rotate_left; (focus (first | (simp; done) | (simp; omega) | omega))) | ((with_reducible refine Below.alloc ?_ ?_ _); rotate_left; (focus (first | (simp; done) | (simp; omega) | omega))) | ((with_reducible apply below_step1); (focus (with_reducible assumption)))))⟩
  have t4 : (op == 4) = false := by simpa using h4
  rw [if_neg h4] at HE
  clear h4
  by_cases h5 : op = 5
  · have t5 : (op == 5) = true := by simpa using h5
    rw [if_pos h5] at HE
    clear h5
    go_enter Tryz.func52, Tryz.ntmps52
    go_wp2_with (go_at_call 70; refine (number_c _ _).mono ?_; rintro e w1 ⟨rfl, hb1⟩; obtain ⟨hc1, hf1⟩ := bcell hb1; have hz1 := (hb1).size; (try simp at hz1); have hl10 : w.heap.size < w1.heap.size := (by omega); have hl11 : w.heap.size + 1 < w1.heap.size := (by omega); have hl12 : w.heap.size + 1 + 1 < w1.heap.size := (by omega))
    refine bodyPost_ret (by simp [results, Tryz.results52, go_sem, *]; rfl) rfl ?_
    rw [HE.out]
    exact ⟨rfl, by (repeat (first | (with_reducible exact Below.refl _ _) | (with_reducible assumption) | (with_reducible refine Below.drew ?_) | (with_reducible refine below_drewN ?_ _) | ((with_reducible refine Below.setCell ?_ ?_ _); rotate_left; (focus (first | (simp; done) | (simp; omega) | omega))) | ((with_reducible refine Below.alloc ?_ ?_ _); rotate_left; (focus (first | (simp; done) | (simp; omega) | omega))) | ((with_reducible apply below_step1); (focus (with_reducible assumption)))))⟩
  have t5 : (op == 5) = false := by simpa using h5
  rw [if_neg h5] at HE
  clear h5
  by_cases h6 : op = 6
  · have t6 : (op == 6) = true := by simpa using h6
    rw [if_pos h6] at HE
    clear h6
    go_enter Tryz.func52, Tryz.ntmps52
    go_wp2_with (go_at_call 72; refine (hP _ ha hb).mono ?_; rintro e w1 ⟨rfl, hb1⟩; obtain ⟨hc1, hf1⟩ := bcell hb1; have hz1 := (hb1).size; (try simp at hz1); have hl10 : w.heap.size < w1.heap.size := (by omega); have hl11 : w.heap.size + 1 < w1.heap.size := (by omega); have hl12 : w.heap.size + 1 + 1 < w1.heap.size := (by omega))
    refine bodyPost_ret (by simp [results, Tryz.results52, go_sem, *]; rfl) rfl ?_
    rw [HE.out]
    exact ⟨rfl, by (repeat (first | (with_reducible exact Below.refl _ _) | (with_reducible assumption) | (with_reducible refine Below.drew ?_) | (with_reducible refine below_drewN ?_ _) | ((with_reducible refine Below.setCell ?_ ?_ _); rotate_left; (focus (first | (simp; done) | (simp; omega) | omega))) | ((with_reducible refine Below.alloc ?_ ?_ _); rotate_left; (focus (first | (simp; done) | (simp; omega) | omega))) | ((with_reducible apply below_step1); (focus (with_reducible assumption)))))⟩
  have t6 : (op == 6) = false := by simpa using h6
  rw [if_neg h6] at HE
  clear h6
  go_enter Tryz.func52, Tryz.ntmps52
  go_wp2_with (go_at_call 73; refine (hQ _ ha hb).mono ?_; rintro e w1 ⟨rfl, hb1⟩; obtain ⟨hc1, hf1⟩ := bcell hb1; have hz1 := (hb1).size; (try simp at hz1); have hl10 : w.heap.size < w1.heap.size := (by omega); have hl11 : w.heap.size + 1 < w1.heap.size := (by omega); have hl12 : w.heap.size + 1 + 1 < w1.heap.size := (by omega))
  refine bodyPost_ret (by simp [results, Tryz.results52, go_sem, *]; rfl) rfl ?_
  rw [HE.out]
  exact ⟨rfl, by (repeat (first | (with_reducible exact Below.refl _ _) | (with_reducible assumption) | (with_reducible refine Below.drew ?_) | (with_reducible refine below_drewN ?_ _) | ((with_reducible refine Below.setCell ?_ ?_ _); rotate_left; (focus (first | (simp; done) | (simp; omega) | omega))) | ((with_reducible refine Below.alloc ?_ ?_ _); rotate_left; (focus (first | (simp; done) | (simp; omega) | omega))) | ((with_reducible apply below_step1); (focus (with_reducible assumption)))))⟩
end Go.Proofs.YtojcabnjodfdmaaGreatDoor
