/- What the expressions of layer 3 are, in plain Lean: terms, trees, the text of a tree as a list of terms, reading a tree. No program in sight, no condition. The parser of expressions of layer 5, as the program reads tokens: an exact mirror in plain Lean. No program in sight, no condition. Bounds on what the parser of expressions does: it only goes forward, and has few references. Plain Lean, no condition. Small general lemmas: worlds that grew by one row, lists that are walked one by one, new rows. No condition. Rows that were just laid, and rows in a later world. No condition. Rows of tokens and of texts. No condition. -/
import Derived.Test.YtpnfbehbheddeaaGreatDoorBn00
import Derived.Test.YtpnfbehbheddeaaGreatDoorBn02
namespace Go.Proofs.YtpnfbehbheddeaaGreatDoor
set_option maxRecDepth 100000
set_option maxHeartbeats 8000000
set_option linter.unusedVariables false
set_option linter.unusedSimpArgs false
structure T where
  op : Int
  v : V
  c : Int
def T.cells (t : T) : List Value := [.int .i64 t.op, .int .i64 t.v.k, .int .i64 t.v.n, .string t.v.s, .int .i64 t.c]
def arity (op : Int) : Int := if op = 1 ∨ op = 2 then 0 else if op = 3 ∨ op = 9 ∨ op = 13 ∨ op = 16 then 1 else if op = 18 then 3 else if 1 ≤ op ∧ op ≤ 18 then 2 else -1
def ar (op : Int) : Nat := (arity op).toNat
theorem arity_range (op : Int) : -1 ≤ arity op ∧ arity op ≤ 3 := by
  unfold arity
  split
  · omega
  · split
    · omega
    · split
      · omega
      · split <;> omega
theorem ar_le (op : Int) : ar op ≤ 3 := by have := arity_range op; unfold ar; omega
theorem arity_known {op : Int} (h : 0 ≤ arity op) : 1 ≤ op ∧ op ≤ 18 := by
  unfold arity at h
  split at h
  · omega
  · split at h
    · omega
    · split at h
      · omega
      · split at h
        · assumption
        · omega
def T.ok (t : T) : Bool := decide (0 ≤ arity t.op) && (if t.op = 1 then t.c == 0 && (t.v.k != 0 && t.v.ok) else if t.op = 2 then decide (0 ≤ t.c) && t.v.beq V.null else t.c == 0 && t.v.beq V.null)
inductive X where
  | node (t : T) (ks : List X)
def X.t : X → T | .node t _ => t
mutual
def X.flat : X → List T | .node t ks => t :: flats ks
def flats : List X → List T
  | [] => []
  | x :: xs => x.flat ++ flats xs
end
mutual
def X.depth : X → Nat | .node _ ks => deepest ks + 1
def deepest : List X → Nat
  | [] => 0
  | x :: xs => max x.depth (deepest xs)
end
mutual
def X.wf : X → Bool | .node t ks => t.ok && (decide (ks.length = ar t.op) && wfs ks)
def wfs : List X → Bool
  | [] => true
  | x :: xs => x.wf && wfs xs
end
theorem X.flat_node (t : T) (ks : List X) : (X.node t ks).flat = t :: flats ks := by rw [X.flat]
theorem flats_cons (x : X) (xs : List X) : flats (x :: xs) = x.flat ++ flats xs := by rw [flats]
theorem flats_snoc (xs : List X) (x : X) : flats (xs ++ [x]) = flats xs ++ x.flat := by
  induction xs with
  | nil => simp [flats]
  | cons y ys ih => simp [flats, ih]
theorem deepest_snoc (xs : List X) (x : X) : deepest (xs ++ [x]) = max (deepest xs) x.depth := by
  induction xs with
  | nil => simp [deepest]
  | cons y ys ih => simp only [List.cons_append, deepest, ih]; omega
theorem wfs_snoc (xs : List X) (x : X) : wfs (xs ++ [x]) = (wfs xs && x.wf) := by
  induction xs with
  | nil => simp [wfs]
  | cons y ys ih => simp [wfs, ih, Bool.and_assoc]
theorem X.flat_pos (x : X) : 0 < x.flat.length := by cases x; rw [X.flat_node]; simp
theorem X.depth_pos (x : X) : 0 < x.depth := by cases x; simp [X.depth]
theorem X.flat_head (x : X) : ∃ r, x.flat = x.t :: r := by cases x with | node t ks => exact ⟨flats ks, X.flat_node t ks⟩
def readK : Nat → Nat → List T → Option (List X × List T)
  | _, 0, l => some ([], l)
  | 0, _ + 1, _ => none
  | f + 1, n + 1, l => match l with
    | [] => none
    | t :: r => if t.ok then (match readK f (ar t.op) r with
        | none => none
        | some (ks, r') => match readK (f + 1) n r' with
          | none => none
          | some (xs, r'') => some (.node t ks :: xs, r'')) else none
termination_by f n => (f, n)
def readX (f : Nat) (l : List T) : Option (X × List T) := match f, l with
  | f + 1, t :: r => if t.ok then (readK f (ar t.op) r).map fun y => (.node t y.1, y.2) else none
  | _, _ => none
theorem readK_zero (f : Nat) (l : List T) : readK f 0 l = some ([], l) := by rw [readK]
theorem readK_cons (f n : Nat) (l : List T) : readK f (n + 1) l = match readX f l with
    | none => none
    | some (x, r) => match readK f n r with
      | none => none
      | some (xs, r') => some (x :: xs, r') := by
  cases f with
  | zero => rw [readK]; simp [readX]
  | succ f =>
    cases l with
    | nil => rw [readK]; simp [readX]
    | cons t r =>
      rw [readK, readX]
      split
      · cases readK f (ar t.op) r with
        | none => rfl
        | some y => rfl
      · rfl
theorem readK_snoc (f : Nat) : ∀ (n : Nat) (l : List T), readK f (n + 1) l = match readK f n l with
    | none => none
    | some (xs, r) => match readX f r with
      | none => none
      | some (x, r') => some (xs ++ [x], r') := by
  intro n
  induction n with
  | zero =>
    intro l
    rw [readK_cons, readK_zero]
    simp only
    cases readX f l with
    | none => rfl
    | some y => obtain ⟨x, r⟩ := y; simp only [readK_zero]; rfl
  | succ n ih =>
    intro l
    rw [readK_cons]
    conv => rhs; rw [readK_cons]
    cases readX f l with
    | none => rfl
    | some y =>
      obtain ⟨x, r⟩ := y
      simp only
      rw [ih r]
      cases readK f n r with
      | none => rfl
      | some z =>
        obtain ⟨xs, r'⟩ := z
        simp only
        cases readX f r' with
        | none => rfl
        | some u => rfl
theorem readK_some : ∀ (f n : Nat) (l : List T) (xs : List X) (r : List T), readK f n l = some (xs, r) → l = flats xs ++ r ∧ xs.length = n ∧ wfs xs = true ∧ deepest xs ≤ f := by
  intro f
  induction f with
  | zero =>
    intro n l xs r h
    cases n with
    | zero => rw [readK_zero] at h; simp at h; obtain ⟨rfl, rfl⟩ := h; simp [flats, wfs, deepest]
    | succ n => rw [readK_cons] at h; simp [readX] at h
  | succ f ihf =>
    intro n
    induction n with
    | zero => intro l xs r h; rw [readK_zero] at h; simp at h; obtain ⟨rfl, rfl⟩ := h; simp [flats, wfs, deepest]
    | succ n ih =>
      intro l xs r h
      rw [readK_cons] at h
      cases hx : readX (f + 1) l with
      | none => rw [hx] at h; cases h
      | some y =>
        obtain ⟨x, r1⟩ := y
        rw [hx] at h
        simp only at h
        cases hk : readK (f + 1) n r1 with
        | none => rw [hk] at h; cases h
        | some z =>
          obtain ⟨ys, r2⟩ := z
          rw [hk] at h
          simp at h
          obtain ⟨rfl, rfl⟩ := h
          obtain ⟨e1, e2, e3, e4⟩ := ih r1 ys r2 hk
          cases l with
          | nil => simp [readX] at hx
          | cons t r0 =>
            simp only [readX] at hx
            split at hx
            · rename_i hok
              obtain ⟨⟨ks, r3⟩, g1, g2⟩ := Option.map_eq_some_iff.1 hx
              simp at g2
              obtain ⟨rfl, rfl⟩ := g2
              obtain ⟨k1, k2, k3, k4⟩ := ihf _ _ _ _ g1
              refine ⟨?_, by simp [e2], ?_, ?_⟩
              · rw [flats_cons, X.flat_node, k1, e1]; simp
              · simp [wfs, X.wf, hok, k2, k3, e3]
              · simp only [deepest, X.depth]; omega
            · cases hx
theorem readX_some {f : Nat} {l : List T} {x : X} {r : List T} (h : readX f l = some (x, r)) : l = x.flat ++ r ∧ x.wf = true ∧ x.depth ≤ f := by
  have hk : readK f 1 l = some ([x], r) := by rw [readK_cons, h]; simp only [readK_zero]
  obtain ⟨e1, _, e3, e4⟩ := readK_some f 1 l [x] r hk
  refine ⟨by simpa [flats] using e1, by simpa [wfs] using e3, by simpa [deepest] using e4⟩
mutual
theorem readX_flat (x : X) (r : List T) (f : Nat) (hw : x.wf = true) (hd : x.depth ≤ f) : readX f (x.flat ++ r) = some (x, r) := by
  match x with
  | .node t ks =>
    simp only [X.wf, Bool.and_eq_true, decide_eq_true_eq] at hw
    simp only [X.depth] at hd
    obtain ⟨f, rfl⟩ : ∃ g, f = g + 1 := ⟨f - 1, by omega⟩
    rw [X.flat_node]
    simp only [List.cons_append, readX]
    rw [if_pos hw.1, ← hw.2.1, readK_flat ks r f hw.2.2 (by omega)]
    rfl
theorem readK_flat (xs : List X) (r : List T) (f : Nat) (hw : wfs xs = true) (hd : deepest xs ≤ f) : readK f xs.length (flats xs ++ r) = some (xs, r) := by
  match xs with
  | [] => simp [readK_zero, flats]
  | x :: xs =>
    simp only [wfs, Bool.and_eq_true] at hw
    simp only [deepest] at hd
    rw [List.length_cons, readK_cons, flats_cons, List.append_assoc, readX_flat x (flats xs ++ r) f hw.1 (by omega)]
    simp only
    rw [readK_flat xs r f hw.2 (by omega)]
end
mutual
theorem X.depth_flat (x : X) : x.depth ≤ x.flat.length := by
  match x with
  | .node t ks =>
    have := deepest_flats ks
    simp only [X.depth, X.flat_node, List.length_cons]
    omega
theorem deepest_flats (xs : List X) : deepest xs ≤ (flats xs).length := by
  match xs with
  | [] => simp [deepest]
  | x :: xs =>
    have h1 := X.depth_flat x
    have h2 := deepest_flats xs
    simp only [deepest, flats_cons, List.length_append]
    omega
end
theorem readX_full {f : Nat} {l : List T} (hf : l.length ≤ f) {f' : Nat} {x : X} {r : List T} (h : readX f' l = some (x, r)) : readX f l = some (x, r) := by
  obtain ⟨rfl, h2, h3⟩ := readX_some h
  have := x.depth_flat
  exact readX_flat x r f h2 (by simp at hf; omega)
theorem readX_none {f f' : Nat} {l : List T} (hf : l.length ≤ f) (h : readX f l = none) : readX f' l = none := by
  cases h' : readX f' l with
  | none => rfl
  | some y => obtain ⟨x, r⟩ := y; rw [readX_full hf h'] at h; cases h
def validE (l : List T) : Bool := decide (l.length ≤ 64) && (match readX 16 l with
  | some (_, r) => r.isEmpty
  | none => false)
theorem validE_iff (l : List T) : validE l = true ↔ l.length ≤ 64 ∧ ∃ x : X, l = x.flat ∧ x.wf = true ∧ x.depth ≤ 16 := by
  unfold validE
  rw [Bool.and_eq_true, decide_eq_true_eq]
  constructor
  · rintro ⟨h1, h2⟩
    refine ⟨h1, ?_⟩
    cases h : readX 16 l with
    | none => rw [h] at h2; cases h2
    | some y =>
      obtain ⟨x, r⟩ := y
      rw [h] at h2
      simp only [List.isEmpty_iff] at h2
      subst h2
      obtain ⟨e1, e2, e3⟩ := readX_some h
      exact ⟨x, by simpa using e1, e2, e3⟩
  · rintro ⟨h1, x, rfl, h2, h3⟩
    refine ⟨h1, ?_⟩
    have := readX_flat x [] 16 h2 h3
    rw [List.append_nil] at this
    rw [this]
    rfl
abbrev Bs := List UInt8
structure Ps where
  pos : Nat
  failed : Bool
  off : Int
  refs : List (Tk × Bool)
structure Src where
  toks : List Tk
  fin : Int
def Ps.fail (e : Src) (s : Ps) : Ps := { s with failed := true, off := if s.failed = true then s.off else (match e.toks[s.pos]? with | some t => t.pos | none => e.fin), pos := e.toks.length }
def isKindP (e : Src) (s : Ps) (ahead : Nat) (k : Int) : Bool := match e.toks[s.pos + ahead]? with
  | some t => t.kind == k
  | none => false
def isP (e : Src) (s : Ps) (ahead : Nat) (ws : List Bs) : Bool := match e.toks[s.pos + ahead]? with
  | some t => (t.kind == 1 || t.kind == 4) && ws.contains t.text
  | none => false
def acceptP (e : Src) (s : Ps) (ws : List Bs) : Bool × Ps := if isP e s 0 ws = true then (true, { s with pos := s.pos + 1 }) else (false, s)
def textP (e : Src) (i : Nat) : Bs := match e.toks[i]? with
  | some t => t.text
  | none => []
def expectP (e : Src) (s : Ps) (ws : List Bs) : Bs × Ps := if isP e s 0 ws = true then (textP e s.pos, { s with pos := s.pos + 1 }) else ([], s.fail e)
def takeP (e : Src) (s : Ps) (k : Int) : Tk × Ps := if isKindP e s 0 k = true then (e.toks.getD s.pos Tk.zero, { s with pos := s.pos + 1 }) else (Tk.zero, s.fail e)
def wOr : Bs := [111, 114]
def wAnd : Bs := [97, 110, 100]
def wNot : Bs := [110, 111, 116]
def wLeft : Bs := [108, 101, 102, 116]
def wRight : Bs := [114, 105, 103, 104, 116]
def wFuncs : List Bs := [[108, 101, 110, 103, 116, 104], [105, 115, 110, 117, 108, 108], [112, 114, 101, 102, 105, 120], [99, 111, 97, 108, 101, 115, 99, 101], [105, 102]]
def opsP : Nat → List Bs
  | 6 => [wOr]
  | 5 => [wAnd]
  | 3 => [[43], [45], [43, 43]]
  | 2 => [[42], [47]]
  | _ => []
def opP (w : Bs) : Int := if w = wOr then 15 else if w = wAnd then 14 else if w = [61] then 11 else if w = [60] then 12 else if w = [43] then 4 else if w = [45] then 5 else if w = [43, 43] then 8 else if w = [42] then 6 else 7
def funP (w : Bs) : Int := if w = [108, 101, 110, 103, 116, 104] then 9 else if w = [105, 115, 110, 117, 108, 108] then 16 else if w = [112, 114, 101, 102, 105, 120] then 10 else if w = [99, 111, 97, 108, 101, 115, 99, 101] then 17 else 18
def opX (op : Int) (ks : List X) : X := .node ⟨op, V.null, 0⟩ ks
def cstX (v : V) : X := .node ⟨1, v, 0⟩ []
def refP (e : Src) (right : Bool) (s : Ps) : X × Ps :=
  let t := takeP e s 1
  (.node ⟨2, V.null, s.refs.length⟩ [], { t.2 with refs := s.refs ++ [(t.1, right)] })
mutual
def parseP (e : Src) : Nat → Nat → Ps → X × Ps
  | 0, _, s => (opX 0 [], s)
  | f + 1, lv, s =>
    match lv with
    | 0 =>
      if isKindP e s 0 2 = true then
        let t := takeP e s 2
        (cstX ⟨1, t.1.int, ⟨#[]⟩⟩, t.2)
      else if isKindP e s 0 3 = true then
        let t := takeP e s 3
        (cstX ⟨2, 0, ⟨t.1.text.toArray⟩⟩, t.2)
      else if isP e s 0 [[40]] = true then
        let x := parseP e f 6 { s with pos := s.pos + 1 }
        (x.1, (expectP e x.2 [[41]]).2)
      else if isP e s 0 wFuncs = true ∧ isP e s 1 [[40]] = true then
        let n := takeP e s 1
        let p := expectP e n.2 [[40]]
        let x := parseP e f 6 p.2
        let l := argsP e f ((arity (funP n.1.text)).toNat - 1) [x.1] x.2
        (opX (funP n.1.text) l.1, (expectP e l.2 [[41]]).2)
      else if isP e s 0 [wLeft, wRight] = true ∧ isP e s 1 [[46]] = true then
        let w := expectP e s [wLeft, wRight]
        refP e (w.1 == wRight) (expectP e w.2 [[46]]).2
      else refP e false s
    | 1 =>
      if isP e s 0 [[45]] = true then
        if isKindP e { s with pos := s.pos + 1 } 0 2 = true then
          let t := takeP e { s with pos := s.pos + 1 } 2
          (cstX ⟨1, -t.1.int, ⟨#[]⟩⟩, t.2)
        else
          let x := parseP e f 1 { s with pos := s.pos + 1 }
          (opX 3 [x.1], x.2)
      else if isP e s 0 [wNot] = true then
        let x := parseP e f 1 { s with pos := s.pos + 1 }
        (opX 13 [x.1], x.2)
      else parseP e f 0 s
    | 4 =>
      let x := parseP e f 3 s
      if isP e x.2 0 [[61], [60]] = true then
        let w := expectP e x.2 [[61], [60]]
        let y := parseP e f 3 w.2
        (opX (opP w.1) [x.1, y.1], y.2)
      else if isP e x.2 0 [[60, 61]] = true then
        let y := parseP e f 3 { x.2 with pos := x.2.pos + 1 }
        (opX 13 [opX 12 [y.1, x.1]], y.2)
      else x
    | lv + 1 =>
      let x := parseP e f lv s
      chainP e f (lv + 1) x.1 x.2
def chainP (e : Src) : Nat → Nat → X → Ps → X × Ps
  | 0, _, x, s => (x, s)
  | f + 1, lv, x, s =>
    if isP e s 0 (opsP lv) = true then
      let w := expectP e s (opsP lv)
      let y := parseP e f (lv - 1) w.2
      chainP e f lv (opX (opP w.1) [x, y.1]) y.2
    else (x, s)
def argsP (e : Src) : Nat → Nat → List X → Ps → List X × Ps
  | 0, _, l, s => (l, s)
  | _ + 1, 0, l, s => (l, s)
  | f + 1, k + 1, l, s =>
    let x := parseP e f 6 (expectP e s [[44]]).2
    argsP e f k (l ++ [x.1]) x.2
end
def Src.fuel (e : Src) : Nat := 10 * e.toks.length + 20
structure Xr where
  root : Option X
  refs : List (Tk × Bool)
def wholeP (e : Src) (s : Ps) : Xr × Ps :=
  let x := parseP e e.fuel 6 { s with refs := [] }
  (⟨some x.1, x.2.refs⟩, x.2)
def findP (l : List Bs) (s : Bs) : Option Nat := l.findIdx? (· == s)
def Src.meas (e : Src) (s : Ps) : Nat := s.refs.length + 3 * (e.toks.length - s.pos)
structure StepP (e : Src) (j : Nat) (s s' : Ps) : Prop where
  le : s.pos ≤ s'.pos
  ok : s'.pos ≤ e.toks.length
  refs : s.refs.length ≤ s'.refs.length
  meas : e.meas s' ≤ e.meas s + j
section
variable {e : Src} {s s1 s2 : Ps} {i j k : Nat}
theorem StepP.refl (h : s.pos ≤ e.toks.length) : StepP e j s s := ⟨Nat.le_refl _, h, Nat.le_refl _, by omega⟩
theorem StepP.trans (h : StepP e i s s1) (h2 : StepP e j s1 s2) (hk : i + j ≤ k) : StepP e k s s2 := ⟨Nat.le_trans h.le h2.le, h2.ok, Nat.le_trans h.refs h2.refs, by have := h.meas; have := h2.meas; omega⟩
theorem isP_lt {a : Nat} {ws : List Bs} (h : isP e s a ws = true) : s.pos + a < e.toks.length := by
  unfold isP at h
  cases h1 : e.toks[s.pos + a]? with
  | none => rw [h1] at h; cases h
  | some t => exact (List.getElem?_eq_some_iff.1 h1).1
theorem isKindP_lt {a : Nat} {k : Int} (h : isKindP e s a k = true) : s.pos + a < e.toks.length := by
  unfold isKindP at h
  cases h1 : e.toks[s.pos + a]? with
  | none => rw [h1] at h; cases h
  | some t => exact (List.getElem?_eq_some_iff.1 h1).1
theorem step_fail (h : s.pos ≤ e.toks.length) : StepP e 0 s (s.fail e) := ⟨h, Nat.le_refl _, Nat.le_refl _, by simp [Src.meas, Ps.fail]⟩
theorem fail_more (h : s.pos < e.toks.length) : e.meas (s.fail e) + 3 ≤ e.meas s := by simp [Src.meas, Ps.fail]; omega
theorem step_next (h : s.pos < e.toks.length) : StepP e 0 s { s with pos := s.pos + 1 } := ⟨Nat.le_succ _, h, Nat.le_refl _, by simp [Src.meas]; omega⟩
theorem next_more (h : s.pos < e.toks.length) : e.meas { s with pos := s.pos + 1 } + 3 ≤ e.meas s := by simp [Src.meas]; omega
theorem step_expect (ws : List Bs) (h : s.pos ≤ e.toks.length) : StepP e 0 s (expectP e s ws).2 := by
  unfold expectP
  by_cases hi : isP e s 0 ws = true
  · rw [if_pos hi]; exact step_next (isP_lt hi)
  · rw [if_neg hi]; exact step_fail h
theorem expect_more (ws : List Bs) (h : s.pos < e.toks.length) : e.meas (expectP e s ws).2 + 3 ≤ e.meas s := by
  unfold expectP
  by_cases hi : isP e s 0 ws = true
  · rw [if_pos hi]; exact next_more (isP_lt hi)
  · rw [if_neg hi]; exact fail_more h
theorem step_take (k : Int) (h : s.pos ≤ e.toks.length) : StepP e 0 s (takeP e s k).2 := by
  unfold takeP
  by_cases hi : isKindP e s 0 k = true
  · rw [if_pos hi]; exact step_next (isKindP_lt hi)
  · rw [if_neg hi]; exact step_fail h
theorem take_more (k : Int) (h : s.pos < e.toks.length) : e.meas (takeP e s k).2 + 3 ≤ e.meas s := by
  unfold takeP
  by_cases hi : isKindP e s 0 k = true
  · rw [if_pos hi]; exact next_more (isKindP_lt hi)
  · rw [if_neg hi]; exact fail_more h
theorem take_refs (k : Int) : (takeP e s k).2.refs = s.refs := by
  unfold takeP
  split <;> rfl
theorem expect_refs (ws : List Bs) : (expectP e s ws).2.refs = s.refs := by
  unfold expectP
  split <;> rfl
theorem step_ref (right : Bool) (h : s.pos ≤ e.toks.length) : StepP e 1 s (refP e right s).2 := by
  have h1 := step_take (e := e) (s := s) 1 h
  have h2 := h1.meas
  refine ⟨h1.le, h1.ok, by simp [refP], ?_⟩
  unfold refP Src.meas at *
  simp only [take_refs, List.length_append, List.length_cons, List.length_nil] at h2 ⊢
  omega
theorem StepP.after (h : StepP e 0 s s1) (hm : e.meas s1 + 3 ≤ e.meas s) (h2 : StepP e j s1 s2) (hk : j ≤ k + 3) : StepP e k s s2 := ⟨Nat.le_trans h.le h2.le, h2.ok, Nat.le_trans h.refs h2.refs, by have := h2.meas; omega⟩
end
theorem fun_ar (w : Bs) : (arity (funP w)).toNat - 1 ≤ 2 := by
  unfold funP
  (repeat' split) <;> decide
theorem parse_steps (e : Src) : ∀ f, (∀ lv s, s.pos ≤ e.toks.length → StepP e 1 s (parseP e f lv s).2) ∧ (∀ lv x s, s.pos ≤ e.toks.length → StepP e 0 s (chainP e f lv x s).2) ∧ (∀ k l s, s.pos ≤ e.toks.length → StepP e k s (argsP e f k l s).2) := by
  intro f
  induction f with
  | zero =>
    refine ⟨fun lv s h => ?_, fun lv x s h => ?_, fun k l s h => ?_⟩
    · unfold parseP; exact StepP.refl h
    · unfold chainP; exact StepP.refl h
    · unfold argsP; exact StepP.refl h
  | succ f ih =>
    obtain ⟨ihp, ihc, iha⟩ := ih
    have chainlike : ∀ lv s, s.pos ≤ e.toks.length → StepP e 1 s (chainP e f (lv + 1) (parseP e f lv s).1 (parseP e f lv s).2).2 := fun lv s h => by
      have h1 := ihp lv s h
      exact h1.trans (ihc _ _ _ h1.ok) (by omega)
    refine ⟨fun lv s h => ?_, fun lv x s h => ?_, fun k l s h => ?_⟩
    · match lv with
      | 0 =>
        unfold parseP
        by_cases h1 : isKindP e s 0 2 = true
        · simp only [if_pos h1]; exact (step_take 2 h).trans (StepP.refl (j := 0) (step_take 2 h).ok) (by omega)
        simp only [if_neg h1]
        by_cases h2 : isKindP e s 0 3 = true
        · simp only [if_pos h2]; exact (step_take 3 h).trans (StepP.refl (j := 0) (step_take 3 h).ok) (by omega)
        simp only [if_neg h2]
        by_cases h3 : isP e s 0 [[40]] = true
        · simp only [if_pos h3]
          have q0 := step_next (isP_lt h3)
          have q1 := ihp 6 _ q0.ok
          exact (q0.trans q1 (k := 1) (by omega)).trans (step_expect [[41]] q1.ok) (by omega)
        simp only [if_neg h3]
        by_cases h4 : isP e s 0 wFuncs = true ∧ isP e s 1 [[40]] = true
        · simp only [if_pos h4]
          have q0 := step_take (e := e) (s := s) 1 h
          have m0 := take_more (e := e) (s := s) 1 (isP_lt h4.1)
          have q1 := step_expect (e := e) [[40]] q0.ok
          have q2 := ihp 6 _ q1.ok
          have q3 := iha ((arity (funP (takeP e s 1).1.text)).toNat - 1) [(parseP e f 6 (expectP e (takeP e s 1).2 [[40]]).2).1] _ q2.ok
          have hk := fun_ar (takeP e s 1).1.text
          have q4 := step_expect (e := e) [[41]] q3.ok
          exact q0.after m0 (j := 4) (((q1.trans q2 (k := 1) (by omega)).trans q3 (k := 4) (by omega)).trans q4 (by omega)) (by omega)
        simp only [if_neg h4]
        by_cases h5 : isP e s 0 [wLeft, wRight] = true ∧ isP e s 1 [[46]] = true
        · simp only [if_pos h5]
          have q0 := step_expect (e := e) (s := s) [wLeft, wRight] h
          have q1 := step_expect (e := e) [[46]] q0.ok
          exact (q0.trans q1 (k := 0) (by omega)).trans (step_ref _ q1.ok) (by omega)
        simp only [if_neg h5]
        exact step_ref false h
      | 1 =>
        unfold parseP
        by_cases h1 : isP e s 0 [[45]] = true
        · simp only [if_pos h1]
          have q0 := step_next (isP_lt h1)
          by_cases h2 : isKindP e { s with pos := s.pos + 1 } 0 2 = true
          · simp only [if_pos h2]
            exact q0.trans (step_take 2 q0.ok) (by omega)
          · simp only [if_neg h2]
            exact q0.trans (ihp 1 _ q0.ok) (by omega)
        simp only [if_neg h1]
        by_cases h2 : isP e s 0 [wNot] = true
        · simp only [if_pos h2]
          have q0 := step_next (isP_lt h2)
          exact q0.trans (ihp 1 _ q0.ok) (by omega)
        simp only [if_neg h2]
        exact ihp 0 s h
      | 4 =>
        unfold parseP
        have q0 := ihp 3 s h
        by_cases h1 : isP e (parseP e f 3 s).2 0 [[61], [60]] = true
        · simp only [if_pos h1]
          have q1 := step_expect (e := e) [[61], [60]] q0.ok
          have m1 := expect_more (e := e) (s := (parseP e f 3 s).2) [[61], [60]] (isP_lt h1)
          exact q0.trans (q1.after m1 (ihp 3 _ q1.ok) (k := 0) (by omega)) (by omega)
        simp only [if_neg h1]
        by_cases h2 : isP e (parseP e f 3 s).2 0 [[60, 61]] = true
        · simp only [if_pos h2]
          have q1 := step_next (isP_lt h2)
          have m1 := next_more (isP_lt h2)
          exact q0.trans (q1.after m1 (ihp 3 _ q1.ok) (k := 0) (by omega)) (by omega)
        simp only [if_neg h2]
        exact q0
      | 2 => unfold parseP; exact chainlike 1 s h
      | 3 => unfold parseP; exact chainlike 2 s h
      | lv + 5 => unfold parseP; exact chainlike (lv + 4) s h
    · unfold chainP
      by_cases h1 : isP e s 0 (opsP lv) = true
      · simp only [if_pos h1]
        have q0 := step_expect (e := e) (s := s) (opsP lv) h
        have m0 := expect_more (e := e) (s := s) (opsP lv) (isP_lt h1)
        have q1 := ihp (lv - 1) _ q0.ok
        exact q0.after m0 (q1.trans (ihc _ _ _ q1.ok) (k := 1) (by omega)) (by omega)
      · simp only [if_neg h1]
        exact StepP.refl h
    · match k with
      | 0 => unfold argsP; exact StepP.refl h
      | k + 1 =>
        unfold argsP
        have q0 := step_expect (e := e) (s := s) [[44]] h
        have q1 := ihp 6 _ q0.ok
        exact (q0.trans q1 (k := 1) (by omega)).trans (iha _ _ _ q1.ok) (by omega)
theorem parse_step (e : Src) (f lv : Nat) (s : Ps) (h : s.pos ≤ e.toks.length) : StepP e 1 s (parseP e f lv s).2 := (parse_steps e f).1 lv s h
open Go.RowKit
theorem grown_two {w w1 w2 : World} {r r1 : Option Nat} {m : Nat} (h : w.grownBy w1 r) (hr : r1 = r ∨ r1 = some m) (hm : w.heap.size ≤ m) (h1 : w1.grownBy w2 r1) : w.grownBy w2 r :=
  ⟨h1.os.trans h.os, h1.tape.trans h.tape, h1.output.trans h.output, Nat.le_trans h.size h1.size, fun k hk hne => (h1.block k (Nat.lt_of_lt_of_le hk h.size) (by
    rcases hr with e | e
    · rw [e]; exact hne
    · rw [e]; intro h0; injection h0 with h0; omega)).trans (h.block k hk hne)⟩
theorem take_all_succ {α : Type} (p : α → Bool) (l : List α) (k : Nat) (v : α) (h : l[k]? = some v) : (l.take (k + 1)).all p = ((l.take k).all p && p v) := by
  rw [List.take_add_one, h]; simp
theorem all_not_at {α : Type} (p : α → Bool) (l : List α) (k : Nat) (v : α) (h : l[k]? = some v) (hp : p v = false) : l.all p = false := by
  rw [Bool.eq_false_iff]
  intro h1
  have := List.all_eq_true.1 h1 v (List.mem_of_getElem? h)
  rw [hp] at this
  cases this
theorem RowOf.later {α : Type} {cells : α → List Value} {w w' : World} {A : Option Addr} {n : Nat} {xs : List α} (h : RowOf cells w w.heap.size A n xs) (hb : Below w.heap.size w w') : RowOf cells w' w'.heap.size A n xs := (h.below hb).more hb.size
abbrev RowK := @RowOf Tk Tk.cells
theorem stK : SliceTy Tryz.prog 47 100 4 40 := SliceTy.mk' Tryz.underlying47 (z := .agg #[.int .i64 0, .string ⟨#[]⟩, .int .i64 0, .int .i64 0]) (by kernel_rfl) rfl (by decide) (by decide)
theorem RowK.at4 {w : World} {B n : Nat} {A : Option Addr} {ts : List Tk} (h : RowK w B A n ts) {k : Nat} (hk : k < n) :
   ∃ b off t, A = some ⟨b, off, none⟩ ∧ b < B ∧ ts[k]? = some t ∧ w.cell? ⟨b, off + k * 4, none⟩ = some (.int .i64 t.kind) ∧ w.cell? ⟨b, off + k * 4 + 1, none⟩ = some (.string ⟨t.text.toArray⟩) ∧ w.cell? ⟨b, off + k * 4 + 2, none⟩ = some (.int .i64 t.int) ∧ w.cell? ⟨b, off + k * 4 + 3, none⟩ = some (.int .i64 t.pos) := by
  obtain ⟨b, off, t, h1, h2, h3, h4⟩ := h.at_ 4 (fun _ => rfl) (by omega) hk
  exact ⟨b, off, t, h1, h2, h3, h4 0 _ rfl, h4 1 _ rfl, h4 2 _ rfl, h4 3 _ rfl⟩
theorem stS : SliceTy Tryz.prog 25 9 1 16 := SliceTy.mk' Tryz.underlying25 (z := .string ⟨#[]⟩) (by kernel_rfl) rfl (by decide) (by decide)
def strV (l : List UInt8) : Value := .string ⟨l.toArray⟩
abbrev RowB := @RowOf (List UInt8) (fun l => [strV l])
end Go.Proofs.YtpnfbehbheddeaaGreatDoor
