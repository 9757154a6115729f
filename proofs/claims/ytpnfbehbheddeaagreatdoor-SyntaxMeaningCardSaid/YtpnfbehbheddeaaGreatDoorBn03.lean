/- What the tokens of layer 2 are, in plain Lean. No program in sight, no condition. The parser of expressions of layer 5, as the program reads tokens: an exact mirror in plain Lean. No program in sight, no condition. The columns and the text of expressions, in plain Lean. No program in sight, no condition. The declarations of layer 5, as the program reads them, and how it looks up their names: an exact mirror in plain Lean. No program in sight, no condition. The tree of a valid expression, and what is read off it: value, text, type. Plain Lean, no condition. The check of catalogues of layer 4, as the program does it: a mirror in plain Lean. No program in sight, no condition. How the program writes expressions as tokens: a mirror in plain Lean. No program in sight, no condition. -/
import Derived.Test.YtpnfbehbheddeaaGreatDoorBn02
import Derived.Test.YtpnfbehbheddeaaGreatDoorBn01
import Derived.Test.YtpnfbehbheddeaaGreatDoorBn00
import Derived.Lib.ItoaNum
import Derived.Lib.ItoaLen
import Derived.Deep.RegionWith
import Derived.Test.YtpnfbehbheddeaaGreatDoorShelf
import Derived.Lib.LaidTab
import Derived.Lib.AppendIntMem
namespace Go.Proofs.YtpnfbehbheddeaaGreatDoor
set_option maxRecDepth 100000
set_option maxHeartbeats 8000000
set_option linter.unusedVariables false
set_option linter.unusedSimpArgs false
theorem unqR_prefix : ∀ (n : Nat) (p rest : List UInt8), p.length ≤ n → (∀ c ∈ p, c ≠ 34) → unqR (p ++ 34 :: rest) = unqR (p ++ [34]) ∧ ∀ t k, unqR (p ++ [34]) = some (t, k) → k = p.length + 1 := by
  intro n
  induction n with
  | zero =>
    intro p rest hp _
    obtain rfl : p = [] := List.eq_nil_of_length_eq_zero (by omega)
    simp only [List.nil_append]
    rw [unqR_end, unqR_end]
    refine ⟨rfl, fun t k h => ?_⟩
    injection h with h
    injection h with h1 h2
    simp [← h2]
  | succ n ih =>
    intro p rest hp hq
    cases p with
    | nil =>
      simp only [List.nil_append]
      rw [unqR_end, unqR_end]
      refine ⟨rfl, fun t k h => ?_⟩
      injection h with h
      injection h with h1 h2
      simp [← h2]
    | cons c p =>
      simp only [List.length_cons] at hp
      have hc := hq c (by simp)
      by_cases h92 : c = 92
      · subst h92
        match p, hp, hq with
        | [], _, _ =>
          have hb : ¬ (0 ≤ hexI 34 ∧ True) := by rw [hexI_34]; omega
          refine ⟨?_, fun t k h => ?_⟩
          · simp only [List.cons_append, List.nil_append]
            cases rest with
            | nil => rfl
            | cons r rest => rw [unqR_bad (fun h => by rw [hexI_34] at h; omega), unqR_esc1]
          · simp only [List.cons_append, List.nil_append] at h
            rw [unqR_esc1] at h
            cases h
        | [a], _, _ =>
          refine ⟨?_, fun t k h => ?_⟩
          · simp only [List.cons_append, List.nil_append]
            rw [unqR_bad (fun h => by rw [hexI_34] at h; omega), unqR_bad (fun h => by rw [hexI_34] at h; omega)]
          · simp only [List.cons_append, List.nil_append] at h
            rw [unqR_bad (fun h => by rw [hexI_34] at h; omega)] at h
            cases h
        | a :: b :: p', hp, hq =>
          simp only [List.length_cons] at hp
          obtain ⟨i1, i2⟩ := ih p' rest (by omega) (fun x hx => hq x (by simp [hx]))
          simp only [List.cons_append]
          by_cases hh : 0 ≤ hexI a ∧ 0 ≤ hexI b ∧ plainB (hexB a b) = false
          · rw [unqR_esc hh, unqR_esc hh, i1]
            refine ⟨rfl, fun t k h => ?_⟩
            obtain ⟨⟨t', k'⟩, e1, e2⟩ := Option.map_eq_some_iff.1 h
            have := i2 t' k' e1
            simp only [Prod.mk.injEq] at e2
            simp only [List.length_cons]
            omega
          · rw [unqR_bad hh, unqR_bad hh]
            exact ⟨rfl, fun t k h => by cases h⟩
      · obtain ⟨i1, i2⟩ := ih p rest (by omega) (fun x hx => hq x (by simp [hx]))
        simp only [List.cons_append]
        cases hpl : plainB c
        · rw [unqR_odd hc h92 hpl, unqR_odd hc h92 hpl]
          exact ⟨rfl, fun t k h => by cases h⟩
        · rw [unqR_plain hpl, unqR_plain hpl, i1]
          refine ⟨rfl, fun t k h => ?_⟩
          obtain ⟨⟨t', k'⟩, e1, e2⟩ := Option.map_eq_some_iff.1 h
          have := i2 t' k' e1
          simp only [Prod.mk.injEq] at e2
          simp only [List.length_cons]
          omega
theorem unqR_open : ∀ (n : Nat) (l : List UInt8), l.length ≤ n → (∀ c ∈ l, c ≠ 34) → unqR l = none := by
  intro n l hl hq
  cases h : unqR l with
  | none => rfl
  | some x =>
    obtain ⟨t, k⟩ := x
    obtain ⟨_, h2, _⟩ := unqR_last n l hl t k h
    exact absurd rfl (hq 34 (List.mem_of_getElem? h2))
structure Tk where
  kind : Int
  text : List UInt8
  int : Int
  pos : Int
def Tk.zero : Tk := ⟨0, [], 0, 0⟩
def Tk.cells (t : Tk) : List Value := [.int .i64 t.kind, .string ⟨t.text.toArray⟩, .int .i64 t.int, .int .i64 t.pos]
def isLet (c : UInt8) : Bool := decide (97 ≤ c.toNat) && decide (c.toNat ≤ 122)
def inNm (c : UInt8) : Bool := isLet c || (isDig c || c == 95)
def nameLen : List UInt8 → Nat
  | [] => 0
  | c :: r => if isLet c then 1 + (r.takeWhile inNm).length else 0
def isNameB (s : List UInt8) : Bool := decide (s ≠ []) && (decide (s.length ≤ 16) && decide (nameLen s = s.length))
theorem takeWhile_all {p : UInt8 → Bool} : ∀ (l : List UInt8), (l.takeWhile p).length = l.length ↔ l.all p = true := by
  intro l
  induction l with
  | nil => simp
  | cons c l ih =>
    cases hp : p c
    · simp [hp]
    · simp only [List.takeWhile_cons, hp, if_true, List.length_cons, List.all_cons, Bool.true_and]
      rw [← ih]
      omega
theorem isNameB_ref (c : UInt8) (r : List UInt8) : isNameB (c :: r) = (decide ((c :: r).length ≤ 16) && (isLet c && (c :: r).all inNm)) := by
  unfold isNameB
  have e : nameLen (c :: r) = if isLet c then 1 + (r.takeWhile inNm).length else 0 := by rw [nameLen]
  rw [e]
  cases hc : isLet c
  · simp
  · have hi : inNm c = true := by unfold inNm; rw [hc]; rfl
    have ht := takeWhile_all (p := inNm) r
    rw [Bool.eq_iff_iff]
    simp only [ne_eq, List.cons_ne_nil, not_false_eq_true, decide_true, Bool.true_and, if_true, List.all_cons, hi, List.length_cons, Bool.and_eq_true, decide_eq_true_eq, ← ht]
    omega
def signL : List UInt8 := [40, 41, 44, 46, 59, 43, 45, 42, 47, 61, 60]
def signLen (s : List UInt8) : Nat := if s.take 2 = [43, 43] ∨ s.take 2 = [60, 61] then 2 else if s ≠ [] ∧ signL.contains (s.getD 0 0) = true then 1 else 0
def tokO (s : List UInt8) : Tk × Nat × Int :=
  if isLet (s.getD 0 0) then (if 16 < nameLen s then (Tk.zero, 0, 1) else (⟨1, s.take (nameLen s), 0, 0⟩, nameLen s, 0))
  else if isDig (s.getD 0 0) then (if (pInt (s.takeWhile isDig)).2 ≠ 0 then (Tk.zero, 0, (pInt (s.takeWhile isDig)).2) else (⟨2, [], (pInt (s.takeWhile isDig)).1.n, 0⟩, (s.takeWhile isDig).length, 0))
  else if s.getD 0 0 = 34 then (match unqR (s.drop 1) with
    | none => (Tk.zero, 0, 2)
    | some (t, k) => if 32 < t.length then (Tk.zero, 0, 1) else (⟨3, t, 0, 0⟩, k + 1, 0))
  else if signLen s = 0 then (Tk.zero, 0, 2) else (⟨4, s.take (signLen s), 0, 0⟩, signLen s, 0)
def skipN : Bool → List UInt8 → Nat
  | _, [] => 0
  | cm, c :: r => if c = 10 then 1 + skipN false r else if c = 32 ∨ c = 9 ∨ c = 13 then 1 + skipN cm r else if c = 35 then 1 + skipN true r else if cm then 1 + skipN true r else 0
theorem skipN_le : ∀ (s : List UInt8) (cm : Bool), skipN cm s ≤ s.length := by
  intro s
  induction s with
  | nil => intro cm; simp [skipN]
  | cons c r ih =>
    intro cm
    have h1 := ih false
    have h2 := ih cm
    have h3 := ih true
    simp only [skipN, List.length_cons]
    (repeat' split) <;> omega
theorem skipN_end : ∀ (s : List UInt8) (cm : Bool) (c : UInt8) (r : List UInt8), s.drop (skipN cm s) = c :: r → c ≠ 10 ∧ c ≠ 32 ∧ c ≠ 9 ∧ c ≠ 13 ∧ c ≠ 35 := by
  intro s
  induction s with
  | nil => intro cm c r h; simp [skipN] at h
  | cons d s ih =>
    intro cm c r h
    rw [skipN] at h
    split at h
    · rw [Nat.add_comm, List.drop_succ_cons] at h; exact ih _ c r h
    · split at h
      · rw [Nat.add_comm, List.drop_succ_cons] at h; exact ih _ c r h
      · split at h
        · rw [Nat.add_comm, List.drop_succ_cons] at h; exact ih _ c r h
        · split at h
          · rw [Nat.add_comm, List.drop_succ_cons] at h; exact ih _ c r h
          · rename_i h1 h2 h3 h4
            simp only [List.drop_zero, List.cons.injEq] at h
            obtain ⟨rfl, rfl⟩ := h
            refine ⟨h1, ?_, ?_, ?_, h3⟩ <;> intro e <;> apply h2 <;> simp [e]
def scanL : Nat → List UInt8 → Nat → List Tk → List Tk × Nat × Int
  | 0, _, _, _ => ([], 0, 0)
  | f + 1, s, pos, acc =>
    let k := skipN false s
    let r := s.drop k
    if r = [] then (acc, 0, 0)
    else
      let x := tokO r
      if x.2.2 ≠ 0 then ([], pos + k, x.2.2)
      else if acc.length = 4096 then ([], pos + k, 8)
      else scanL f (r.drop x.2.1) (pos + k + x.2.1) (acc ++ [{ x.1 with pos := ((pos + k : Nat) : Int) }])
def scanO (s : List UInt8) : List Tk × Nat × Int := if 32768 < s.length then ([], 0, 8) else scanL (s.length + 1) s 0 []
abbrev Bs := List UInt8
structure Ps where
  pos : Nat
  failed : Bool
  off : Int
  refs : List (Tk × Bool)
structure Src where
  toks : List Tk
  fin : Int
def Ps.fail (e : Src) (s : Ps) : Ps := { s with failed := true, off := if s.failed = true then s.off else (match e.toks[s.pos]? with | some t => t.pos | none => e.fin), pos := e.toks.length }
def isKindP (e : Src) (s : Ps) (ahead : Nat) (k : Int) : Bool := match e.toks[s.pos + ahead]? with
  | some t => t.kind == k
  | none => false
def isP (e : Src) (s : Ps) (ahead : Nat) (ws : List Bs) : Bool := match e.toks[s.pos + ahead]? with
  | some t => (t.kind == 1 || t.kind == 4) && ws.contains t.text
  | none => false
def acceptP (e : Src) (s : Ps) (ws : List Bs) : Bool × Ps := if isP e s 0 ws = true then (true, { s with pos := s.pos + 1 }) else (false, s)
def textP (e : Src) (i : Nat) : Bs := match e.toks[i]? with
  | some t => t.text
  | none => []
def expectP (e : Src) (s : Ps) (ws : List Bs) : Bs × Ps := if isP e s 0 ws = true then (textP e s.pos, { s with pos := s.pos + 1 }) else ([], s.fail e)
def takeP (e : Src) (s : Ps) (k : Int) : Tk × Ps := if isKindP e s 0 k = true then (e.toks.getD s.pos Tk.zero, { s with pos := s.pos + 1 }) else (Tk.zero, s.fail e)
def wOr : Bs := [111, 114]
def wAnd : Bs := [97, 110, 100]
def wNot : Bs := [110, 111, 116]
def wLeft : Bs := [108, 101, 102, 116]
def wRight : Bs := [114, 105, 103, 104, 116]
def wFuncs : List Bs := [[108, 101, 110, 103, 116, 104], [105, 115, 110, 117, 108, 108], [112, 114, 101, 102, 105, 120], [99, 111, 97, 108, 101, 115, 99, 101], [105, 102]]
def opsP : Nat → List Bs
  | 6 => [wOr]
  | 5 => [wAnd]
  | 3 => [[43], [45], [43, 43]]
  | 2 => [[42], [47]]
  | _ => []
def opP (w : Bs) : Int := if w = wOr then 15 else if w = wAnd then 14 else if w = [61] then 11 else if w = [60] then 12 else if w = [43] then 4 else if w = [45] then 5 else if w = [43, 43] then 8 else if w = [42] then 6 else 7
def funP (w : Bs) : Int := if w = [108, 101, 110, 103, 116, 104] then 9 else if w = [105, 115, 110, 117, 108, 108] then 16 else if w = [112, 114, 101, 102, 105, 120] then 10 else if w = [99, 111, 97, 108, 101, 115, 99, 101] then 17 else 18
def opX (op : Int) (ks : List X) : X := .node ⟨op, V.null, 0⟩ ks
def cstX (v : V) : X := .node ⟨1, v, 0⟩ []
def refP (e : Src) (right : Bool) (s : Ps) : X × Ps :=
  let t := takeP e s 1
  (.node ⟨2, V.null, s.refs.length⟩ [], { t.2 with refs := s.refs ++ [(t.1, right)] })
mutual
def parseP (e : Src) : Nat → Nat → Ps → X × Ps
  | 0, _, s => (opX 0 [], s)
  | f + 1, lv, s =>
    match lv with
    | 0 =>
      if isKindP e s 0 2 = true then
        let t := takeP e s 2
        (cstX ⟨1, t.1.int, ⟨#[]⟩⟩, t.2)
      else if isKindP e s 0 3 = true then
        let t := takeP e s 3
        (cstX ⟨2, 0, ⟨t.1.text.toArray⟩⟩, t.2)
      else if isP e s 0 [[40]] = true then
        let x := parseP e f 6 { s with pos := s.pos + 1 }
        (x.1, (expectP e x.2 [[41]]).2)
      else if isP e s 0 wFuncs = true ∧ isP e s 1 [[40]] = true then
        let n := takeP e s 1
        let p := expectP e n.2 [[40]]
        let x := parseP e f 6 p.2
        let l := argsP e f ((arity (funP n.1.text)).toNat - 1) [x.1] x.2
        (opX (funP n.1.text) l.1, (expectP e l.2 [[41]]).2)
      else if isP e s 0 [wLeft, wRight] = true ∧ isP e s 1 [[46]] = true then
        let w := expectP e s [wLeft, wRight]
        refP e (w.1 == wRight) (expectP e w.2 [[46]]).2
      else refP e false s
    | 1 =>
      if isP e s 0 [[45]] = true then
        if isKindP e { s with pos := s.pos + 1 } 0 2 = true then
          let t := takeP e { s with pos := s.pos + 1 } 2
          (cstX ⟨1, -t.1.int, ⟨#[]⟩⟩, t.2)
        else
          let x := parseP e f 1 { s with pos := s.pos + 1 }
          (opX 3 [x.1], x.2)
      else if isP e s 0 [wNot] = true then
        let x := parseP e f 1 { s with pos := s.pos + 1 }
        (opX 13 [x.1], x.2)
      else parseP e f 0 s
    | 4 =>
      let x := parseP e f 3 s
      if isP e x.2 0 [[61], [60]] = true then
        let w := expectP e x.2 [[61], [60]]
        let y := parseP e f 3 w.2
        (opX (opP w.1) [x.1, y.1], y.2)
      else if isP e x.2 0 [[60, 61]] = true then
        let y := parseP e f 3 { x.2 with pos := x.2.pos + 1 }
        (opX 13 [opX 12 [y.1, x.1]], y.2)
      else x
    | lv + 1 =>
      let x := parseP e f lv s
      chainP e f (lv + 1) x.1 x.2
def chainP (e : Src) : Nat → Nat → X → Ps → X × Ps
  | 0, _, x, s => (x, s)
  | f + 1, lv, x, s =>
    if isP e s 0 (opsP lv) = true then
      let w := expectP e s (opsP lv)
      let y := parseP e f (lv - 1) w.2
      chainP e f lv (opX (opP w.1) [x, y.1]) y.2
    else (x, s)
def argsP (e : Src) : Nat → Nat → List X → Ps → List X × Ps
  | 0, _, l, s => (l, s)
  | _ + 1, 0, l, s => (l, s)
  | f + 1, k + 1, l, s =>
    let x := parseP e f 6 (expectP e s [[44]]).2
    argsP e f k (l ++ [x.1]) x.2
end
def Src.fuel (e : Src) : Nat := 10 * e.toks.length + 20
structure Xr where
  root : Option X
  refs : List (Tk × Bool)
def wholeP (e : Src) (s : Ps) : Xr × Ps :=
  let x := parseP e e.fuel 6 { s with refs := [] }
  (⟨some x.1, x.2.refs⟩, x.2)
def findP (l : List Bs) (s : Bs) : Option Nat := l.findIdx? (· == s)
def colsP (left right : List Bs) : List (Tk × Bool) → Except Int (List Int)
  | [] => .ok []
  | (t, r) :: l => match findP (if r then right else left) t.text with
    | none => .error t.pos
    | some n => match colsP left right l with
      | .error p => .error p
      | .ok m => .ok (((if r then left.length else 0) + n : Nat) :: m)
def putT (cols : List Int) (t : T) : T := if t.op = 2 then { t with c := cols.getD t.c.toNat 0 } else t
def Xr.resolve (x : Xr) (left right : List Bs) : Except Int (List T) := match x.root with
  | none => .ok []
  | some r => match colsP left right x.refs with
    | .error p => .error p
    | .ok m => .ok (r.flat.map (putT m))
def parseExprP (e : Src) (left right : List Bs) : List T × Int × Int :=
  let x := wholeP e ⟨0, false, 0, []⟩
  let s := if x.2.pos < e.toks.length then x.2.fail e else x.2
  if s.failed = true then ([], s.off, 2) else match x.1.resolve left right with
    | .error p => ([], p, 3)
    | .ok l => (l, 0, 0)
def addL : List Int → Int → List Int
  | [], n => [n]
  | a :: l, n => if a < n then a :: addL l n else if a = n then a :: l else n :: a :: l
def asc : List Int → Prop
  | [] => True
  | [_] => True
  | a :: b :: l => a < b ∧ asc (b :: l)
theorem asc_tail {a : Int} {l : List Int} (h : asc (a :: l)) : asc l := by
  cases l with
  | nil => trivial
  | cons b l => exact h.2
theorem asc_lt : ∀ {l : List Int} {a : Int}, asc (a :: l) → ∀ x ∈ l, a < x := by
  intro l
  induction l with
  | nil => intro a _ x hx; cases hx
  | cons b l ih =>
    intro a h x hx
    rcases List.mem_cons.1 hx with rfl | hx
    · exact h.1
    · have := ih h.2 x hx
      have := h.1
      omega
theorem asc_cons {a : Int} {l : List Int} (h : asc l) (ha : ∀ x ∈ l, a < x) : asc (a :: l) := by
  cases l with
  | nil => trivial
  | cons b l => exact ⟨ha b (by simp), h⟩
theorem asc_unique : ∀ (l m : List Int), asc l → asc m → (∀ x, x ∈ l ↔ x ∈ m) → l = m := by
  intro l
  induction l with
  | nil =>
    intro m _ _ h
    cases m with
    | nil => rfl
    | cons b m => have := (h b).2 (by simp); cases this
  | cons a l ih =>
    intro m hl hm h
    cases m with
    | nil => have := (h a).1 (by simp); cases this
    | cons b m =>
      have hab : a = b := by
        have h1 := (h a).1 (by simp)
        have h2 := (h b).2 (by simp)
        rcases List.mem_cons.1 h1 with e | e
        · exact e
        · rcases List.mem_cons.1 h2 with e2 | e2
          · exact e2.symm
          · have := asc_lt hm a e
            have := asc_lt hl b e2
            omega
      subst hab
      congr 1
      apply ih m (asc_tail hl) (asc_tail hm)
      intro x
      have hx := h x
      simp only [List.mem_cons] at hx
      constructor
      · intro h1
        have := asc_lt hl x h1
        rcases hx.1 (.inr h1) with e | e
        · omega
        · exact e
      · intro h1
        have := asc_lt hm x h1
        rcases hx.2 (.inr h1) with e | e
        · omega
        · exact e
theorem addL_mem : ∀ (l : List Int) (n x : Int), x ∈ addL l n ↔ x = n ∨ x ∈ l := by
  intro l
  induction l with
  | nil => intro n x; simp [addL]
  | cons a l ih =>
    intro n x
    unfold addL
    split
    · simp only [List.mem_cons, ih]
      constructor
      · rintro (h | h | h) <;> simp [h]
      · rintro (h | h | h) <;> simp [h]
    · split
      · rename_i h; subst h; simp
      · simp
theorem addL_asc : ∀ (l : List Int) (n : Int), asc l → asc (addL l n) := by
  intro l
  induction l with
  | nil => intro n _; trivial
  | cons a l ih =>
    intro n h
    unfold addL
    split
    · rename_i h1
      refine asc_cons (ih n (asc_tail h)) (fun x hx => ?_)
      rcases (addL_mem l n x).1 hx with e | e
      · omega
      · exact asc_lt h x e
    · split
      · exact h
      · exact ⟨by omega, h⟩
theorem foldl_add : ∀ (e l : List Int), asc l → asc (e.foldl addL l) ∧ ∀ x, x ∈ e.foldl addL l ↔ x ∈ e ∨ x ∈ l := by
  intro e
  induction e with
  | nil => intro l h; exact ⟨h, fun x => by simp⟩
  | cons a e ih =>
    intro l h
    obtain ⟨h1, h2⟩ := ih (addL l a) (addL_asc l a h)
    refine ⟨h1, fun x => ?_⟩
    rw [List.foldl_cons, h2, addL_mem, List.mem_cons]
    constructor
    · rintro (h | h | h) <;> simp [h]
    · rintro ((h | h) | h) <;> simp [h]
structure Col where
  name : Bs
  ty : Int
  ns : Bs
  rf : Bs
  owners : List Int
  joint : Int
  duty : Int
structure Tab where
  name : Bs
  cols : List Col
  erase : Int
  retain : Int
structure Itm where
  name : Bs
  ex : List T
structure Agg where
  name : Bs
  fn : Int
  ex : List T
structure Viw where
  name : Bs
  kind : Int
  left : Bs
  right : Bs
  on : List (Int × Int)
  whr : List T
  items : List Itm
  distinct : Bool
  aggs : List Agg
structure Idx where
  name : Bs
  source : Bs
  column : Int
structure Skt where
  name : Bs
  source : Bs
  column : Int
  kind : Int
  width : Int
  depth : Int
structure Cch where
  name : Bs
  source : Bs
  column : Int
  ttl : Int
structure Rls where
  name : Bs
  source : Bs
  threshold : Int
structure Stm where
  name : Bs
  table : Bs
structure Bkp where
  name : Bs
  tables : List Bs
  keep : Int
structure Cat where
  tables : List Tab
  views : List Viw
  indexes : List Idx
  sketches : List Skt
  caches : List Cch
  releases : List Rls
  streams : List Stm
  backups : List Bkp
def Cat.nil : Cat := ⟨[], [], [], [], [], [], [], []⟩
structure Vn where
  left : Tk
  right : Tk
  on : List (Tk × Tk)
  items : List Xr
  aggs : List Xr
  whr : Xr
def Xr.none_ : Xr := ⟨none, []⟩
structure Dc where
  cat : Cat
  starts : List (List Int)
  owners : List (List (List Tk))
  views : List Vn
  indexes : List (Tk × Tk)
  sketches : List (Tk × Tk)
  caches : List (Tk × Tk)
def Dc.nil : Dc := ⟨Cat.nil, [[], [], [], [], [], [], [], []], [], [], [], [], []⟩
def nameP (e : Src) (s : Ps) : Bs × Ps := ((takeP e s 1).1.text, (takeP e s 1).2)
def numP (e : Src) (s : Ps) : Int × Ps := ((takeP e s 2).1.int, (takeP e s 2).2)
def moreP {α : Type} (e : Src) (el : Ps → α × Ps) : Nat → Ps → List α × Ps
  | 0, s => ([], s)
  | f + 1, s => if isP e s 0 [[44]] = true then
      let x := el { s with pos := s.pos + 1 }
      let r := moreP e el f x.2
      (x.1 :: r.1, r.2)
    else ([], s)
def listP {α : Type} (e : Src) (el : Ps → α × Ps) (s : Ps) : List α × Ps :=
  let x := el s
  let r := moreP e el (e.toks.length + 1) x.2
  (x.1 :: r.1, r.2)
def wDuty : Bs := [100, 117, 116, 121]
def isDutyP (e : Src) (s : Ps) : Bool := isP e s 0 [wDuty] && isKindP e s 1 2
def ownersP (e : Src) : Nat → Ps → List Tk × Ps
  | 0, s => ([], s)
  | f + 1, s => if isKindP e s 0 1 = true ∧ isDutyP e s = false then
      let x := takeP e s 1
      let r := ownersP e f x.2
      (x.1 :: r.1, r.2)
    else ([], s)
def optP {α : Type} (e : Src) (w : Bs) (d : α) (p : Ps → α × Ps) (s : Ps) : α × Ps := if isP e s 0 [w] = true then p { s with pos := s.pos + 1 } else (d, s)
def wText : Bs := [116, 101, 120, 116]
def personalP (e : Src) (s : Ps) : (Int × List Tk) × Ps :=
  let a := acceptP e s [[97, 108, 108]]
  let b := expectP e a.2 [[98, 121]]
  let x := takeP e b.2 1
  let r := ownersP e (e.toks.length + 1) x.2
  ((if a.1 = true then 1 else 0, x.1 :: r.1), r.2)
def columnP (e : Src) (s : Ps) : (Col × List Tk) × Ps :=
  let n := nameP e s
  let t := expectP e n.2 [[105, 110, 116], wText]
  let ns := optP e [110, 97, 109, 101, 115, 112, 97, 99, 101] [] (nameP e) t.2
  let rf := optP e [114, 101, 102, 101, 114, 101, 110, 99, 101, 115] [] (nameP e) ns.2
  let p := optP e [112, 101, 114, 115, 111, 110, 97, 108] (0, []) (personalP e) rf.2
  let d := optP e wDuty 0 (numP e) p.2
  ((⟨n.1, if t.1 = wText then 2 else 1, ns.1, rf.1, [], p.1.1, d.1⟩, p.1.2), d.2)
def tableP (e : Src) (s : Ps) : (Tab × List (List Tk)) × Ps :=
  let n := nameP e s
  let l := listP e (columnP e) (expectP e n.2 [[40]]).2
  let c := expectP e l.2 [[41]]
  let r := optP e [101, 114, 97, 115, 101] 0 (fun s => (1, (expectP e s [[114, 111, 119]]).2)) c.2
  let t := optP e [114, 101, 116, 97, 105, 110] 0 (numP e) r.2
  ((⟨n.1, l.1.map Prod.fst, r.1, t.1⟩, l.1.map Prod.snd), t.2)
def itemP (e : Src) (s : Ps) : (Bs × Xr) × Ps :=
  let n := nameP e s
  let x := wholeP e (expectP e n.2 [[61]]).2
  ((n.1, x.1), x.2)
def argP (e : Src) (s : Ps) : Xr × Ps :=
  let x := wholeP e (expectP e s [[40]]).2
  (x.1, (expectP e x.2 [[41]]).2)
def wCount : Bs := [99, 111, 117, 110, 116]
def wAggs : List Bs := [wCount, [115, 117, 109], [109, 105, 110], [109, 97, 120], [109, 101, 100, 105, 97, 110]]
def aggP (e : Src) (s : Ps) : (Agg × Xr) × Ps :=
  let n := nameP e s
  let w := expectP e (expectP e n.2 [[61]]).2 wAggs
  match findP wAggs w.1 with
  | none => ((⟨n.1, 0, []⟩, Xr.none_), w.2)
  | some 0 => ((⟨n.1, 0, []⟩, Xr.none_), w.2)
  | some (k + 1) => ((⟨n.1, (k + 1 : Nat), []⟩, (argP e w.2).1), (argP e w.2).2)
def pairP (e : Src) (s : Ps) : (Tk × Tk) × Ps :=
  let a := takeP e s 1
  let b := takeP e (expectP e a.2 [[61]]).2 1
  ((a.1, b.1), b.2)
def joinP (e : Src) (s : Ps) : (Tk × List (Tk × Tk)) × Ps :=
  let r := takeP e s 1
  let o := optP e [111, 110] [] (listP e (pairP e)) r.2
  ((r.1, o.1), o.2)
def inputsP (e : Src) (s : Ps) : (Tk × (Tk × List (Tk × Tk)) × Xr) × Ps :=
  let l := takeP e (expectP e s [[102, 114, 111, 109]]).2 1
  let j := optP e [106, 111, 105, 110] (Tk.zero, []) (joinP e) l.2
  let w := optP e [119, 104, 101, 114, 101] Xr.none_ (wholeP e) j.2
  ((l.1, j.1, w.1), w.2)
def wSelect : Bs := [115, 101, 108, 101, 99, 116]
def wGroup : Bs := [103, 114, 111, 117, 112]
def wUnion : Bs := [117, 110, 105, 111, 110]
def wDistinct : Bs := [100, 105, 115, 116, 105, 110, 99, 116]
def wWith : Bs := [119, 105, 116, 104]
def mkView (name : Bs) (kind : Int) (distinct : Bool) (its : List (Bs × Xr)) (ags : List (Agg × Xr)) (i : Tk × (Tk × List (Tk × Tk)) × Xr) : Viw × Vn :=
  (⟨name, kind, i.1.text, i.2.1.1.text, [], [], its.map fun x => ⟨x.1, []⟩, distinct, ags.map Prod.fst⟩, ⟨i.1, i.2.1.1, i.2.1.2, its.map Prod.snd, ags.map Prod.snd, i.2.2⟩)
def viewP (e : Src) (s : Ps) : (Viw × Vn) × Ps :=
  let n := nameP e s
  let w := expectP e n.2 [wSelect, wGroup, wUnion]
  if w.1 = wSelect then
    let d := if isP e w.2 0 [wDistinct] = true ∧ isP e w.2 1 [[61]] = false then acceptP e w.2 [wDistinct] else (false, w.2)
    let its := listP e (itemP e) d.2
    let i := inputsP e its.2
    (mkView n.1 0 d.1 its.1 [] i.1, i.2)
  else if w.1 = wGroup then
    let its := if isP e w.2 0 [wWith] = false ∨ isP e w.2 1 [[61]] = true then listP e (itemP e) w.2 else ([], w.2)
    let ags := listP e (aggP e) (expectP e its.2 [wWith]).2
    let i := inputsP e ags.2
    (mkView n.1 1 false its.1 ags.1 i.1, i.2)
  else if w.1 = wUnion then
    let l := takeP e w.2 1
    let r := takeP e l.2 1
    (mkView n.1 2 false [] [] (l.1, (r.1, []), Xr.none_), r.2)
  else (mkView n.1 0 false [] [] (Tk.zero, (Tk.zero, []), Xr.none_), w.2)
def placeP (e : Src) (s : Ps) : (Tk × Tk) × Ps :=
  let a := takeP e s 1
  let b := takeP e (expectP e a.2 [[46]]).2 1
  ((a.1, b.1), b.2)
def wOn : Bs := [111, 110]
def wOf : Bs := [111, 102]
def wSketches : List Bs := [wCount, [98, 108, 111, 111, 109], [98, 111, 116, 116, 111, 109]]
def wKinds : List Bs := [[116, 97, 98, 108, 101], [118, 105, 101, 119], [105, 110, 100, 101, 120], [115, 107, 101, 116, 99, 104], [99, 97, 99, 104, 101], [114, 101, 108, 101, 97, 115, 101], [115, 116, 114, 101, 97, 109], [98, 97, 99, 107, 117, 112]]
def kindP (e : Src) (k : Nat) (s : Ps) (d : Dc) : Dc × Ps := match k with
  | 0 =>
    let t := tableP e s
    ({ d with cat := { d.cat with tables := d.cat.tables ++ [t.1.1] }, owners := d.owners ++ [t.1.2] }, t.2)
  | 1 =>
    let v := viewP e s
    ({ d with cat := { d.cat with views := d.cat.views ++ [v.1.1] }, views := d.views ++ [v.1.2] }, v.2)
  | 2 =>
    let n := nameP e s
    let p := placeP e (expectP e n.2 [wOn]).2
    ({ d with cat := { d.cat with indexes := d.cat.indexes ++ [⟨n.1, p.1.1.text, 0⟩] }, indexes := d.indexes ++ [p.1] }, p.2)
  | 3 =>
    let n := nameP e s
    let w := expectP e n.2 wSketches
    let a := numP e w.2
    let b := numP e a.2
    let p := placeP e (expectP e b.2 [wOn]).2
    ({ d with cat := { d.cat with sketches := d.cat.sketches ++ [⟨n.1, p.1.1.text, 0, ((findP wSketches w.1).getD 0 : Nat), a.1, b.1⟩] }, sketches := d.sketches ++ [p.1] }, p.2)
  | 4 =>
    let n := nameP e s
    let p := placeP e (expectP e n.2 [wOn]).2
    let a := numP e (expectP e p.2 [[102, 111, 114]]).2
    ({ d with cat := { d.cat with caches := d.cat.caches ++ [⟨n.1, p.1.1.text, 0, a.1⟩] }, caches := d.caches ++ [p.1] }, a.2)
  | 5 =>
    let n := nameP e s
    let o := nameP e (expectP e n.2 [wOf]).2
    let a := numP e (expectP e o.2 [[97, 98, 111, 118, 101]]).2
    ({ d with cat := { d.cat with releases := d.cat.releases ++ [⟨n.1, o.1, a.1⟩] } }, a.2)
  | 6 =>
    let n := nameP e s
    let o := nameP e (expectP e n.2 [wOf]).2
    ({ d with cat := { d.cat with streams := d.cat.streams ++ [⟨n.1, o.1⟩] } }, o.2)
  | _ =>
    let n := nameP e s
    let l := listP e (nameP e) (expectP e n.2 [wOf]).2
    let a := numP e (expectP e l.2 [[107, 101, 101, 112]]).2
    ({ d with cat := { d.cat with backups := d.cat.backups ++ [⟨n.1, l.1, a.1⟩] } }, a.2)
def addAt (l : List (List Int)) (k : Nat) (p : Int) : List (List Int) := l.modify k (· ++ [p])
def declP (e : Src) (s : Ps) (d : Dc) : Dc × Ps :=
  let w := expectP e s wKinds
  match findP wKinds w.1 with
  | none => (d, w.2)
  | some k => kindP e k w.2 { d with starts := addAt d.starts k (e.toks.getD s.pos Tk.zero).pos }
def sourceP (e : Src) : Nat → Ps → Dc → Dc × Ps
  | 0, s, d => (d, s)
  | f + 1, s, d => if s.pos < e.toks.length then
      let x := declP e s d
      sourceP e f (expectP e x.2 [[59]]).2 x.1
    else (d, s)
abbrev Er := Int × Int
def findCol (l : List Bs) (t : Tk) : Except Er Int := match findP l t.text with
  | none => .error (t.pos, 3)
  | some n => .ok n
def mapE {α β : Type} (f : α → Except Er β) : List α → Except Er (List β)
  | [] => .ok []
  | a :: l => match f a with
    | .error p => .error p
    | .ok b => match mapE f l with
      | .error p => .error p
      | .ok m => .ok (b :: m)
def resTable (t : Tab) (ow : List (List Tk)) : Except Er Tab := match mapE (fun l => mapE (findCol (t.cols.map Col.name)) l) ow with
  | .error p => .error p
  | .ok m => .ok { t with cols := (t.cols.zip m).map fun x => { x.1 with owners := x.2.foldl addL [] } }
def treeE (l : List T) : Option X := if validE l = true then (readX 16 l).map Prod.fst else none
theorem treeE_bad {l : List T} (h : validE l = false) : treeE l = none := by unfold treeE; rw [h]; rfl
theorem treeE_flat {x : X} (h : x.flat.length ≤ 64) (hw : x.wf = true) (hd : x.depth ≤ 16) : treeE x.flat = some x := by
  have h1 : validE x.flat = true := (validE_iff _).2 ⟨h, x, rfl, hw, hd⟩
  have h2 := readX_flat x [] 16 hw hd
  rw [List.append_nil] at h2
  unfold treeE
  rw [if_pos h1, h2]
  rfl
theorem treeE_ok {l : List T} (h : validE l = true) : ∃ x, treeE l = some x ∧ l = x.flat ∧ x.wf = true ∧ x.depth ≤ 16 ∧ l.length ≤ 64 := by
  obtain ⟨h1, x, rfl, h2, h3⟩ := (validE_iff l).1 h
  exact ⟨x, treeE_flat h1 h2 h3, rfl, h2, h3, h1⟩
def evalE (l : List T) (row : List V) : V := match treeE l with
  | some x => x.ev row
  | none => V.null
structure Ck where
  seen : List Bs
  stores : List (Bs × List Bs × List Int)
def withinI (n a b : Int) : Bool := decide (a ≤ n) && decide (n ≤ b)
def declC (k : Ck) (s : Bs) : Int := if isNameB s = false then 3 else if k.seen.contains s = true then 4 else 0
def ownersC (t : Tab) : Int → List Int → Bool
  | _, [] => true
  | b, o :: l => decide (b < o) && (match t.cols[o.toNat]? with
    | none => false
    | some c => decide (c.ns ≠ [] ∨ c.rf ≠ []) && ownersC t o l)
def rulesC (t : Tab) (c : Col) : Bool :=
  if c.joint ≠ 0 ∧ (c.joint ≠ 1 ∨ c.owners = []) then false
  else if withinI c.duty 0 1048576 = false then false
  else if c.duty ≠ 0 ∧ c.owners = [] then false
  else decide (t.retain = 0 ∨ c.duty ≤ t.retain)
def wdK (w : Bs) : Tk := ⟨if isNameB w = true then 1 else 4, w, 0, 0⟩
end Go.Proofs.YtpnfbehbheddeaaGreatDoor
