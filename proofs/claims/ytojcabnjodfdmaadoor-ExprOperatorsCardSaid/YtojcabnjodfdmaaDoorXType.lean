/- The types of expressions, in plain Lean, and that values have the types. No program in sight, no condition. -/
import Derived.Test.YtojcabnjodfdmaaDoorXEval
namespace Go.Proofs.YtojcabnjodfdmaaDoor

/-- The type of an operator from those of its operands; 5 is the error's number. -/
def opT (op : Int) (a b c : Int) : Except Int Int :=
  if op = 3 ∨ op = 13 then (if a = 1 then .ok 1 else .error 5)
  else if op = 8 then (if a = 2 ∧ b = 2 then .ok 2 else .error 5)
  else if op = 9 then (if a = 2 then .ok 1 else .error 5)
  else if op = 10 then (if a = 2 ∧ b = 1 then .ok 2 else .error 5)
  else if op = 11 ∨ op = 12 then (if a = b then .ok 1 else .error 5)
  else if op = 16 then .ok 1
  else if op = 17 then (if a = b then .ok a else .error 5)
  else if op = 18 then (if a = 1 ∧ b = c then .ok b else .error 5)
  else (if a = 1 ∧ b = 1 then .ok 1 else .error 5)
def termT (types : List Int) (t : T) (l : List Int) : Except Int Int :=
  if t.op = 2 ∧ t.c ≥ types.length then .error 3
  else if t.op = 1 then .ok t.v.k
  else if t.op = 2 then .ok (types.getD t.c.toNat 0)
  else opT t.op (l.getD 0 0) (l.getD 1 0) (l.getD 2 0)
mutual
def X.ty (types : List Int) : X → Except Int Int
  | .node t ks => match tys types ks with
    | .error e => .error e
    | .ok l => termT types t l
def tys (types : List Int) : List X → Except Int (List Int)
  | [] => .ok []
  | x :: xs => match x.ty types with
    | .error e => .error e
    | .ok a => match tys types xs with
      | .error e => .error e
      | .ok l => .ok (a :: l)
end
theorem tys_snoc (types : List Int) (xs : List X) (x : X) : tys types (xs ++ [x]) = (match tys types xs with
    | .error e => .error e
    | .ok l => match x.ty types with
      | .error e => .error e
      | .ok a => .ok (l ++ [a])) := by
  induction xs with
  | nil =>
    simp only [List.nil_append, tys]
  | cons y ys ih =>
    simp only [List.cons_append, tys, ih]
    cases y.ty types with
    | error e => rfl
    | ok a =>
      simp only
      cases tys types ys with
      | error e => rfl
      | ok l =>
        simp only
        cases x.ty types <;> rfl
theorem tys_len (types : List Int) : ∀ (xs : List X) (l : List Int), tys types xs = .ok l → l.length = xs.length := by
  intro xs
  induction xs with
  | nil => intro l h; simp [tys] at h; subst h; rfl
  | cons x xs ih =>
    intro l h
    simp only [tys] at h
    cases hx : x.ty types with
    | error e => rw [hx] at h; cases h
    | ok a =>
      rw [hx] at h
      simp only at h
      cases hl : tys types xs with
      | error e => rw [hl] at h; cases h
      | ok l' =>
        rw [hl] at h
        simp at h
        subst h
        simp [ih l' hl]
/-- A value has a type, or is null. -/
def hasT (v : V) (k : Int) : Prop := v.k = 0 ∨ v.k = k
def rowT (types : List Int) (row : List V) : Prop := ∀ (i : Nat) v k, row[i]? = some v → types[i]? = some k → hasT v k
theorem numV_T (n : Int) : hasT (numV n) 1 := by
  unfold numV V.cl
  split
  · exact .inr rfl
  · exact .inl rfl
theorem truthV_T (b : Bool) : hasT (truthV b) 1 := numV_T _
theorem null_T (k : Int) : hasT V.null k := .inl rfl
theorem nums_T (op : Int) (a b : V) : hasT (numsV op a b) 1 := by
  unfold numsV prodV quotV
  (repeat' split) <;> first | exact null_T _ | exact numV_T _ | exact truthV_T _
theorem opV_T {op : Int} {a b c : V} {ka kb kc k : Int} (h : opT op ka kb kc = .ok k) (ha : hasT a ka) (hb : hasT b kb) (hc : hasT c kc) (hop : 3 ≤ op ∧ op ≤ 18) : hasT (opV op a b c) k := by
  unfold opT at h
  unfold opV
  by_cases h1 : op = 3 ∨ op = 13
  · rw [if_pos h1] at h
    rw [if_neg (by omega), if_neg (by omega), if_neg (by omega), if_pos h1]
    split at h
    · injection h with h; subst h; exact nums_T _ _ _
    · cases h
  rw [if_neg h1] at h
  by_cases h2 : op = 8
  · rw [if_pos h2] at h
    rw [if_neg (by omega), if_pos (by omega)]
    split at h
    · injection h with h
      subst h h2
      unfold textV
      (repeat' split) <;> first | exact null_T _ | exact .inr rfl | (exfalso; omega)
    · cases h
  rw [if_neg h2] at h
  by_cases h3 : op = 9
  · rw [if_pos h3] at h
    rw [if_neg (by omega), if_pos (by omega)]
    split at h
    · injection h with h
      subst h h3
      unfold textV
      (repeat' split) <;> first | exact null_T _ | exact numV_T _ | (exfalso; omega)
    · cases h
  rw [if_neg h3] at h
  by_cases h4 : op = 10
  · rw [if_pos h4] at h
    rw [if_neg (by omega), if_pos (by omega)]
    split at h
    · injection h with h
      subst h h4
      unfold textV
      (repeat' split) <;> first | exact null_T _ | exact .inr rfl | (exfalso; omega)
    · cases h
  rw [if_neg h4] at h
  by_cases h5 : op = 11 ∨ op = 12
  · rw [if_pos h5] at h
    rw [if_neg (by omega), if_neg (by omega), if_pos h5]
    split at h
    · injection h with h
      subst h
      unfold compV
      (repeat' split) <;> first | exact null_T _ | exact truthV_T _
    · cases h
  rw [if_neg h5] at h
  by_cases h6 : op = 16
  · rw [if_pos h6] at h
    rw [if_pos (by omega)]
    injection h with h
    subst h h6
    unfold lenientV
    rw [if_neg (by omega), if_neg (by omega), if_pos rfl]
    exact truthV_T _
  rw [if_neg h6] at h
  by_cases h7 : op = 17
  · rw [if_pos h7] at h
    rw [if_pos (by omega)]
    split at h
    · rename_i hab
      injection h with h
      subst h h7 hab
      unfold lenientV
      rw [if_neg (by omega), if_neg (by omega), if_neg (by omega), if_pos rfl]
      split
      · exact hb
      · exact ha
    · cases h
  rw [if_neg h7] at h
  by_cases h8 : op = 18
  · rw [if_pos h8] at h
    rw [if_pos (by omega)]
    split at h
    · rename_i hbc
      injection h with h
      subst h h8
      unfold lenientV
      rw [if_neg (by omega), if_neg (by omega), if_neg (by omega), if_neg (by omega)]
      split
      · exact hb
      · rw [hbc.2]; exact hc
    · cases h
  rw [if_neg h8] at h
  split at h
  · injection h with h
    subst h
    by_cases h9 : op = 14 ∨ op = 15
    · rw [if_pos (by omega)]
      unfold lenientV andV orV
      (repeat' split) <;> first | exact null_T _ | exact truthV_T _ | (exfalso; omega)
    · rw [if_neg (by omega), if_neg (by omega), if_neg (by omega), if_neg (by omega)]
      exact nums_T _ _ _
  · cases h
theorem cell_T {types : List Int} {row : List V} (hr : rowT types row) (c : Int) (h0 : 0 ≤ c) (hc : ¬ c ≥ types.length) : hasT (cellV row c) (types.getD c.toNat 0) := by
  unfold cellV
  split
  · exact null_T _
  · have h1 : c.toNat < row.length := by omega
    have h2 : c.toNat < types.length := by omega
    rw [List.getElem?_eq_getElem h1, Option.getD_some, List.getD_eq_getElem?_getD, List.getElem?_eq_getElem h2, Option.getD_some]
    have := hr c.toNat _ _ (List.getElem?_eq_getElem h1) (List.getElem?_eq_getElem h2)
    unfold V.cl
    split
    · exact this
    · exact null_T _
theorem getD_T {types : List Int} : ∀ (ks : List V) (l : List Int), ks.length = l.length → (∀ (i : Nat) v k, ks[i]? = some v → l[i]? = some k → hasT v k) → ∀ i, hasT (ks.getD i V.null) (l.getD i 0) := by
  intro ks l hl h i
  rw [List.getD_eq_getElem?_getD, List.getD_eq_getElem?_getD]
  rcases Nat.lt_or_ge i ks.length with h1 | h1
  · have h2 : i < l.length := by omega
    rw [List.getElem?_eq_getElem h1, List.getElem?_eq_getElem h2]
    exact h i _ _ (List.getElem?_eq_getElem h1) (List.getElem?_eq_getElem h2)
  · rw [List.getElem?_eq_none h1]
    exact null_T _
theorem term_op {t : T} (h : t.ok = true) : 1 ≤ t.op ∧ t.op ≤ 18 := by
  unfold T.ok at h
  rw [Bool.and_eq_true, decide_eq_true_eq] at h
  exact arity_known h.1
theorem term_col {t : T} (h : t.ok = true) (h2 : t.op = 2) : 0 ≤ t.c ∧ t.v = V.null := by
  unfold T.ok at h
  rw [if_neg (by omega), if_pos h2, Bool.and_eq_true, Bool.and_eq_true, decide_eq_true_eq, decide_eq_true_eq, V.beq_iff] at h
  exact h.2
theorem term_rest {t : T} (h : t.ok = true) (h1 : t.op ≠ 1) (h2 : t.op ≠ 2) : t.c = 0 ∧ t.v = V.null := by
  unfold T.ok at h
  rw [if_neg h1, if_neg h2, Bool.and_eq_true, Bool.and_eq_true, beq_iff_eq, V.beq_iff] at h
  exact h.2
mutual
theorem X.sound (types : List Int) (row : List V) (hr : rowT types row) (x : X) (hw : x.wf = true) (k : Int) (h : x.ty types = .ok k) : hasT (x.ev row) k := by
  match x with
  | .node t ks =>
    simp only [X.wf, Bool.and_eq_true] at hw
    rw [X.ty] at h
    cases hl : tys types ks with
    | error e => rw [hl] at h; cases h
    | ok l =>
      rw [hl] at h
      simp only at h
      have hs := sounds types row hr ks hw.2.2 l hl
      have hlen := tys_len types ks l hl
      have hg := getD_T (types := types) (evs row ks) l (by rw [evs_len, hlen]) hs
      rw [X.ev]
      unfold termT at h
      unfold termV
      split at h
      · cases h
      · rename_i hc
        split at h
        · rename_i h1
          rw [if_pos h1]
          injection h with h
          exact .inr h
        · rename_i h1
          split at h
          · rename_i h2
            rw [if_neg h1, if_pos h2]
            injection h with h
            subst h
            exact cell_T hr t.c (term_col hw.1 h2).1 (fun hge => hc ⟨h2, hge⟩)
          · rename_i h2
            rw [if_neg h1, if_neg h2]
            have := term_op hw.1
            exact opV_T h (hg 0) (hg 1) (hg 2) (by omega)
theorem sounds (types : List Int) (row : List V) (hr : rowT types row) (xs : List X) (hw : wfs xs = true) (l : List Int) (h : tys types xs = .ok l) : ∀ (i : Nat) v k, (evs row xs)[i]? = some v → l[i]? = some k → hasT v k := by
  match xs with
  | [] => intro i v k hv _; simp [evs] at hv
  | x :: xs =>
    simp only [wfs, Bool.and_eq_true] at hw
    simp only [tys] at h
    cases hx : x.ty types with
    | error e => rw [hx] at h; cases h
    | ok a =>
      rw [hx] at h
      simp only at h
      cases hl : tys types xs with
      | error e => rw [hl] at h; cases h
      | ok l' =>
        rw [hl] at h
        simp at h
        subst h
        have h1 := X.sound types row hr x hw.1 a hx
        have h2 := sounds types row hr xs hw.2 l' hl
        intro i v k hv hk
        cases i with
        | zero => simp [evs] at hv hk; subst hv hk; exact h1
        | succ i => simp [evs] at hv hk; exact h2 i v k hv hk
end
end Go.Proofs.YtojcabnjodfdmaaDoor
