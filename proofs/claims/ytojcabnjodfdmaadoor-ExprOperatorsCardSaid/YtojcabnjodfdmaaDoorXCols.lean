/- The columns and the text of expressions, in plain Lean. No program in sight, no condition. -/
import Derived.Test.YtojcabnjodfdmaaDoorXSub
import Derived.Test.YtojcabnjodfdmaaDoorVi
namespace Go.Proofs.YtojcabnjodfdmaaDoor

/-- A number into an ascending list without duplicates. -/
def addL : List Int → Int → List Int
  | [], n => [n]
  | a :: l, n => if a < n then a :: addL l n else if a = n then a :: l else n :: a :: l
def colsL (e : List T) : List Int := (e.filter fun t => t.op == 2).map T.c
def colsA (e : List T) : List Int := (colsL e).foldl addL []
def asc : List Int → Prop
  | [] => True
  | [_] => True
  | a :: b :: l => a < b ∧ asc (b :: l)
theorem asc_tail {a : Int} {l : List Int} (h : asc (a :: l)) : asc l := by
  cases l with
  | nil => trivial
  | cons b l => exact h.2
theorem asc_lt : ∀ {l : List Int} {a : Int}, asc (a :: l) → ∀ x ∈ l, a < x := by
  intro l
  induction l with
  | nil => intro a _ x hx; cases hx
  | cons b l ih =>
    intro a h x hx
    rcases List.mem_cons.1 hx with rfl | hx
    · exact h.1
    · have := ih h.2 x hx
      have := h.1
      omega
theorem asc_cons {a : Int} {l : List Int} (h : asc l) (ha : ∀ x ∈ l, a < x) : asc (a :: l) := by
  cases l with
  | nil => trivial
  | cons b l => exact ⟨ha b (by simp), h⟩
theorem asc_unique : ∀ (l m : List Int), asc l → asc m → (∀ x, x ∈ l ↔ x ∈ m) → l = m := by
  intro l
  induction l with
  | nil =>
    intro m _ _ h
    cases m with
    | nil => rfl
    | cons b m => have := (h b).2 (by simp); cases this
  | cons a l ih =>
    intro m hl hm h
    cases m with
    | nil => have := (h a).1 (by simp); cases this
    | cons b m =>
      have hab : a = b := by
        have h1 := (h a).1 (by simp)
        have h2 := (h b).2 (by simp)
        rcases List.mem_cons.1 h1 with e | e
        · exact e
        · rcases List.mem_cons.1 h2 with e2 | e2
          · exact e2.symm
          · have := asc_lt hm a e
            have := asc_lt hl b e2
            omega
      subst hab
      congr 1
      apply ih m (asc_tail hl) (asc_tail hm)
      intro x
      have hx := h x
      simp only [List.mem_cons] at hx
      constructor
      · intro h1
        have := asc_lt hl x h1
        rcases hx.1 (.inr h1) with e | e
        · omega
        · exact e
      · intro h1
        have := asc_lt hm x h1
        rcases hx.2 (.inr h1) with e | e
        · omega
        · exact e
theorem addL_mem : ∀ (l : List Int) (n x : Int), x ∈ addL l n ↔ x = n ∨ x ∈ l := by
  intro l
  induction l with
  | nil => intro n x; simp [addL]
  | cons a l ih =>
    intro n x
    unfold addL
    split
    · simp only [List.mem_cons, ih]
      constructor
      · rintro (h | h | h) <;> simp [h]
      · rintro (h | h | h) <;> simp [h]
    · split
      · rename_i h; subst h; simp
      · simp
theorem addL_asc : ∀ (l : List Int) (n : Int), asc l → asc (addL l n) := by
  intro l
  induction l with
  | nil => intro n _; trivial
  | cons a l ih =>
    intro n h
    unfold addL
    split
    · rename_i h1
      refine asc_cons (ih n (asc_tail h)) (fun x hx => ?_)
      rcases (addL_mem l n x).1 hx with e | e
      · omega
      · exact asc_lt h x e
    · split
      · exact h
      · exact ⟨by omega, h⟩
theorem foldl_add : ∀ (e l : List Int), asc l → asc (e.foldl addL l) ∧ ∀ x, x ∈ e.foldl addL l ↔ x ∈ e ∨ x ∈ l := by
  intro e
  induction e with
  | nil => intro l h; exact ⟨h, fun x => by simp⟩
  | cons a e ih =>
    intro l h
    obtain ⟨h1, h2⟩ := ih (addL l a) (addL_asc l a h)
    refine ⟨h1, fun x => ?_⟩
    rw [List.foldl_cons, h2, addL_mem, List.mem_cons]
    constructor
    · rintro (h | h | h) <;> simp [h]
    · rintro ((h | h) | h) <;> simp [h]
/-- Equal neighbours become one. -/
def compactL : List Int → List Int
  | [] => []
  | [a] => [a]
  | a :: b :: l => if a = b then compactL (b :: l) else a :: compactL (b :: l)
def leAsc : List Int → Prop
  | [] => True
  | [_] => True
  | a :: b :: l => a ≤ b ∧ leAsc (b :: l)
theorem compact_mem : ∀ (l : List Int) (x : Int), x ∈ compactL l ↔ x ∈ l := by
  intro l
  induction l with
  | nil => intro x; simp [compactL]
  | cons a l ih =>
    intro x
    cases l with
    | nil => simp [compactL]
    | cons b l =>
      rw [compactL]
      split
      · rename_i h
        subst h
        rw [ih]
        simp
      · rw [List.mem_cons, ih]; simp
theorem compact_asc : ∀ (l : List Int), leAsc l → asc (compactL l) := by
  intro l
  induction l with
  | nil => intro _; trivial
  | cons a l ih =>
    intro h
    cases l with
    | nil => trivial
    | cons b l =>
      rw [compactL]
      split
      · exact ih h.2
      · rename_i hab
        refine asc_cons (ih h.2) (fun x hx => ?_)
        have hx' := (compact_mem (b :: l) x).1 hx
        have hle : ∀ (m : List Int) (c : Int), leAsc (c :: m) → ∀ y ∈ c :: m, c ≤ y := by
          intro m
          induction m with
          | nil => intro c _ y hy; simp at hy; omega
          | cons d m ihm =>
            intro c hc y hy
            rcases List.mem_cons.1 hy with rfl | hy
            · omega
            · have := ihm d hc.2 y hy
              have := hc.1
              omega
        have := hle l b h.2 x hx'
        have := h.1
        omega
/-- Sorting and compacting gives what inserting one by one gives. -/
theorem sort_compact (e s : List Int) (hs : leAsc s) (hm : ∀ x, x ∈ s ↔ x ∈ e) : compactL s = e.foldl addL [] := by
  obtain ⟨h1, h2⟩ := foldl_add e [] trivial
  refine asc_unique _ _ (compact_asc s hs) h1 (fun x => ?_)
  rw [compact_mem, hm, h2]
  simp

def wordT : List (List UInt8) := [[110, 101, 103, 97, 116, 101], [97, 100, 100], [115, 117, 98, 116, 114, 97, 99, 116], [109, 117, 108, 116, 105, 112, 108, 121], [100, 105, 118, 105, 100, 101], [99, 111, 110, 99, 97, 116], [108, 101, 110, 103, 116, 104], [112, 114, 101, 102, 105, 120], [101, 113, 117, 97, 108], [108, 101, 115, 115], [110, 111, 116], [97, 110, 100], [111, 114], [105, 115, 110, 117, 108, 108], [99, 111, 97, 108, 101, 115, 99, 101], [105, 102]]
def wordL (op : Int) : List UInt8 := wordT.getD (op - 3).toNat []
def joinL : List (List UInt8) → List UInt8
  | [] => []
  | [a] => a
  | a :: b :: l => a ++ [44, 32] ++ joinL (b :: l)
theorem joinL_snoc : ∀ (l : List (List UInt8)) (a : List UInt8), l ≠ [] → joinL (l ++ [a]) = joinL l ++ [44, 32] ++ a := by
  intro l
  induction l with
  | nil => intro a h; exact absurd rfl h
  | cons b l ih =>
    intro a _
    cases l with
    | nil => simp [joinL]
    | cons c l =>
      have := ih a (by simp)
      simp only [List.cons_append, joinL] at this ⊢
      rw [this]
      simp
def termF (names : List ByteArray) (t : T) (l : List (List UInt8)) : List UInt8 :=
  if t.op = 1 then fmtV t.v
  else if t.op = 2 then (if t.c < names.length then (names.getD t.c.toNat ⟨#[]⟩).data.toList else [63])
  else wordL t.op ++ [40] ++ joinL l ++ [41]
mutual
def X.fmt (names : List ByteArray) : X → List UInt8 | .node t ks => termF names t (fmts names ks)
def fmts (names : List ByteArray) : List X → List (List UInt8)
  | [] => []
  | x :: xs => x.fmt names :: fmts names xs
end
theorem fmts_snoc (names : List ByteArray) (xs : List X) (x : X) : fmts names (xs ++ [x]) = fmts names xs ++ [x.fmt names] := by
  induction xs with
  | nil => simp [fmts]
  | cons y ys ih => simp [fmts, ih]
theorem fmts_len (names : List ByteArray) (xs : List X) : (fmts names xs).length = xs.length := by
  induction xs with
  | nil => simp [fmts]
  | cons y ys ih => simp [fmts, ih]
end Go.Proofs.YtojcabnjodfdmaaDoor
