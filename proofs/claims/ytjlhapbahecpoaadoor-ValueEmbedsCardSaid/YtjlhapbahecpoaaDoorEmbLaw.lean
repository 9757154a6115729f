/- The byte forms of rows are ordered as the rows are, in plain Lean. -/
import Derived.Test.YtjlhapbahecpoaaDoorOrdLaw
import Derived.Test.YtjlhapbahecpoaaDoorVk
namespace Go.Proofs.YtjlhapbahecpoaaDoor

theorem cmpB_nat (a b : UInt8) : cmpB a b = Lib.compareInt (a.toNat : Int) (b.toNat : Int) := by
  unfold cmpB Lib.compareInt
  simp only [UInt8.lt_iff_toNat_lt]
  by_cases h1 : a.toNat < b.toNat
  · rw [if_pos h1, if_pos (by omega)]
  · by_cases h2 : b.toNat < a.toNat
    · rw [if_neg h1, if_pos h2, if_neg (by omega), if_pos (by omega)]
    · rw [if_neg h1, if_neg h2, if_neg (by omega), if_neg (by omega)]
theorem lexC_same (l x y : List UInt8) : lexC cmpB (l ++ x) (l ++ y) = lexC cmpB x y := by
  induction l with
  | nil => rfl
  | cons c l ih => simp only [List.cons_append, lexC]; rw [if_neg (by simp [cmpB_ord.refl]), ih]
/-- Texts: the first difference decides; a shorter text comes first. -/
theorem lexC_text : ∀ (s t x y : List UInt8), lexC cmpB (s.flatMap encT ++ ([0, 0] ++ x)) (t.flatMap encT ++ ([0, 0] ++ y)) = if lexC cmpB s t ≠ 0 then lexC cmpB s t else lexC cmpB x y := by
  have h0 : ∀ c : UInt8, c ≠ 0 → cmpB 0 c = -1 := by
    intro c hc
    have : (0 : UInt8) < c := by
      rw [UInt8.lt_iff_toNat_lt]
      have : c.toNat ≠ 0 := fun h => hc (UInt8.toNat_inj.1 h)
      simp; omega
    simp [cmpB, this]
  have h1 : ∀ c : UInt8, c ≠ 0 → cmpB c 0 = 1 := by
    intro c hc
    rw [cmpB_ord.anti 0 c, h0 c hc]; rfl
  intro s
  induction s with
  | nil =>
    intro t x y
    cases t with
    | nil => simp [lexC, cmpB]
    | cons c t =>
      by_cases hc : c = 0
      · subst hc; simp [lexC, encT, cmpB]
      · simp [lexC, encT, hc, h0 c hc]
  | cons c s ih =>
    intro t x y
    cases t with
    | nil =>
      by_cases hc : c = 0
      · subst hc; simp [lexC, encT, cmpB]
      · simp [lexC, encT, hc, h1 c hc]
    | cons d t =>
      by_cases hcd : c = d
      · subst hcd
        simp only [List.flatMap_cons, List.append_assoc]
        rw [lexC_same, ih t x y]
        simp only [lexC, cmpB_ord.refl, ne_eq, not_true_eq_false, if_false]
      · have hne : cmpB c d ≠ 0 := fun e => hcd (cmpB_ord.zero c d trivial trivial e)
        have hl : lexC cmpB (c :: s) (d :: t) = cmpB c d := by simp [lexC, hne]
        rw [hl, if_pos hne]
        by_cases hc : c = 0
        · subst hc
          have hd : d ≠ 0 := Ne.symm hcd
          simp [lexC, encT, hd, h0 d hd]
        · by_cases hd : d = 0
          · subst hd; simp [lexC, encT, hc, h1 c hc]
          · simp [lexC, encT, hc, hd, hne]
theorem by8_cmp (x y : Int) : cmpB (by8 x) (by8 y) = Lib.compareInt (x % 256) (y % 256) := by rw [cmpB_nat, by8_nat, by8_nat]
theorem cI_ne {a b : Int} (h : Lib.compareInt a b ≠ 0) : a ≠ b := fun e => h (by rw [e]; exact int_ord.refl b)
theorem cI_lt {a b : Int} (h : a < b) : Lib.compareInt a b = -1 := by unfold Lib.compareInt; rw [if_pos h]
theorem cI_gt {a b : Int} (h : b < a) : Lib.compareInt a b = 1 := by unfold Lib.compareInt; rw [if_neg (by omega), if_pos (by omega)]
/-- Numbers: five digits to the base 256. -/
theorem lexC_int (m n : Int) (h0 : 0 ≤ m) (h1 : m ≤ 8589934592) (h2 : 0 ≤ n) (h3 : n ≤ 8589934592) (x y : List UInt8) : lexC cmpB (encI m ++ x) (encI n ++ y) = if Lib.compareInt m n ≠ 0 then Lib.compareInt m n else lexC cmpB x y := by
  have key : ∀ (a b c d : Int) (k : Int), Lib.compareInt m n = (if Lib.compareInt a b ≠ 0 then Lib.compareInt a b else k) → True := fun _ _ _ _ _ _ => trivial
  simp only [encI, List.cons_append, List.nil_append, lexC, by8_cmp, cmpB_ord.refl, ne_eq, not_true_eq_false, if_false]
  rcases Int.lt_trichotomy m n with h | h | h
  · rw [cI_lt h]
    by_cases e1 : m / 4294967296 % 256 = n / 4294967296 % 256
    · rw [e1, int_ord.refl]
      by_cases e2 : m / 16777216 % 256 = n / 16777216 % 256
      · rw [e2, int_ord.refl]
        by_cases e3 : m / 65536 % 256 = n / 65536 % 256
        · rw [e3, int_ord.refl]
          by_cases e4 : m / 256 % 256 = n / 256 % 256
          · rw [e4, int_ord.refl, cI_lt (show m % 256 < n % 256 by omega)]; simp
          · rw [cI_lt (show m / 256 % 256 < n / 256 % 256 by omega)]; simp
        · rw [cI_lt (show m / 65536 % 256 < n / 65536 % 256 by omega)]; simp
      · rw [cI_lt (show m / 16777216 % 256 < n / 16777216 % 256 by omega)]; simp
    · rw [cI_lt (show m / 4294967296 % 256 < n / 4294967296 % 256 by omega)]; simp
  · subst h; simp [int_ord.refl]
  · rw [cI_gt h]
    by_cases e1 : m / 4294967296 % 256 = n / 4294967296 % 256
    · rw [e1, int_ord.refl]
      by_cases e2 : m / 16777216 % 256 = n / 16777216 % 256
      · rw [e2, int_ord.refl]
        by_cases e3 : m / 65536 % 256 = n / 65536 % 256
        · rw [e3, int_ord.refl]
          by_cases e4 : m / 256 % 256 = n / 256 % 256
          · rw [e4, int_ord.refl, cI_gt (show n % 256 < m % 256 by omega)]; simp
          · rw [cI_gt (show n / 256 % 256 < m / 256 % 256 by omega)]; simp
        · rw [cI_gt (show n / 65536 % 256 < m / 65536 % 256 by omega)]; simp
      · rw [cI_gt (show n / 16777216 % 256 < m / 16777216 % 256 by omega)]; simp
    · rw [cI_gt (show n / 4294967296 % 256 < m / 4294967296 % 256 by omega)]; simp
theorem lexC_value {a b : V} (ha : a.ok = true) (hb : b.ok = true) (x y : List UInt8) : lexC cmpB (encV a ++ x) (encV b ++ y) = if cmpC a b ≠ 0 then cmpC a b else lexC cmpB x y := by
  have c12 : cmpB 1 2 = -1 := by decide
  have c13 : cmpB 1 3 = -1 := by decide
  have c23 : cmpB 2 3 = -1 := by decide
  have c21 : cmpB 2 1 = 1 := by decide
  have c31 : cmpB 3 1 = 1 := by decide
  have c32 : cmpB 3 2 = 1 := by decide
  rcases V.ok_cases ha with ⟨h1, h2, h3⟩ | ⟨h1, h2, h2', h3⟩ | ⟨h1, h2, h3⟩ <;> rcases V.ok_cases hb with ⟨g1, g2, g3⟩ | ⟨g1, g2, g2', g3⟩ | ⟨g1, g2, g3⟩
  · simp [encV, cmpC, h1, g1, lexC, cmpB_ord.refl]
  · simp [encV, cmpC, h1, g1, lexC, encI, c12, Lib.compareInt]
  · simp [encV, cmpC, h1, g1, lexC, c13, Lib.compareInt]
  · simp [encV, cmpC, h1, g1, lexC, encI, c21, Lib.compareInt]
  · have := lexC_int (a.n + 4294967296) (b.n + 4294967296) (by omega) (by omega) (by omega) (by omega) x y
    have e : Lib.compareInt (a.n + 4294967296) (b.n + 4294967296) = Lib.compareInt a.n b.n := by
      unfold Lib.compareInt
      by_cases q1 : a.n < b.n
      · rw [if_pos q1, if_pos (by omega)]
      · by_cases q2 : a.n > b.n
        · rw [if_neg q1, if_pos q2, if_neg (by omega), if_pos (by omega)]
        · rw [if_neg q1, if_neg q2, if_neg (by omega), if_neg (by omega)]
    rw [e] at this
    simp only [encV, cmpC, h1, g1, if_true, ne_eq, not_true_eq_false, if_false]
    exact this
  · simp [encV, cmpC, h1, g1, lexC, encI, c23, Lib.compareInt]
  · simp [encV, cmpC, h1, g1, lexC, c31, Lib.compareInt]
  · simp [encV, cmpC, h1, g1, lexC, encI, c32, Lib.compareInt]
  · have := lexC_text a.s.data.toList b.s.data.toList x y
    rw [← compareBytes_lex a.s.data.toList] at this
    simp only [encV, cmpC, h1, g1, if_true, ne_eq, not_true_eq_false, if_false, show ¬ (2 : Int) = 1 by decide, List.cons_append, List.append_assoc, lexC, cmpB_ord.refl]
    exact this
theorem encV_ne (v : V) : ∃ c l, encV v = c :: l := by
  unfold encV
  split
  · exact ⟨_, _, rfl⟩
  · split
    · exact ⟨_, _, rfl⟩
    · exact ⟨_, _, rfl⟩
theorem embeds : ∀ a b : List V, Lib.compareBytes (encRow a) (encRow b) = cmpRows a b := by
  intro a
  simp only [compareBytes_lex]
  induction a with
  | nil =>
    intro b
    cases b with
    | nil => rfl
    | cons y m =>
      obtain ⟨c, l, e⟩ := encV_ne y.cl
      simp [encRow, e, lexC, cmpRows]
  | cons x l ih =>
    intro b
    cases b with
    | nil =>
      obtain ⟨c, l', e⟩ := encV_ne x.cl
      simp [encRow, e, lexC, cmpRows]
    | cons y m =>
      have := lexC_value x.cl_ok y.cl_ok (encRow l) (encRow m)
      rw [ih m] at this
      simp only [encRow, List.flatMap_cons, cmpRows, cmpV] at this ⊢
      exact this
end Go.Proofs.YtjlhapbahecpoaaDoor
