/- Parsing takes back what formatting gives, in plain Lean. No condition. -/
import Derived.Test.YtmbegmhgiekofaaDoorPSpec
import Derived.Lib.ItoaMem
namespace Go.Proofs.YtmbegmhgiekofaaDoor

theorem dig_byte (u : Nat) (h : u < 10) : (UInt8.ofNat (48 + u)).toNat = 48 + u := by rw [UInt8.toNat_ofNat', Nat.mod_eq_of_lt (by omega)]
theorem digits_facts : ∀ (n u : Nat), u ≤ n → valF 0 (Lib.decDigits u) = u ∧ (Lib.decDigits u).all isDig = true ∧ Lib.decDigits u ≠ [] ∧ (10 ≤ u → (Lib.decDigits u).head? ≠ some 48) ∧ (1 ≤ u → (Lib.decDigits u).head? ≠ some 48) ∧ (10 ≤ u → 1 < (Lib.decDigits u).length) := by
  intro n
  induction n with
  | zero =>
    intro u hu
    obtain rfl : u = 0 := by omega
    rw [Lib.decDigits_one (by omega)]
    refine ⟨by simp [valF], by decide, by simp, fun h => absurd h (by omega), fun h => absurd h (by omega), fun h => absurd h (by omega)⟩
  | succ n ih =>
    intro u hu
    by_cases h : u < 10
    · rw [Lib.decDigits_one h]
      have hb := dig_byte u h
      refine ⟨?_, ?_, by simp, fun h' => absurd h' (by omega), fun h1 => ?_, fun h' => absurd h' (by omega)⟩
      · unfold valF
        rw [List.foldl_cons, List.foldl_nil, hb]
        omega
      · rw [List.all_cons, List.all_nil, Bool.and_true]
        unfold isDig
        rw [hb]
        simp
        omega
      · rw [List.head?_cons]
        intro e
        injection e with e
        rw [e] at hb
        have : (48 : UInt8).toNat = 48 := rfl
        omega
    · obtain ⟨i1, i2, i3, i4, i5, i6⟩ := ih (u / 10) (by omega)
      have hb := dig_byte (u % 10) (by omega)
      rw [Lib.decDigits, dif_neg h]
      have hh : (Lib.decDigits (u / 10) ++ [UInt8.ofNat (48 + u % 10)]).head? = (Lib.decDigits (u / 10)).head? := by
        cases hd : Lib.decDigits (u / 10) with
        | nil => exact absurd hd i3
        | cons a l => rfl
      refine ⟨?_, ?_, by simp, fun _ => ?_, fun _ => ?_, fun _ => ?_⟩
      · rw [valF_snoc, i1, hb]; omega
      · rw [List.all_append, i2, List.all_cons, List.all_nil, Bool.and_true, Bool.true_and]
        unfold isDig
        rw [hb]
        simp
        omega
      · rw [hh]; exact i5 (by omega)
      · rw [hh]; exact i5 (by omega)
      · have : 0 < (Lib.decDigits (u / 10)).length := List.length_pos_iff.2 i3
        simp only [List.length_append, List.length_cons, List.length_nil]
        omega
theorem decB_digits (u : Nat) : decB (Lib.decDigits u) = true := by
  obtain ⟨i1, i2, i3, i4, i5, i6⟩ := digits_facts u u (Nat.le_refl _)
  unfold decB
  rw [i2, Bool.true_and]
  by_cases h : u < 10
  · rw [Lib.decDigits_one h]; rfl
  · have e1 := i6 (by omega)
    have e2 := i4 (by omega)
    rw [Bool.or_eq_true]
    right
    rw [Bool.and_eq_true, decide_eq_true_eq, bne_iff_ne]
    exact ⟨e1, e2⟩
theorem digits_head (u : Nat) (c : UInt8) (h : (Lib.decDigits u).head? = some c) : isDig c = true := by
  obtain ⟨i1, i2, i3, _⟩ := digits_facts u u (Nat.le_refl _)
  cases hd : Lib.decDigits u with
  | nil => exact absurd hd i3
  | cons a l =>
    rw [hd] at h i2
    simp at h
    subst h
    exact List.all_eq_true.1 i2 a (by simp)
theorem pInt_digits (u : Nat) (hu : u ≤ 4294967296) : pInt (Lib.decDigits u) = (⟨1, (u : Int), ⟨#[]⟩⟩, 0) := by
  have hh : (Lib.decDigits u).head? ≠ some 45 := fun e => by have := digits_head u 45 e; revert this; decide
  have e1 : digs (Lib.decDigits u) = Lib.decDigits u := by unfold digs; rw [if_neg hh]
  have e2 : negB (Lib.decDigits u) = false := by unfold negB; simpa using hh
  unfold pInt
  rw [e1, e2, (digits_facts u u (Nat.le_refl _)).1, decB_digits, if_neg (by simp), if_neg (by omega)]
  simp
theorem pInt_minus (u : Nat) (h1 : 1 ≤ u) (hu : u ≤ 4294967296) : pInt (45 :: Lib.decDigits u) = (⟨1, -(u : Int), ⟨#[]⟩⟩, 0) := by
  have e1 : digs (45 :: Lib.decDigits u) = Lib.decDigits u := by simp [digs]
  have e2 : negB (45 :: Lib.decDigits u) = true := by unfold negB; simp
  unfold pInt
  rw [e1, e2, (digits_facts u u (Nat.le_refl _)).1, decB_digits, if_neg (by simp; omega), if_neg (by omega)]
  simp
theorem parse_digits (l : List UInt8) (h : ∀ c, l.head? = some c → isDig c = true ∨ c = 45) : parseO l = pInt l := by
  unfold parseO
  rw [if_neg, if_neg]
  · intro e
    rcases h 34 e with h | h <;> revert h <;> decide
  · rintro rfl
    rcases h 110 rfl with h | h <;> revert h <;> decide
theorem parse_fmt (v : V) : parseO (fmtV v) = (v.cl, 0) := by
  have hc := V.ok_cases v.cl_ok
  unfold fmtV
  generalize v.cl = x at hc ⊢
  obtain ⟨k, n, s⟩ := x
  simp only at hc ⊢
  rcases hc with ⟨rfl, rfl, h3⟩ | ⟨rfl, h2, h2', h3⟩ | ⟨rfl, rfl, h3⟩
  · have : s = ⟨#[]⟩ := by cases s; simp_all
    subst this
    rw [if_neg (by decide), if_neg (by decide)]
    rfl
  · have : s = ⟨#[]⟩ := by cases s; simp_all
    subst this
    rw [if_pos rfl]
    by_cases hn : n < 0
    · obtain ⟨u, rfl⟩ : ∃ u : Nat, n = -(u : Int) := ⟨n.natAbs, by omega⟩
      rw [Lib.itoa_neg u (by omega), parse_digits _ (fun c hc => by simp at hc; exact .inr hc.symm), pInt_minus u (by omega) (by omega)]
    · obtain ⟨u, rfl⟩ : ∃ u : Nat, n = (u : Int) := ⟨n.toNat, by omega⟩
      rw [Lib.itoa_nonneg, parse_digits _ (fun c hc => .inl (digits_head u c hc)), pInt_digits u (by omega)]
  · rw [if_neg (by decide), if_pos rfl]
    have hq : quoteL s.data.toList = 34 :: (s.data.toList.flatMap qbyte ++ [34]) := rfl
    have hu := unqR_quote s.data.toList []
    unfold parseO
    rw [if_neg (by rw [hq]; intro e; injection e with e1 _; revert e1; decide), if_pos (by rw [hq]; rfl)]
    have hu' : unqR ((quoteL s.data.toList).drop 1) = some (s.data.toList, (s.data.toList.flatMap qbyte).length + 1) := hu
    rw [pText_some hu', if_neg (by rw [hq]; simp), if_neg (by omega)]
end Go.Proofs.YtmbegmhgiekofaaDoor
