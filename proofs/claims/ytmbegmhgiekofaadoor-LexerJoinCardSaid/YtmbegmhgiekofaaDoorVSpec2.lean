/- The order of values and rows, in plain Lean. No program in sight, no condition. -/
import Derived.Test.YtmbegmhgiekofaaDoorVSpec
import Derived.Lib.Small
import Derived.Lib.Bytealg
namespace Go.Proofs.YtmbegmhgiekofaaDoor
/-- The order of cleaned values. -/
def cmpC (a b : V) : Int :=
  if a.k ≠ b.k then Lib.compareInt a.k b.k else if a.k = 1 then Lib.compareInt a.n b.n else if a.k = 2 then Lib.compareBytes a.s.data.toList b.s.data.toList else 0
def cmpV (a b : V) : Int := cmpC a.cl b.cl
def cmpRows : List V → List V → Int
  | [], [] => 0
  | [], _ :: _ => -1
  | _ :: _, [] => 1
  | a :: as, b :: bs => if cmpV a b ≠ 0 then cmpV a b else cmpRows as bs
def V.beq (a b : V) : Bool := a.k == b.k && (a.n == b.n && a.s.data.toList == b.s.data.toList)
theorem bytes_ext {a b : ByteArray} (h : a.data.toList = b.data.toList) : a = b := by
  rw [← Lib.mk_data a, ← Lib.mk_data b, h]
theorem V.beq_iff (a b : V) : a.beq b = true ↔ a = b := by
  obtain ⟨k, n, s⟩ := a
  obtain ⟨k', n', s'⟩ := b
  simp only [V.beq, Bool.and_eq_true, beq_iff_eq, V.mk.injEq]
  constructor
  · rintro ⟨h1, h2, h3⟩; exact ⟨h1, h2, bytes_ext h3⟩
  · rintro ⟨h1, h2, h3⟩; exact ⟨h1, h2, by rw [h3]⟩
theorem V.beq_false (a b : V) : a.beq b = false ↔ a ≠ b := by
  constructor
  · intro h e
    rw [(V.beq_iff a b).2 e] at h
    cases h
  · intro h
    cases h1 : a.beq b
    · rfl
    · exact absurd ((V.beq_iff a b).1 h1) h
/-- What a cleaned value is. -/
theorem V.ok_cases {v : V} (h : v.ok = true) : (v.k = 0 ∧ v.n = 0 ∧ v.s.data.toList = []) ∨ (v.k = 1 ∧ -4294967296 ≤ v.n ∧ v.n ≤ 4294967296 ∧ v.s.data.toList = []) ∨ (v.k = 2 ∧ v.n = 0 ∧ v.s.data.toList.length ≤ 32) := by
  simp only [V.ok, Lib.size_eq, Bool.or_eq_true, Bool.and_eq_true, beq_iff_eq, decide_eq_true_eq] at h
  rcases h with (⟨⟨h1, h2⟩, h3⟩ | ⟨⟨⟨h1, h2⟩, h3⟩, h4⟩) | ⟨⟨h1, h2⟩, h3⟩
  · exact .inl ⟨h1, h2, List.eq_nil_of_length_eq_zero h3⟩
  · exact .inr (.inl ⟨h1, h2, h3, List.eq_nil_of_length_eq_zero h4⟩)
  · exact .inr (.inr ⟨h1, h2, h3⟩)
/-- The reference's order, as its text has it. -/
def cmpR (a b : V) : Int :=
  if a.beq b then 0 else if a.k < b.k ∨ (a.k = b.k ∧ (a.n < b.n ∨ Op.bytesLess a.s.data.toList b.s.data.toList = true)) then -1 else 1
theorem bytesLess_compare : ∀ (a b : List UInt8), Lib.compareBytes a b = if Op.bytesLess a b then -1 else if a = b then 0 else 1 := by
  intro a
  induction a with
  | nil => intro b; cases b <;> simp [Lib.compareBytes, Op.bytesLess]
  | cons x xs ih =>
    intro b
    cases b with
    | nil => simp [Lib.compareBytes, Op.bytesLess]
    | cons y ys =>
      simp only [Lib.compareBytes, Op.bytesLess, ih ys]
      by_cases h1 : x < y
      · simp [h1]
      · by_cases h2 : y < x
        · have h3 : x ≠ y := by rintro rfl; exact h1 h2
          simp [h1, h2, h3]
        · have h3 : x = y := by
            apply UInt8.toNat_inj.1
            rw [UInt8.lt_iff_toNat_lt] at h1 h2
            omega
          subst h3
          simp [h1]
theorem cmpR_eq {a b : V} (ha : a.ok = true) (hb : b.ok = true) : cmpR a b = cmpC a b := by
  unfold cmpR cmpC
  rw [bytesLess_compare]
  rcases V.ok_cases ha with ⟨h1, h2, h3⟩ | ⟨h1, h2, h2', h3⟩ | ⟨h1, h2, h3⟩ <;> rcases V.ok_cases hb with ⟨g1, g2, g3⟩ | ⟨g1, g2, g2', g3⟩ | ⟨g1, g2, g3⟩ <;> simp [V.beq, Lib.compareInt, h1, g1, h3, g3, Op.bytesLess]
  · simp [h2, g2]
  · by_cases h : a.n = b.n
    · simp [h]
    · by_cases h' : a.n < b.n
      · simp [h, h']
      · have : b.n < a.n := by omega
        simp [h, h', this]
  · simp only [h2, g2]
    by_cases h : a.s.data.toList = b.s.data.toList
    · rw [h]
      have : ∀ l : List UInt8, Op.bytesLess l l = false := by
        intro l
        induction l with
        | nil => rfl
        | cons x xs ih => simp [Op.bytesLess, ih]
      simp [this]
    · have h' : ¬ a.s.data = b.s.data := fun e => h (by rw [e])
      simp [h']
end Go.Proofs.YtmbegmhgiekofaaDoor
