/- What decoding is, in plain Lean, and that it takes back what encoding gives. -/
import Derived.Test.YtjlhapbahecpoaaDoorVk
namespace Go.Proofs.YtjlhapbahecpoaaDoor

/-- The text behind the mark: its bytes, and how many bytes were read. -/
def decT : List UInt8 → Option (List UInt8 × Nat)
  | [] => none
  | [_] => none
  | c :: d :: r => if c = 0 then (if d = 0 then some ([], 2) else if d = 255 then (decT r).map fun x => (0 :: x.1, x.2 + 2) else none) else (decT (d :: r)).map fun x => (c :: x.1, x.2 + 1)
def decN (a b c d e : UInt8) : Int := (a.toNat : Int) * 4294967296 + b.toNat * 16777216 + c.toNat * 65536 + d.toNat * 256 + e.toNat
/-- An integer behind the mark. -/
def decI (r : List UInt8) : Option (V × Nat) := match r with
  | a :: b :: c :: d :: e :: _ => some (⟨1, decN a b c d e - 4294967296, ⟨#[]⟩⟩, 6)
  | _ => none
theorem decI_five (a b c d e : UInt8) (t : List UInt8) : decI (a :: b :: c :: d :: e :: t) = some (⟨1, decN a b c d e - 4294967296, ⟨#[]⟩⟩, 6) := by rw [decI]
theorem decI_short (r : List UInt8) (h : r.length ≤ 4) : decI r = none := by
  match r, h with
  | [], _ => rw [decI]; intros; simp_all
  | [_], _ => rw [decI]; intros; simp_all
  | [_, _], _ => rw [decI]; intros; simp_all
  | [_, _, _], _ => rw [decI]; intros; simp_all
  | [_, _, _, _], _ => rw [decI]; intros; simp_all
theorem long5 {r : List UInt8} (h : 4 < r.length) : ∃ a b c d e t, r = a :: b :: c :: d :: e :: t := by
  match r, h with
  | a :: b :: c :: d :: e :: t, _ => exact ⟨a, b, c, d, e, t, rfl⟩
theorem decI_le {r : List UInt8} {v : V} {n : Nat} (h : decI r = some (v, n)) : n = 6 ∧ 5 ≤ r.length := by
  by_cases hl : r.length ≤ 4
  · rw [decI_short r hl] at h; cases h
  · obtain ⟨a, b, c, d, e, t, rfl⟩ := long5 (r := r) (by omega)
    rw [decI_five] at h
    injection h with h
    injection h with h1 h2
    exact ⟨h2.symm, by simp only [List.length_cons]; omega⟩
/-- A value at the beginning, valid or not. -/
def dec0 (s : List UInt8) : Option (V × Nat) :=
  match s with
  | [] => none
  | m :: r =>
    if m = 1 then some (V.null, 1)
    else if m = 2 then decI r
    else if m = 3 then (decT r).map fun x => (⟨2, 0, ⟨x.1.toArray⟩⟩, x.2 + 1)
    else none
/-- A valid value at the beginning. -/
def dec1 (s : List UInt8) : Option (V × Nat) := match dec0 s with
  | some (v, n) => if v.ok then some (v, n) else none
  | none => none
def decR : Nat → List UInt8 → List V → Option (List V)
  | 0, _, _ => none
  | f + 1, s, acc => if s = [] then some acc else match dec1 s with
    | none => none
    | some (v, n) => if acc.length = 16 then none else decR f (s.drop n) (acc ++ [v])

theorem decT_le : ∀ (n : Nat) (s : List UInt8), s.length ≤ n → ∀ t k, decT s = some (t, k) → 2 ≤ k ∧ k ≤ s.length ∧ t.length + 2 ≤ k := by
  intro n
  induction n with
  | zero =>
    intro s hs t k h
    cases s
    · simp [decT] at h
    · simp at hs
  | succ n ih =>
    intro s hs t k h
    match s, hs, h with
    | [], _, h => simp [decT] at h
    | [_], _, h => simp [decT] at h
    | c :: d :: r, hs, h =>
      simp only [List.length_cons] at hs
      rw [decT] at h
      split at h
      · split at h
        · simp at h; obtain ⟨rfl, rfl⟩ := h; simp
        · split at h
          · obtain ⟨⟨t', k'⟩, h1, h2⟩ := Option.map_eq_some_iff.1 h
            have := ih r (by omega) t' k' h1
            simp at h2
            obtain ⟨rfl, rfl⟩ := h2
            simp only [List.length_cons]
            omega
          · cases h
      · obtain ⟨⟨t', k'⟩, h1, h2⟩ := Option.map_eq_some_iff.1 h
        have := ih (d :: r) (by simp only [List.length_cons]; omega) t' k' h1
        simp at h2
        obtain ⟨rfl, rfl⟩ := h2
        simp only [List.length_cons] at this ⊢
        omega
theorem dec0_le (s : List UInt8) (v : V) (n : Nat) (h : dec0 s = some (v, n)) : 1 ≤ n ∧ n ≤ s.length := by
  cases s with
  | nil => simp [dec0] at h
  | cons m r =>
    unfold dec0 at h
    simp only at h
    split at h
    · simp at h; obtain ⟨_, rfl⟩ := h; simp
    · split at h
      · have := decI_le h
        simp only [List.length_cons]
        omega
      · split at h
        · obtain ⟨⟨t', k'⟩, h1, h2⟩ := Option.map_eq_some_iff.1 h
          have := decT_le _ r (Nat.le_refl _) t' k' h1
          simp at h2
          simp only [List.length_cons]
          omega
        · cases h
theorem decT_enc : ∀ (t rest : List UInt8), decT (t.flatMap encT ++ [0, 0] ++ rest) = some (t, (t.flatMap encT).length + 2) := by
  intro t
  induction t with
  | nil => intro rest; simp [decT]
  | cons c t ih =>
    intro rest
    have h := ih rest
    by_cases hc : c = 0
    · subst hc
      simp only [List.flatMap_cons, encT, if_true, List.cons_append, List.nil_append, List.length_cons]
      rw [decT]
      simp only [List.cons_append, List.nil_append, List.append_assoc] at h ⊢
      simp only [if_true]
      rw [if_neg (by decide), h]
      simp
    · simp only [List.flatMap_cons, encT, if_neg hc, List.cons_append, List.nil_append, List.length_cons]
      obtain ⟨d, r, e⟩ : ∃ d r, t.flatMap encT ++ [0, 0] ++ rest = d :: r := by
        cases t.flatMap encT with
        | nil => exact ⟨_, _, rfl⟩
        | cons d r => exact ⟨_, _, rfl⟩
      simp only [List.cons_append, List.nil_append, List.append_assoc] at h e ⊢
      rw [e] at h ⊢
      rw [decT, if_neg hc, h]
      simp
theorem decN_enc (m : Int) (h0 : 0 ≤ m) (h1 : m ≤ 8589934592) : decN (by8 (m / 4294967296)) (by8 (m / 16777216)) (by8 (m / 65536)) (by8 (m / 256)) (by8 m) = m := by
  unfold decN
  rw [by8_nat, by8_nat, by8_nat, by8_nat, by8_nat]
  omega
theorem dec1_enc (v : V) (h : v.ok = true) (rest : List UInt8) : dec1 (encV v ++ rest) = some (v, (encV v).length) := by
  have hd : dec0 (encV v ++ rest) = some (v, (encV v).length) := by
    have hc := V.ok_cases h
    obtain ⟨k, n, s⟩ := v
    simp only at hc
    rcases hc with ⟨rfl, rfl, h3⟩ | ⟨rfl, h2, h2', h3⟩ | ⟨rfl, rfl, h3⟩
    · have : s = ⟨#[]⟩ := by cases s; simp_all
      subst this
      simp [encV, dec0, V.null]
    · have : s = ⟨#[]⟩ := by cases s; simp_all
      subst this
      simp only [encV, if_true, encI, List.cons_append, List.nil_append, dec0]
      rw [if_neg (by decide), decI_five, decN_enc _ (by omega) (by omega), Int.add_sub_cancel]
      simp
    · simp only [encV, dec0]
      rw [if_neg (by decide), if_pos trivial]
      simp only [List.cons_append]
      rw [if_neg (by decide), if_neg (by decide), if_pos trivial, decT_enc]
      simp
  simp [dec1, hd, h]
theorem encV_ne (v : V) : encV v ≠ [] := by
  unfold encV
  split
  · simp [encI]
  · split <;> simp
theorem decR_enc : ∀ (vs : List V) (acc : List V) (f : Nat), vs.length < f → acc.length ≤ 16 → decR f (encRow vs) acc = if acc.length + vs.length ≤ 16 then some (acc ++ vs.map V.cl) else none := by
  intro vs
  induction vs with
  | nil =>
    intro acc f hf ha
    obtain ⟨f, rfl⟩ : ∃ g, f = g + 1 := ⟨f - 1, by simp at hf; omega⟩
    simp [decR, encRow, ha]
  | cons v vs ih =>
    intro acc f hf ha
    simp only [List.length_cons] at hf
    obtain ⟨f, rfl⟩ : ∃ g, f = g + 1 := ⟨f - 1, by omega⟩
    have e : encRow (v :: vs) = encV v.cl ++ encRow vs := by simp [encRow]
    rw [decR, e, if_neg (by have := encV_ne v.cl; simp [this]), dec1_enc _ v.cl_ok]
    simp only [List.drop_left]
    split
    · rw [if_neg (by simp only [List.length_cons]; omega)]
    · rw [ih (acc ++ [v.cl]) f (by omega) (by simp; omega)]
      simp only [List.length_append, List.length_cons, List.length_nil, List.map_cons, List.append_assoc, List.cons_append, List.nil_append]
      congr 1
      · simp only [eq_iff_iff]; omega
end Go.Proofs.YtjlhapbahecpoaaDoor
