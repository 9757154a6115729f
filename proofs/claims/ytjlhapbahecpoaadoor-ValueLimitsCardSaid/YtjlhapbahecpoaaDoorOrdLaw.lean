/- The order of rows is a total order on valid rows, in plain Lean. -/
import Derived.Test.YtjlhapbahecpoaaDoorVSpec2
namespace Go.Proofs.YtjlhapbahecpoaaDoor

/-- Lexicographic order by f. -/
def lexC {α : Type} (f : α → α → Int) : List α → List α → Int
  | [], [] => 0
  | [], _ :: _ => -1
  | _ :: _, [] => 1
  | a :: l, b :: m => if f a b ≠ 0 then f a b else lexC f l m
/-- f orders the elements of S. -/
structure OrdC {α : Type} (f : α → α → Int) (S : α → Prop) : Prop where
  anti : ∀ a b, f b a = - f a b
  refl : ∀ a, f a a = 0
  zero : ∀ a b, S a → S b → f a b = 0 → a = b
  tr : ∀ a b c, S a → S b → S c → f a b < 0 → f b c < 0 → f a c < 0
theorem OrdC.tr1 {α : Type} {f : α → α → Int} {S : α → Prop} (h : OrdC f S) {a b c : α} (ha : S a) (hb : S b) (hc : S c) (h1 : f a b ≤ 0) (h2 : f b c ≤ 0) : f a c ≤ 0 := by
  by_cases e1 : f a b = 0
  · rw [h.zero a b ha hb e1]; exact h2
  · by_cases e2 : f b c = 0
    · rw [← h.zero b c hb hc e2]; exact h1
    · have := h.tr a b c ha hb hc (by omega) (by omega); omega
theorem lexC_ord {α : Type} {f : α → α → Int} {S : α → Prop} (h : OrdC f S) : OrdC (lexC f) (fun l => ∀ x ∈ l, S x) where
  anti := by
    intro a
    induction a with
    | nil => intro b; cases b <;> simp [lexC]
    | cons x l ih =>
      intro b
      cases b with
      | nil => simp [lexC]
      | cons y m =>
        simp only [lexC, h.anti x y]
        by_cases e : f x y = 0
        · rw [e]; simp [ih m]
        · simp [e]
  refl := by
    intro a
    induction a with
    | nil => rfl
    | cons x l ih => simp [lexC, h.refl x, ih]
  zero := by
    intro a
    induction a with
    | nil => intro b _ _ h0; cases b with
      | nil => rfl
      | cons => simp [lexC] at h0
    | cons x l ih =>
      intro b ha hb h0
      cases b with
      | nil => simp [lexC] at h0
      | cons y m =>
        simp only [lexC] at h0
        by_cases e : f x y = 0
        · rw [if_neg (by simpa using e)] at h0
          rw [h.zero x y (ha x (by simp)) (hb y (by simp)) e, ih m (fun z hz => ha z (by simp [hz])) (fun z hz => hb z (by simp [hz])) h0]
        · rw [if_pos e] at h0; exact absurd h0 e
  tr := by
    intro a
    induction a with
    | nil =>
      intro b c _ _ _ h1 h2
      cases c with
      | nil => cases b with
        | nil => simp [lexC] at h1
        | cons => simp [lexC] at h2
      | cons => simp [lexC]
    | cons x l ih =>
      intro b c ha hb hc h1 h2
      cases b with
      | nil => simp [lexC] at h1
      | cons y m =>
        cases c with
        | nil => simp [lexC] at h2
        | cons z n =>
          have sx := ha x (by simp)
          have sy := hb y (by simp)
          have sz := hc z (by simp)
          simp only [lexC] at h1 h2 ⊢
          by_cases e1 : f x y = 0
          · have := h.zero x y sx sy e1
            subst this
            rw [if_neg (by simpa using e1)] at h1
            by_cases e2 : f x z = 0
            · rw [if_neg (by simpa using e2)] at h2 ⊢
              exact ih m n (fun u hu => ha u (by simp [hu])) (fun u hu => hb u (by simp [hu])) (fun u hu => hc u (by simp [hu])) h1 h2
            · rw [if_pos e2] at h2 ⊢; exact h2
          · rw [if_pos e1] at h1
            by_cases e2 : f y z = 0
            · have := h.zero y z sy sz e2
              subst this
              rw [if_pos e1]; exact h1
            · rw [if_pos e2] at h2
              have := h.tr x y z sx sy sz h1 h2
              rw [if_pos (by omega)]; exact this
def cmpB (a b : UInt8) : Int := if a < b then -1 else if b < a then 1 else 0
theorem cmpB_ord : OrdC cmpB (fun _ => True) where
  anti := by intro a b; unfold cmpB; simp only [UInt8.lt_iff_toNat_lt]; repeat' split
             all_goals omega
  refl := by intro a; unfold cmpB; simp
  zero := by
    intro a b _ _ h
    unfold cmpB at h
    simp only [UInt8.lt_iff_toNat_lt] at h
    apply UInt8.toNat_inj.1
    split at h
    · omega
    · split at h <;> omega
  tr := by
    intro a b c _ _ _ h1 h2
    unfold cmpB at *
    simp only [UInt8.lt_iff_toNat_lt] at *
    split at h1
    · split at h2
      · rw [if_pos (by omega)]; omega
      · split at h2 <;> omega
    · split at h1 <;> omega
theorem compareBytes_lex : ∀ (a b : List UInt8), Lib.compareBytes a b = lexC cmpB a b := by
  intro a
  induction a with
  | nil => intro b; cases b <;> rfl
  | cons x l ih =>
    intro b
    cases b with
    | nil => rfl
    | cons y m =>
      simp only [Lib.compareBytes, lexC, cmpB, ih]
      by_cases h1 : x < y
      · simp [h1]
      · by_cases h2 : y < x
        · simp [h1, h2]
        · simp [h1, h2]
theorem bytes_ord : OrdC Lib.compareBytes (fun _ => True) := by
  have h := lexC_ord cmpB_ord
  refine ⟨fun a b => ?_, fun a => ?_, fun a b _ _ => ?_, fun a b c _ _ _ => ?_⟩
  · rw [compareBytes_lex, compareBytes_lex]; exact h.anti a b
  · rw [compareBytes_lex]; exact h.refl a
  · rw [compareBytes_lex]; exact h.zero a b (fun _ _ => trivial) (fun _ _ => trivial)
  · simp only [compareBytes_lex]; exact h.tr a b c (fun _ _ => trivial) (fun _ _ => trivial) (fun _ _ => trivial)
theorem int_ord : OrdC Lib.compareInt (fun _ => True) where
  anti := by intro a b; unfold Lib.compareInt; repeat' split
             all_goals omega
  refl := by intro a; unfold Lib.compareInt; simp
  zero := by intro a b _ _ h; unfold Lib.compareInt at h; split at h <;> (try split at h) <;> omega
  tr := by
    intro a b c _ _ _ h1 h2
    unfold Lib.compareInt at *
    split at h1
    · split at h2
      · rw [if_pos (by omega)]; omega
      · split at h2 <;> omega
    · split at h1 <;> omega
theorem cmpC_ord : OrdC cmpC (fun v => v.ok = true) where
  anti := by
    intro a b
    unfold cmpC
    by_cases hk : a.k = b.k
    · rw [hk]; simp only [ne_eq, not_true_eq_false, if_false]
      split
      · exact int_ord.anti _ _
      · split
        · exact bytes_ord.anti _ _
        · rfl
    · rw [if_pos hk, if_pos (Ne.symm hk)]; exact int_ord.anti _ _
  refl := by
    intro a
    unfold cmpC
    rw [if_neg (by simp)]
    split
    · exact int_ord.refl _
    · split
      · exact bytes_ord.refl _
      · rfl
  zero := by
    intro a b ha hb h
    unfold cmpC at h
    by_cases hk : a.k = b.k
    · rw [if_neg (by simpa using hk)] at h
      obtain ⟨ak, an, aS⟩ := a
      obtain ⟨bk, bn, bS⟩ := b
      simp only at hk
      subst hk
      rcases V.ok_cases ha with ⟨h1, h2, h3⟩ | ⟨h1, h2, _, h3⟩ | ⟨h1, h2, h3⟩ <;> rcases V.ok_cases hb with ⟨g1, g2, g3⟩ | ⟨g1, g2, _, g3⟩ | ⟨g1, g2, g3⟩ <;> simp only at h1 g1 h2 g2 h3 g3 h <;> try omega
      · simp only [V.mk.injEq]; exact ⟨trivial, by omega, bytes_ext (by rw [h3, g3])⟩
      · rw [if_pos h1] at h
        simp only [V.mk.injEq]; exact ⟨trivial, int_ord.zero _ _ trivial trivial h, bytes_ext (by rw [h3, g3])⟩
      · rw [if_neg (by omega), if_pos h1] at h
        simp only [V.mk.injEq]; exact ⟨trivial, by omega, bytes_ext (bytes_ord.zero _ _ trivial trivial h)⟩
    · rw [if_pos hk] at h
      exact absurd (int_ord.zero _ _ trivial trivial h) hk
  tr := by
    intro a b c _ _ _ h1 h2
    unfold cmpC at *
    by_cases e1 : a.k = b.k
    · rw [if_neg (by simpa using e1)] at h1
      by_cases e2 : b.k = c.k
      · rw [if_neg (by simpa using e2)] at h2
        rw [if_neg (by rw [e1]; simpa using e2)]
        by_cases d1 : a.k = 1
        · rw [if_pos d1] at h1 ⊢
          rw [if_pos (by omega)] at h2
          exact int_ord.tr _ _ _ trivial trivial trivial h1 h2
        · rw [if_neg d1] at h1 ⊢
          rw [if_neg (by omega)] at h2
          by_cases d2 : a.k = 2
          · rw [if_pos d2] at h1 ⊢
            rw [if_pos (by omega)] at h2
            exact bytes_ord.tr _ _ _ trivial trivial trivial h1 h2
          · rw [if_neg d2] at h1; omega
      · rw [if_pos e2] at h2
        rw [if_pos (by rw [e1]; exact e2), e1]; exact h2
    · rw [if_pos e1] at h1
      by_cases e2 : b.k = c.k
      · rw [if_pos (by rw [← e2]; exact e1), ← e2]; exact h1
      · rw [if_pos e2] at h2
        have := int_ord.tr _ _ _ trivial trivial trivial h1 h2
        rw [if_pos (fun e => by rw [e, int_ord.refl] at this; omega)]; exact this
theorem cmpRows_lex : ∀ a b : List V, cmpRows a b = lexC cmpC (a.map V.cl) (b.map V.cl) := by
  intro a
  induction a with
  | nil => intro b; cases b <;> rfl
  | cons x l ih => intro b; cases b with
    | nil => rfl
    | cons y m => simp only [cmpRows, List.map_cons, lexC, cmpV, ih]
theorem map_cl {a : List V} (h : ∀ v ∈ a, v.ok = true) : a.map V.cl = a := by
  induction a with
  | nil => rfl
  | cons x l ih => rw [List.map_cons, V.cl_of (h x (by simp)), ih fun v hv => h v (by simp [hv])]
theorem rows_ord : OrdC cmpRows (fun l => ∀ v ∈ l, v.ok = true) := by
  have h := lexC_ord cmpC_ord
  refine ⟨fun a b => ?_, fun a => ?_, fun a b ha hb => ?_, fun a b c ha hb hc => ?_⟩
  · rw [cmpRows_lex, cmpRows_lex]; exact h.anti _ _
  · rw [cmpRows_lex]; exact h.refl _
  · rw [cmpRows_lex, map_cl ha, map_cl hb]; exact h.zero a b ha hb
  · rw [cmpRows_lex, cmpRows_lex, cmpRows_lex, map_cl ha, map_cl hb, map_cl hc]; exact h.tr a b c ha hb hc
end Go.Proofs.YtjlhapbahecpoaaDoor
