/- Tokens and their words, in plain Lean: what was read as a token is its word, and the word is read as the token again. No condition. Scanning what was joined gives the tokens again; where the tokens stand. In plain Lean, no condition. -/
import Derived.Test.YtpnfbehbheddeaaGreatDoorBn02
import Derived.Test.YtpnfbehbheddeaaGreatDoorBn11
namespace Go.Proofs.YtpnfbehbheddeaaGreatDoor
set_option maxRecDepth 100000
set_option maxHeartbeats 8000000
set_option linter.unusedVariables false
set_option linter.unusedSimpArgs false
theorem hexd_hexI (a : UInt8) (h : 0 ≤ hexI a) : hexd (hexI a).toNat = a := by
  have hk : ∀ k : Fin 256, 0 ≤ hexI (UInt8.ofNat k.val) → hexd (hexI (UInt8.ofNat k.val)).toNat = UInt8.ofNat k.val := by decide +kernel
  have := hk ⟨a.toNat, a.toNat_lt⟩
  simp only [UInt8.ofNat_toNat] at this
  exact this h
theorem qbyte_hexB {a b : UInt8} (h : 0 ≤ hexI a ∧ 0 ≤ hexI b ∧ plainB (hexB a b) = false) : qbyte (hexB a b) = [92, a, b] := by
  have h1 := hexI_facts a
  have h2 := hexI_facts b
  have hn : (hexB a b).toNat = (hexI a).toNat * 16 + (hexI b).toNat := by
    have := hexB_nat h.1 h.2.1
    omega
  have e1 : (hexB a b).toNat / 16 = (hexI a).toNat := by rw [hn]; omega
  have e2 : (hexB a b).toNat % 16 = (hexI b).toNat := by rw [hn]; omega
  unfold qbyte
  rw [if_neg (by rw [h.2.2]; simp), e1, e2, hexd_hexI a h.1, hexd_hexI b h.2.1]
theorem unqR_take : ∀ (n : Nat) (l : List UInt8), l.length ≤ n → ∀ t k, unqR l = some (t, k) → l.take k = t.flatMap qbyte ++ [34] := by
  intro n
  induction n with
  | zero =>
    intro l hl t k h
    obtain rfl : l = [] := List.eq_nil_of_length_eq_zero (by omega)
    rw [unqR_nil] at h
    cases h
  | succ n ih =>
    intro l hl t k h
    cases l with
    | nil => rw [unqR_nil] at h; cases h
    | cons c r =>
      simp only [List.length_cons] at hl
      by_cases h1 : c = 34
      · subst h1
        rw [unqR_end] at h
        injection h with h
        injection h with h2 h3
        subst h2 h3
        simp
      by_cases h2 : c = 92
      · subst h2
        match r, hl, h with
        | [], _, h => rw [unqR_esc0] at h; cases h
        | [a], _, h => rw [unqR_esc1] at h; cases h
        | a :: b :: r', hl, h =>
          by_cases hh : 0 ≤ hexI a ∧ 0 ≤ hexI b ∧ plainB (hexB a b) = false
          · rw [unqR_esc hh] at h
            obtain ⟨⟨t', k'⟩, e1, e2⟩ := Option.map_eq_some_iff.1 h
            simp only [List.length_cons] at hl
            have hi := ih r' (by omega) t' k' e1
            simp only [Prod.mk.injEq] at e2
            obtain ⟨rfl, rfl⟩ := e2
            simp only [List.take_succ_cons, List.flatMap_cons, qbyte_hexB hh, hi, List.cons_append, List.nil_append]
          · rw [unqR_bad hh] at h; cases h
      · cases hp : plainB c
        · rw [unqR_odd h1 h2 hp] at h; cases h
        · rw [unqR_plain hp] at h
          obtain ⟨⟨t', k'⟩, e1, e2⟩ := Option.map_eq_some_iff.1 h
          have hi := ih r (by omega) t' k' e1
          simp only [Prod.mk.injEq] at e2
          obtain ⟨rfl, rfl⟩ := e2
          have hq : qbyte c = [c] := by unfold qbyte; rw [if_pos hp]
          simp only [List.take_succ_cons, List.flatMap_cons, hq, hi, List.cons_append, List.nil_append]
theorem isDig_nat {c : UInt8} (h : isDig c = true) : 48 ≤ c.toNat ∧ c.toNat ≤ 57 := by
  unfold isDig at h
  rw [Bool.and_eq_true, decide_eq_true_eq, decide_eq_true_eq] at h
  exact h
theorem digits_val : ∀ (n : Nat) (d : List UInt8), d.length ≤ n → d.all isDig = true → d ≠ [] → (d.length = 1 ∨ d.head? ≠ some 48) → Lib.decDigits (valF 0 d) = d := by
  intro n
  induction n with
  | zero => intro d hd _ hne _; exact absurd (List.eq_nil_of_length_eq_zero (by omega)) hne
  | succ n ih =>
    intro d hd ha hne hh
    have he := List.dropLast_concat_getLast hne
    generalize d.getLast hne = c at he
    generalize hi : d.dropLast = i at he
    have hc : isDig c = true := List.all_eq_true.1 ha c (by rw [← he]; simp)
    obtain ⟨c1, c2⟩ := isDig_nat hc
    have hai : i.all isDig = true := by
      rw [← he, List.all_append] at ha
      exact (Bool.and_eq_true _ _ ▸ ha).1
    rw [← he, valF_snoc]
    by_cases hi0 : i = []
    · subst hi0
      have : valF 0 [] = 0 := rfl
      rw [this, Lib.decDigits_one (by omega)]
      have hb : UInt8.ofNat (48 + (0 * 10 + (c.toNat - 48))) = c := by
        rw [show 48 + (0 * 10 + (c.toNat - 48)) = c.toNat by omega]
        simp
      rw [hb]
      rfl
    · have hil : i.length ≤ n := by
        have := congrArg List.length he
        simp only [List.length_append, List.length_cons, List.length_nil] at this
        omega
      have hhd : d.head? = i.head? := by
        rw [← he]
        cases i with
        | nil => exact absurd rfl hi0
        | cons a l => rfl
      have hlen : 1 < d.length := by
        have := congrArg List.length he
        have h1 : 0 < i.length := List.length_pos_iff.2 hi0
        simp only [List.length_append, List.length_cons, List.length_nil] at this
        omega
      have hnz : i.head? ≠ some 48 := by
        rcases hh with hh | hh
        · omega
        · rw [← hhd]; exact hh
      have hI := ih i hil hai hi0 (.inr hnz)
      have hv : 1 ≤ valF 0 i := by
        rcases Nat.eq_zero_or_pos (valF 0 i) with h0 | h0
        · exfalso
          rw [h0, Lib.decDigits_one (by omega)] at hI
          apply hnz
          rw [← hI]
          rfl
        · exact h0
      rw [Lib.decDigits, dif_neg (by omega), show (valF 0 i * 10 + (c.toNat - 48)) / 10 = valF 0 i by omega, hI, show (valF 0 i * 10 + (c.toNat - 48)) % 10 = c.toNat - 48 by omega, show 48 + (c.toNat - 48) = c.toNat by omega]
      simp
def wordTk (t : Tk) : List UInt8 := if t.kind = 1 ∨ t.kind = 4 then t.text else if t.kind = 2 then Lib.itoa t.int else quoteL t.text
def gap (r : List UInt8) : Prop := r = [] ∨ r.head? = some 32
theorem takeWhile_gap {p : UInt8 → Bool} (h32 : p 32 = false) : ∀ (l r : List UInt8), l.all p = true → gap r → (l ++ r).takeWhile p = l := by
  intro l
  induction l with
  | nil =>
    intro r _ hr
    rcases hr with rfl | hr
    · rfl
    · cases r with
      | nil => rfl
      | cons c r =>
        simp at hr
        subst hr
        simp [h32]
  | cons c l ih =>
    intro r ha hr
    simp only [List.all_cons, Bool.and_eq_true] at ha
    simp only [List.cons_append, List.takeWhile_cons, ha.1, if_true]
    rw [ih r ha.2 hr]
theorem take_takeWhile {p : UInt8 → Bool} : ∀ (l : List UInt8), l.take (l.takeWhile p).length = l.takeWhile p := by
  intro l
  induction l with
  | nil => rfl
  | cons c l ih =>
    cases hp : p c
    · simp [hp]
    · simp only [List.takeWhile_cons, hp, if_true, List.length_cons, List.take_succ_cons, ih]
theorem all_takeWhile {p : UInt8 → Bool} : ∀ (l : List UInt8), (l.takeWhile p).all p = true := by
  intro l
  induction l with
  | nil => rfl
  | cons c l ih =>
    cases hp : p c
    · simp [hp]
    · simp only [List.takeWhile_cons, hp, if_true, List.all_cons, ih, Bool.and_self]
structure TokAt (s : List UInt8) (t : Tk) (n : Nat) : Prop where
  pos : 1 ≤ n
  le : n ≤ s.length
  word : s.take n = wordTk t
  len : (wordTk t).length = n
  zero : t.pos = 0
  back : ∀ r, gap r → tokO (wordTk t ++ r) = (t, n, 0)
theorem tok_name {c : UInt8} {r0 : List UInt8} (hc : isLet c = true) (h16 : ¬ 16 < nameLen (c :: r0)) : TokAt (c :: r0) ⟨1, (c :: r0).take (nameLen (c :: r0)), 0, 0⟩ (nameLen (c :: r0)) := by
  have e : nameLen (c :: r0) = (r0.takeWhile inNm).length + 1 := by rw [nameLen, if_pos hc, Nat.add_comm]
  have hw : (c :: r0).take (nameLen (c :: r0)) = c :: r0.takeWhile inNm := by rw [e, List.take_succ_cons, take_takeWhile]
  have hle : (r0.takeWhile inNm).length ≤ r0.length := by
    have := congrArg List.length (take_takeWhile (p := inNm) r0)
    rw [List.length_take] at this
    omega
  have hword : wordTk ⟨1, (c :: r0).take (nameLen (c :: r0)), 0, 0⟩ = c :: r0.takeWhile inNm := by unfold wordTk; rw [if_pos (.inl rfl)]; exact hw
  refine ⟨by omega, by rw [e]; simp only [List.length_cons]; omega, by rw [hword, hw], by rw [hword, e]; simp, rfl, fun r hr => ?_⟩
  rw [hword]
  have hg : ((r0.takeWhile inNm) ++ r).takeWhile inNm = r0.takeWhile inNm := takeWhile_gap (by decide) _ r (all_takeWhile r0) hr
  have e2 : nameLen (c :: r0.takeWhile inNm ++ r) = nameLen (c :: r0) := by
    rw [List.cons_append, nameLen, if_pos hc, hg, e, Nat.add_comm]
  unfold tokO
  rw [if_pos (show isLet ((c :: r0.takeWhile inNm ++ r).getD 0 0) = true from hc), e2, if_neg h16]
  have e3 : (c :: r0.takeWhile inNm ++ r).take (nameLen (c :: r0)) = (c :: r0).take (nameLen (c :: r0)) := by
    rw [hw, e, List.cons_append, List.take_succ_cons, List.take_left]
  rw [e3]
theorem tok_number {c : UInt8} {r0 : List UInt8} (hl : isLet c = false) (hc : isDig c = true) (h0 : (pInt ((c :: r0).takeWhile isDig)).2 = 0) : TokAt (c :: r0) ⟨2, [], (pInt ((c :: r0).takeWhile isDig)).1.n, 0⟩ ((c :: r0).takeWhile isDig).length := by
  obtain ⟨d1, hd⟩ : ∃ d1, (c :: r0).takeWhile isDig = c :: d1 := ⟨r0.takeWhile isDig, by rw [List.takeWhile_cons, hc]; rfl⟩
  have ht := take_takeWhile (p := isDig) (c :: r0)
  have ha := all_takeWhile (p := isDig) (c :: r0)
  have hle : ((c :: r0).takeWhile isDig).length ≤ (c :: r0).length := by
    have := congrArg List.length ht
    rw [List.length_take] at this
    omega
  rw [hd] at h0 ht ha hle ⊢
  have h45 : (c :: d1).head? ≠ some 45 := by
    intro e
    simp at e
    subst e
    revert hc
    decide
  have e1 : digs (c :: d1) = c :: d1 := by unfold digs; rw [if_neg h45]
  have e2 : negB (c :: d1) = false := by unfold negB; simpa using h45
  have hp : pInt (c :: d1) = (⟨1, (valF 0 (c :: d1) : Int), ⟨#[]⟩⟩, 0) ∧ decB (c :: d1) = true := by
    unfold pInt at h0 ⊢
    rw [e1, e2] at h0 ⊢
    split at h0
    · simp at h0
    · rename_i h1
      have hdec : decB (c :: d1) = true := by
        cases hq : decB (c :: d1)
        · exact absurd (.inl hq) h1
        · rfl
      split at h0
      · simp at h0
      · rename_i h2
        rw [if_neg h1, if_neg h2]
        exact ⟨rfl, hdec⟩
  obtain ⟨hp1, hdec⟩ := hp
  rw [hp1]
  simp only
  have hval : Lib.decDigits (valF 0 (c :: d1)) = c :: d1 := by
    refine digits_val _ _ (Nat.le_refl _) ha (by simp) ?_
    unfold decB at hdec
    rw [ha, Bool.true_and, Bool.or_eq_true] at hdec
    rcases hdec with h | h
    · exact .inl (by simpa using h)
    · rw [Bool.and_eq_true, bne_iff_ne] at h
      exact .inr h.2
  have hword : wordTk ⟨2, [], (valF 0 (c :: d1) : Int), 0⟩ = c :: d1 := by
    unfold wordTk
    rw [if_neg (by simp), if_pos rfl, Lib.itoa_nonneg, hval]
  refine ⟨by simp, hle, by rw [hword]; exact ht, by rw [hword], rfl, fun r hr => ?_⟩
  rw [hword]
  have hg : (c :: d1 ++ r).takeWhile isDig = c :: d1 := takeWhile_gap (by decide) _ r ha hr
  unfold tokO
  rw [if_neg (show ¬ isLet ((c :: d1 ++ r).getD 0 0) = true from by show ¬ isLet c = true; rw [hl]; simp), if_pos (show isDig ((c :: d1 ++ r).getD 0 0) = true from hc), hg, hp1]
  rfl
theorem tok_text {r0 t : List UInt8} {k : Nat} (hu : unqR r0 = some (t, k)) (h32 : ¬ 32 < t.length) : TokAt (34 :: r0) ⟨3, t, 0, 0⟩ (k + 1) := by
  have ht := unqR_take _ r0 (Nat.le_refl _) t k hu
  obtain ⟨_, _, _, hk⟩ := unqR_last _ r0 (Nat.le_refl _) t k hu
  have hlen : k = (t.flatMap qbyte).length + 1 := by
    have := congrArg List.length ht
    rw [List.length_take, List.length_append] at this
    simp only [List.length_cons, List.length_nil] at this
    omega
  have hword : wordTk ⟨3, t, 0, 0⟩ = quoteL t := by
    unfold wordTk
    rw [if_neg (by simp), if_neg (by simp)]
  have hq : quoteL t = 34 :: (t.flatMap qbyte ++ [34]) := rfl
  refine ⟨by omega, by simp only [List.length_cons]; omega, by rw [hword, hq, List.take_succ_cons, ht], by rw [hword, hq, hlen]; simp, rfl, fun r hr => ?_⟩
  rw [hword, hq]
  have hd : (34 :: (t.flatMap qbyte ++ [34]) ++ r).getD 0 0 = 34 := rfl
  unfold tokO
  rw [hd, if_neg (by decide), if_neg (by decide), if_pos rfl]
  have he : (34 :: (t.flatMap qbyte ++ [34]) ++ r).drop 1 = t.flatMap qbyte ++ 34 :: r := by simp
  rw [he, unqR_quote]
  simp only
  rw [if_neg h32, hlen]
theorem tok_sign {c : UInt8} {r0 : List UInt8} (h1 : isLet c = false) (h2 : isDig c = false) (h3 : c ≠ 34) (hn : signLen (c :: r0) ≠ 0) : TokAt (c :: r0) ⟨4, (c :: r0).take (signLen (c :: r0)), 0, 0⟩ (signLen (c :: r0)) := by
  have hword : wordTk ⟨4, (c :: r0).take (signLen (c :: r0)), 0, 0⟩ = (c :: r0).take (signLen (c :: r0)) := by unfold wordTk; rw [if_pos (.inr rfl)]
  have key : (signLen (c :: r0) = 2 ∧ 2 ≤ (c :: r0).length ∧ ((c :: r0).take 2 = [43, 43] ∨ (c :: r0).take 2 = [60, 61])) ∨ (signLen (c :: r0) = 1 ∧ signL.contains c = true) := by
    by_cases hs : (c :: r0).take 2 = [43, 43] ∨ (c :: r0).take 2 = [60, 61]
    · refine .inl ⟨by unfold signLen; rw [if_pos hs], ?_, hs⟩
      rcases hs with hs | hs <;> (have := congrArg List.length hs; rw [List.length_take] at this; simp only [List.length_cons, List.length_nil] at this ⊢; omega)
    · by_cases hs2 : (c :: r0) ≠ [] ∧ signL.contains ((c :: r0).getD 0 0) = true
      · exact .inr ⟨by unfold signLen; rw [if_neg hs, if_pos hs2], hs2.2⟩
      · exact absurd (by unfold signLen; rw [if_neg hs, if_neg hs2]) hn
  have tok : ∀ (r : List UInt8) (m : Nat), 1 ≤ m → signLen ((c :: r0).take m ++ r) = m → (c :: r0).take m ++ r ≠ [] → ((c :: r0).take m).length = m → tokO ((c :: r0).take m ++ r) = (⟨4, (c :: r0).take m, 0, 0⟩, m, 0) := by
    intro r m hm hsl hne hlm
    obtain ⟨m, rfl⟩ : ∃ j, m = j + 1 := ⟨m - 1, by omega⟩
    have hd : ((c :: r0).take (m + 1) ++ r).getD 0 0 = c := by rw [List.take_succ_cons]; rfl
    unfold tokO
    rw [hd, if_neg (by rw [h1]; simp), if_neg (by rw [h2]; simp), if_neg h3, hsl, if_neg (by omega)]
    rw [List.take_append_of_le_length (by omega), List.take_of_length_le (by omega)]
  rcases key with ⟨k1, k2, k3⟩ | ⟨k1, k2⟩
  · have hl2 : ((c :: r0).take 2).length = 2 := by rw [List.length_take]; omega
    rw [k1] at hword ⊢
    refine ⟨by omega, k2, hword.symm, by rw [hword, hl2], rfl, fun r hr => ?_⟩
    rw [hword]
    refine tok r 2 (by omega) ?_ (by intro e; have := congrArg List.length e; rw [List.length_append, hl2] at this; simp at this) hl2
    unfold signLen
    rw [if_pos (by rw [List.take_append_of_le_length (by omega), List.take_of_length_le (by omega)]; exact k3)]
  · have hl1 : (c :: r0).take 1 = [c] := rfl
    rw [k1] at hword ⊢
    refine ⟨by omega, by simp, hword.symm, by rw [hword, hl1]; rfl, rfl, fun r hr => ?_⟩
    rw [hword]
    refine tok r 1 (by omega) ?_ (by rw [hl1]; simp) (by rw [hl1]; rfl)
    rw [hl1]
    unfold signLen
    rw [if_neg, if_pos ⟨by simp, k2⟩]
    rcases hr with rfl | hr
    · simp
    · cases r with
      | nil => simp
      | cons x r =>
        simp at hr
        subst hr
        simp
theorem tok_at (s : List UInt8) (hs : s ≠ []) (t : Tk) (n : Nat) (h : tokO s = (t, n, 0)) : TokAt s t n := by
  cases s with
  | nil => exact absurd rfl hs
  | cons c r0 =>
    unfold tokO at h
    have hd : (c :: r0).getD 0 0 = c := rfl
    rw [hd] at h
    split at h
    · rename_i hc
      split at h
      · simp at h
      · rename_i h16
        simp only [Prod.mk.injEq] at h
        obtain ⟨rfl, rfl, _⟩ := h
        exact tok_name hc h16
    · rename_i hc
      have hl : isLet c = false := by simpa using hc
      split at h
      · rename_i hdg
        split at h
        · rename_i h0
          simp only [Prod.mk.injEq] at h
          exact absurd h.2.2 h0
        · rename_i h0
          simp only [Prod.mk.injEq] at h
          obtain ⟨rfl, rfl, _⟩ := h
          exact tok_number hl hdg (by simpa using h0)
      · rename_i hdg
        have hdg' : isDig c = false := by simpa using hdg
        split at h
        · rename_i h34
          subst h34
          rw [List.drop_succ_cons, List.drop_zero] at h
          cases hu : unqR r0 with
          | none => rw [hu] at h; simp at h
          | some x =>
            obtain ⟨t', k⟩ := x
            rw [hu] at h
            simp only at h
            split at h
            · simp at h
            · rename_i h32
              simp only [Prod.mk.injEq] at h
              obtain ⟨rfl, rfl, _⟩ := h
              exact tok_text hu h32
        · rename_i h34
          split at h
          · simp at h
          · rename_i hn
            simp only [Prod.mk.injEq] at h
            obtain ⟨rfl, rfl, _⟩ := h
            exact tok_sign hl hdg' h34 hn
def wsB (c : UInt8) : Prop := c = 10 ∨ c = 32 ∨ c = 9 ∨ c = 13 ∨ c = 35
def Tk.at0 (t : Tk) : Tk := { t with pos := 0 }
structure Canon (t : Tk) : Prop where
  pos : 1 ≤ (wordTk t).length
  back : ∀ r, gap r → tokO (wordTk t ++ r) = (t.at0, (wordTk t).length, 0)
theorem tok_first {c : UInt8} {r : List UInt8} {x : Tk × Nat} (h : tokO (c :: r) = (x.1, x.2, 0)) : ¬ wsB c := by
  intro hw
  have hd : (c :: r).getD 0 0 = c := rfl
  have h1 : isLet c = false := by rcases hw with rfl | rfl | rfl | rfl | rfl <;> decide
  have h2 : isDig c = false := by rcases hw with rfl | rfl | rfl | rfl | rfl <;> decide
  have h3 : c ≠ 34 := by rcases hw with rfl | rfl | rfl | rfl | rfl <;> decide
  have h4 : signL.contains c = false := by rcases hw with rfl | rfl | rfl | rfl | rfl <;> decide
  have h5 : signLen (c :: r) = 0 := by
    unfold signLen
    rw [if_neg, if_neg]
    · rw [hd, h4]; simp
    · have hc : c ≠ 43 ∧ c ≠ 60 := by rcases hw with rfl | rfl | rfl | rfl | rfl <;> decide
      cases r with
      | nil => simp
      | cons d r => simp [hc.1, hc.2]
  unfold tokO at h
  rw [hd, if_neg (by rw [h1]; simp), if_neg (by rw [h2]; simp), if_neg h3, if_pos h5] at h
  simp at h
theorem Canon.head {t : Tk} (h : Canon t) : ∃ c r, wordTk t = c :: r ∧ ¬ wsB c := by
  cases hw : wordTk t with
  | nil => have := h.pos; rw [hw] at this; simp at this
  | cons c r =>
    refine ⟨c, r, rfl, ?_⟩
    have := h.back [] (.inl rfl)
    rw [hw, List.append_nil] at this
    exact tok_first (x := (_, _)) this
theorem TokAt.canon {s : List UInt8} {t : Tk} {n : Nat} (h : TokAt s t n) (p : Int) : Canon { t with pos := p } := by
  have hz : (Tk.at0 { t with pos := p }) = t := by
    have := h.zero
    cases t
    simp only [Tk.at0] at this ⊢
    rw [this]
  have hw : wordTk { t with pos := p } = wordTk t := rfl
  refine ⟨by rw [hw, h.len]; exact h.pos, fun r hr => ?_⟩
  rw [hw, hz, h.len]
  exact h.back r hr
theorem skipN_word {c : UInt8} (hc : ¬ wsB c) (r : List UInt8) : skipN false (c :: r) = 0 := by
  unfold wsB at hc
  rw [skipN, if_neg (fun e => hc (.inl e)), if_neg (fun e => hc (by rcases e with e | e | e <;> simp [e])), if_neg (fun e => hc (by simp [e]))]
  rfl
theorem skipN_sp (r : List UInt8) : skipN false (32 :: r) = 1 + skipN false r := by
  rw [skipN, if_neg (by decide), if_pos (.inl rfl)]
def spJoin : List (List UInt8) → List UInt8
  | [] => []
  | [a] => a
  | a :: b :: l => a ++ 32 :: spJoin (b :: l)
def sameTk (l m : List Tk) : Prop := l.map Tk.at0 = m.map Tk.at0
theorem scan_join : ∀ (ts : List Tk), (∀ t ∈ ts, Canon t) → ∀ (f : Nat) (sp : List UInt8) (pos : Nat) (acc : List Tk), (sp = [] ∨ sp = [32]) → (sp ++ spJoin (ts.map wordTk)).length < f → acc.length + ts.length ≤ 4096 → ts ≠ [] ∨ sp = [] →
    ∃ ts', scanL f (sp ++ spJoin (ts.map wordTk)) pos acc = (acc ++ ts', 0, 0) ∧ sameTk ts' ts := by
  intro ts
  induction ts with
  | nil =>
    intro _ f sp pos acc _ hf _ hne
    rcases hne with h | rfl
    · exact absurd rfl h
    · obtain ⟨f, rfl⟩ : ∃ g, f = g + 1 := ⟨f - 1, by omega⟩
      refine ⟨[], ?_, rfl⟩
      rw [scanL]
      simp [spJoin, skipN]
  | cons t ts ih =>
    intro hc f sp pos acc hsp hf hcount _
    have hct := hc t (by simp)
    obtain ⟨c, r, hw, hnc⟩ := hct.head
    obtain ⟨f, rfl⟩ : ∃ g, f = g + 1 := ⟨f - 1, by omega⟩
    obtain ⟨rest, hj, hgap, hrest⟩ : ∃ rest, spJoin ((t :: ts).map wordTk) = wordTk t ++ rest ∧ gap rest ∧ ((ts = [] ∧ rest = []) ∨ (ts ≠ [] ∧ rest = [32] ++ spJoin (ts.map wordTk))) := by
      cases ts with
      | nil => exact ⟨[], by simp [spJoin], .inl rfl, .inl ⟨rfl, rfl⟩⟩
      | cons u us => exact ⟨32 :: spJoin ((u :: us).map wordTk), by simp [spJoin], .inr rfl, .inr ⟨by simp, rfl⟩⟩
    have hk : skipN false (sp ++ spJoin ((t :: ts).map wordTk)) = sp.length ∧ (sp ++ spJoin ((t :: ts).map wordTk)).drop (skipN false (sp ++ spJoin ((t :: ts).map wordTk))) = wordTk t ++ rest := by
      rcases hsp with rfl | rfl
      · rw [hj, List.nil_append, hw, List.cons_append, skipN_word hnc]; simp
      · rw [hj, hw, List.cons_append, List.nil_append, List.cons_append, skipN_sp, skipN_word hnc]; simp
    rw [scanL]
    simp only
    rw [hk.2, if_neg (by rw [hw]; simp), hct.back rest hgap]
    simp only [ne_eq, not_true, if_false]
    rw [if_neg (by simp only [List.length_cons] at hcount; omega), hk.1, List.drop_left]
    have hlen : (sp ++ spJoin ((t :: ts).map wordTk)).length = sp.length + ((wordTk t).length + rest.length) := by rw [hj, List.length_append, List.length_append]
    have hpos := hct.pos
    rcases hrest with ⟨rfl, rfl⟩ | ⟨hne, rfl⟩
    · obtain ⟨ts', e1, e2⟩ := ih (fun x hx => absurd hx (by simp)) f [] (pos + sp.length + (wordTk t).length) (acc ++ [{ t.at0 with pos := ((pos + sp.length : Nat) : Int) }]) (.inl rfl) (by simp [spJoin]; omega) (by simp only [List.length_append, List.length_cons, List.length_nil] at hcount ⊢; omega) (.inr rfl)
      simp only [List.map_nil, spJoin, List.append_nil] at e1
      refine ⟨{ t.at0 with pos := ((pos + sp.length : Nat) : Int) } :: ts', ?_, ?_⟩
      · rw [e1]; simp
      · unfold sameTk at e2 ⊢
        simp only [List.map_cons, e2]
        rfl
    · obtain ⟨ts', e1, e2⟩ := ih (fun x hx => hc x (by simp [hx])) f [32] (pos + sp.length + (wordTk t).length) (acc ++ [{ t.at0 with pos := ((pos + sp.length : Nat) : Int) }]) (.inr rfl) (by omega) (by simp only [List.length_append, List.length_cons, List.length_nil] at hcount ⊢; omega) (.inl hne)
      refine ⟨{ t.at0 with pos := ((pos + sp.length : Nat) : Int) } :: ts', ?_, ?_⟩
      · rw [e1]; simp
      · unfold sameTk at e2 ⊢
        simp only [List.map_cons, e2]
        rfl
end Go.Proofs.YtpnfbehbheddeaaGreatDoor
