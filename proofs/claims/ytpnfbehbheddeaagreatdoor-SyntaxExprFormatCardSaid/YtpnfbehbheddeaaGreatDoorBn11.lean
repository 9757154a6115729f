/- Tokens and their words, in plain Lean: what was read as a token is its word, and the word is read as the token again. No condition. Scanning what was joined gives the tokens again; where the tokens stand. In plain Lean, no condition. Small facts for the walks of the lexer, in plain Lean: how far a name, a number and a sign reach; scanning byte by byte; words and joining. No condition. -/
import Derived.Test.YtpnfbehbheddeaaGreatDoorBn02
import Derived.Test.YtpnfbehbheddeaaGreatDoorBn10
namespace Go.Proofs.YtpnfbehbheddeaaGreatDoor
set_option maxRecDepth 100000
set_option maxHeartbeats 8000000
set_option linter.unusedVariables false
set_option linter.unusedSimpArgs false
theorem hexd_hexI (a : UInt8) (h : 0 ≤ hexI a) : hexd (hexI a).toNat = a := by
  have hk : ∀ k : Fin 256, 0 ≤ hexI (UInt8.ofNat k.val) → hexd (hexI (UInt8.ofNat k.val)).toNat = UInt8.ofNat k.val := by decide +kernel
  have := hk ⟨a.toNat, a.toNat_lt⟩
  simp only [UInt8.ofNat_toNat] at this
  exact this h
theorem qbyte_hexB {a b : UInt8} (h : 0 ≤ hexI a ∧ 0 ≤ hexI b ∧ plainB (hexB a b) = false) : qbyte (hexB a b) = [92, a, b] := by
  have h1 := hexI_facts a
  have h2 := hexI_facts b
  have hn : (hexB a b).toNat = (hexI a).toNat * 16 + (hexI b).toNat := by
    have := hexB_nat h.1 h.2.1
    omega
  have e1 : (hexB a b).toNat / 16 = (hexI a).toNat := by rw [hn]; omega
  have e2 : (hexB a b).toNat % 16 = (hexI b).toNat := by rw [hn]; omega
  unfold qbyte
  rw [if_neg (by rw [h.2.2]; simp), e1, e2, hexd_hexI a h.1, hexd_hexI b h.2.1]
theorem unqR_take : ∀ (n : Nat) (l : List UInt8), l.length ≤ n → ∀ t k, unqR l = some (t, k) → l.take k = t.flatMap qbyte ++ [34] := by
  intro n
  induction n with
  | zero =>
    intro l hl t k h
    obtain rfl : l = [] := List.eq_nil_of_length_eq_zero (by omega)
    rw [unqR_nil] at h
    cases h
  | succ n ih =>
    intro l hl t k h
    cases l with
    | nil => rw [unqR_nil] at h; cases h
    | cons c r =>
      simp only [List.length_cons] at hl
      by_cases h1 : c = 34
      · subst h1
        rw [unqR_end] at h
        injection h with h
        injection h with h2 h3
        subst h2 h3
        simp
      by_cases h2 : c = 92
      · subst h2
        match r, hl, h with
        | [], _, h => rw [unqR_esc0] at h; cases h
        | [a], _, h => rw [unqR_esc1] at h; cases h
        | a :: b :: r', hl, h =>
          by_cases hh : 0 ≤ hexI a ∧ 0 ≤ hexI b ∧ plainB (hexB a b) = false
          · rw [unqR_esc hh] at h
            obtain ⟨⟨t', k'⟩, e1, e2⟩ := Option.map_eq_some_iff.1 h
            simp only [List.length_cons] at hl
            have hi := ih r' (by omega) t' k' e1
            simp only [Prod.mk.injEq] at e2
            obtain ⟨rfl, rfl⟩ := e2
            simp only [List.take_succ_cons, List.flatMap_cons, qbyte_hexB hh, hi, List.cons_append, List.nil_append]
          · rw [unqR_bad hh] at h; cases h
      · cases hp : plainB c
        · rw [unqR_odd h1 h2 hp] at h; cases h
        · rw [unqR_plain hp] at h
          obtain ⟨⟨t', k'⟩, e1, e2⟩ := Option.map_eq_some_iff.1 h
          have hi := ih r (by omega) t' k' e1
          simp only [Prod.mk.injEq] at e2
          obtain ⟨rfl, rfl⟩ := e2
          have hq : qbyte c = [c] := by unfold qbyte; rw [if_pos hp]
          simp only [List.take_succ_cons, List.flatMap_cons, hq, hi, List.cons_append, List.nil_append]
theorem isDig_nat {c : UInt8} (h : isDig c = true) : 48 ≤ c.toNat ∧ c.toNat ≤ 57 := by
  unfold isDig at h
  rw [Bool.and_eq_true, decide_eq_true_eq, decide_eq_true_eq] at h
  exact h
theorem digits_val : ∀ (n : Nat) (d : List UInt8), d.length ≤ n → d.all isDig = true → d ≠ [] → (d.length = 1 ∨ d.head? ≠ some 48) → Lib.decDigits (valF 0 d) = d := by
  intro n
  induction n with
  | zero => intro d hd _ hne _; exact absurd (List.eq_nil_of_length_eq_zero (by omega)) hne
  | succ n ih =>
    intro d hd ha hne hh
    have he := List.dropLast_concat_getLast hne
    generalize d.getLast hne = c at he
    generalize hi : d.dropLast = i at he
    have hc : isDig c = true := List.all_eq_true.1 ha c (by rw [← he]; simp)
    obtain ⟨c1, c2⟩ := isDig_nat hc
    have hai : i.all isDig = true := by
      rw [← he, List.all_append] at ha
      exact (Bool.and_eq_true _ _ ▸ ha).1
    rw [← he, valF_snoc]
    by_cases hi0 : i = []
    · subst hi0
      have : valF 0 [] = 0 := rfl
      rw [this, Lib.decDigits_one (by omega)]
      have hb : UInt8.ofNat (48 + (0 * 10 + (c.toNat - 48))) = c := by
        rw [show 48 + (0 * 10 + (c.toNat - 48)) = c.toNat by omega]
        simp
      rw [hb]
      rfl
    · have hil : i.length ≤ n := by
        have := congrArg List.length he
        simp only [List.length_append, List.length_cons, List.length_nil] at this
        omega
      have hhd : d.head? = i.head? := by
        rw [← he]
        cases i with
        | nil => exact absurd rfl hi0
        | cons a l => rfl
      have hlen : 1 < d.length := by
        have := congrArg List.length he
        have h1 : 0 < i.length := List.length_pos_iff.2 hi0
        simp only [List.length_append, List.length_cons, List.length_nil] at this
        omega
      have hnz : i.head? ≠ some 48 := by
        rcases hh with hh | hh
        · omega
        · rw [← hhd]; exact hh
      have hI := ih i hil hai hi0 (.inr hnz)
      have hv : 1 ≤ valF 0 i := by
        rcases Nat.eq_zero_or_pos (valF 0 i) with h0 | h0
        · exfalso
          rw [h0, Lib.decDigits_one (by omega)] at hI
          apply hnz
          rw [← hI]
          rfl
        · exact h0
      rw [Lib.decDigits, dif_neg (by omega), show (valF 0 i * 10 + (c.toNat - 48)) / 10 = valF 0 i by omega, hI, show (valF 0 i * 10 + (c.toNat - 48)) % 10 = c.toNat - 48 by omega, show 48 + (c.toNat - 48) = c.toNat by omega]
      simp
def wordTk (t : Tk) : List UInt8 := if t.kind = 1 ∨ t.kind = 4 then t.text else if t.kind = 2 then Lib.itoa t.int else quoteL t.text
def gap (r : List UInt8) : Prop := r = [] ∨ r.head? = some 32
theorem takeWhile_gap {p : UInt8 → Bool} (h32 : p 32 = false) : ∀ (l r : List UInt8), l.all p = true → gap r → (l ++ r).takeWhile p = l := by
  intro l
  induction l with
  | nil =>
    intro r _ hr
    rcases hr with rfl | hr
    · rfl
    · cases r with
      | nil => rfl
      | cons c r =>
        simp at hr
        subst hr
        simp [h32]
  | cons c l ih =>
    intro r ha hr
    simp only [List.all_cons, Bool.and_eq_true] at ha
    simp only [List.cons_append, List.takeWhile_cons, ha.1, if_true]
    rw [ih r ha.2 hr]
theorem take_takeWhile {p : UInt8 → Bool} : ∀ (l : List UInt8), l.take (l.takeWhile p).length = l.takeWhile p := by
  intro l
  induction l with
  | nil => rfl
  | cons c l ih =>
    cases hp : p c
    · simp [hp]
    · simp only [List.takeWhile_cons, hp, if_true, List.length_cons, List.take_succ_cons, ih]
theorem all_takeWhile {p : UInt8 → Bool} : ∀ (l : List UInt8), (l.takeWhile p).all p = true := by
  intro l
  induction l with
  | nil => rfl
  | cons c l ih =>
    cases hp : p c
    · simp [hp]
    · simp only [List.takeWhile_cons, hp, if_true, List.all_cons, ih, Bool.and_self]
structure TokAt (s : List UInt8) (t : Tk) (n : Nat) : Prop where
  pos : 1 ≤ n
  le : n ≤ s.length
  word : s.take n = wordTk t
  len : (wordTk t).length = n
  zero : t.pos = 0
  back : ∀ r, gap r → tokO (wordTk t ++ r) = (t, n, 0)
theorem tok_name {c : UInt8} {r0 : List UInt8} (hc : isLet c = true) (h16 : ¬ 16 < nameLen (c :: r0)) : TokAt (c :: r0) ⟨1, (c :: r0).take (nameLen (c :: r0)), 0, 0⟩ (nameLen (c :: r0)) := by
  have e : nameLen (c :: r0) = (r0.takeWhile inNm).length + 1 := by rw [nameLen, if_pos hc, Nat.add_comm]
  have hw : (c :: r0).take (nameLen (c :: r0)) = c :: r0.takeWhile inNm := by rw [e, List.take_succ_cons, take_takeWhile]
  have hle : (r0.takeWhile inNm).length ≤ r0.length := by
    have := congrArg List.length (take_takeWhile (p := inNm) r0)
    rw [List.length_take] at this
    omega
  have hword : wordTk ⟨1, (c :: r0).take (nameLen (c :: r0)), 0, 0⟩ = c :: r0.takeWhile inNm := by unfold wordTk; rw [if_pos (.inl rfl)]; exact hw
  refine ⟨by omega, by rw [e]; simp only [List.length_cons]; omega, by rw [hword, hw], by rw [hword, e]; simp, rfl, fun r hr => ?_⟩
  rw [hword]
  have hg : ((r0.takeWhile inNm) ++ r).takeWhile inNm = r0.takeWhile inNm := takeWhile_gap (by decide) _ r (all_takeWhile r0) hr
  have e2 : nameLen (c :: r0.takeWhile inNm ++ r) = nameLen (c :: r0) := by
    rw [List.cons_append, nameLen, if_pos hc, hg, e, Nat.add_comm]
  unfold tokO
  rw [if_pos (show isLet ((c :: r0.takeWhile inNm ++ r).getD 0 0) = true from hc), e2, if_neg h16]
  have e3 : (c :: r0.takeWhile inNm ++ r).take (nameLen (c :: r0)) = (c :: r0).take (nameLen (c :: r0)) := by
    rw [hw, e, List.cons_append, List.take_succ_cons, List.take_left]
  rw [e3]
theorem tok_number {c : UInt8} {r0 : List UInt8} (hl : isLet c = false) (hc : isDig c = true) (h0 : (pInt ((c :: r0).takeWhile isDig)).2 = 0) : TokAt (c :: r0) ⟨2, [], (pInt ((c :: r0).takeWhile isDig)).1.n, 0⟩ ((c :: r0).takeWhile isDig).length := by
  obtain ⟨d1, hd⟩ : ∃ d1, (c :: r0).takeWhile isDig = c :: d1 := ⟨r0.takeWhile isDig, by rw [List.takeWhile_cons, hc]; rfl⟩
  have ht := take_takeWhile (p := isDig) (c :: r0)
  have ha := all_takeWhile (p := isDig) (c :: r0)
  have hle : ((c :: r0).takeWhile isDig).length ≤ (c :: r0).length := by
    have := congrArg List.length ht
    rw [List.length_take] at this
    omega
  rw [hd] at h0 ht ha hle ⊢
  have h45 : (c :: d1).head? ≠ some 45 := by
    intro e
    simp at e
    subst e
    revert hc
    decide
  have e1 : digs (c :: d1) = c :: d1 := by unfold digs; rw [if_neg h45]
  have e2 : negB (c :: d1) = false := by unfold negB; simpa using h45
  have hp : pInt (c :: d1) = (⟨1, (valF 0 (c :: d1) : Int), ⟨#[]⟩⟩, 0) ∧ decB (c :: d1) = true := by
    unfold pInt at h0 ⊢
    rw [e1, e2] at h0 ⊢
    split at h0
    · simp at h0
    · rename_i h1
      have hdec : decB (c :: d1) = true := by
        cases hq : decB (c :: d1)
        · exact absurd (.inl hq) h1
        · rfl
      split at h0
      · simp at h0
      · rename_i h2
        rw [if_neg h1, if_neg h2]
        exact ⟨rfl, hdec⟩
  obtain ⟨hp1, hdec⟩ := hp
  rw [hp1]
  simp only
  have hval : Lib.decDigits (valF 0 (c :: d1)) = c :: d1 := by
    refine digits_val _ _ (Nat.le_refl _) ha (by simp) ?_
    unfold decB at hdec
    rw [ha, Bool.true_and, Bool.or_eq_true] at hdec
    rcases hdec with h | h
    · exact .inl (by simpa using h)
    · rw [Bool.and_eq_true, bne_iff_ne] at h
      exact .inr h.2
  have hword : wordTk ⟨2, [], (valF 0 (c :: d1) : Int), 0⟩ = c :: d1 := by
    unfold wordTk
    rw [if_neg (by simp), if_pos rfl, Lib.itoa_nonneg, hval]
  refine ⟨by simp, hle, by rw [hword]; exact ht, by rw [hword], rfl, fun r hr => ?_⟩
  rw [hword]
  have hg : (c :: d1 ++ r).takeWhile isDig = c :: d1 := takeWhile_gap (by decide) _ r ha hr
  unfold tokO
  rw [if_neg (show ¬ isLet ((c :: d1 ++ r).getD 0 0) = true from by show ¬ isLet c = true; rw [hl]; simp), if_pos (show isDig ((c :: d1 ++ r).getD 0 0) = true from hc), hg, hp1]
  rfl
theorem tok_text {r0 t : List UInt8} {k : Nat} (hu : unqR r0 = some (t, k)) (h32 : ¬ 32 < t.length) : TokAt (34 :: r0) ⟨3, t, 0, 0⟩ (k + 1) := by
  have ht := unqR_take _ r0 (Nat.le_refl _) t k hu
  obtain ⟨_, _, _, hk⟩ := unqR_last _ r0 (Nat.le_refl _) t k hu
  have hlen : k = (t.flatMap qbyte).length + 1 := by
    have := congrArg List.length ht
    rw [List.length_take, List.length_append] at this
    simp only [List.length_cons, List.length_nil] at this
    omega
  have hword : wordTk ⟨3, t, 0, 0⟩ = quoteL t := by
    unfold wordTk
    rw [if_neg (by simp), if_neg (by simp)]
  have hq : quoteL t = 34 :: (t.flatMap qbyte ++ [34]) := rfl
  refine ⟨by omega, by simp only [List.length_cons]; omega, by rw [hword, hq, List.take_succ_cons, ht], by rw [hword, hq, hlen]; simp, rfl, fun r hr => ?_⟩
  rw [hword, hq]
  have hd : (34 :: (t.flatMap qbyte ++ [34]) ++ r).getD 0 0 = 34 := rfl
  unfold tokO
  rw [hd, if_neg (by decide), if_neg (by decide), if_pos rfl]
  have he : (34 :: (t.flatMap qbyte ++ [34]) ++ r).drop 1 = t.flatMap qbyte ++ 34 :: r := by simp
  rw [he, unqR_quote]
  simp only
  rw [if_neg h32, hlen]
theorem tok_sign {c : UInt8} {r0 : List UInt8} (h1 : isLet c = false) (h2 : isDig c = false) (h3 : c ≠ 34) (hn : signLen (c :: r0) ≠ 0) : TokAt (c :: r0) ⟨4, (c :: r0).take (signLen (c :: r0)), 0, 0⟩ (signLen (c :: r0)) := by
  have hword : wordTk ⟨4, (c :: r0).take (signLen (c :: r0)), 0, 0⟩ = (c :: r0).take (signLen (c :: r0)) := by unfold wordTk; rw [if_pos (.inr rfl)]
  have key : (signLen (c :: r0) = 2 ∧ 2 ≤ (c :: r0).length ∧ ((c :: r0).take 2 = [43, 43] ∨ (c :: r0).take 2 = [60, 61])) ∨ (signLen (c :: r0) = 1 ∧ signL.contains c = true) := by
    by_cases hs : (c :: r0).take 2 = [43, 43] ∨ (c :: r0).take 2 = [60, 61]
    · refine .inl ⟨by unfold signLen; rw [if_pos hs], ?_, hs⟩
      rcases hs with hs | hs <;> (have := congrArg List.length hs; rw [List.length_take] at this; simp only [List.length_cons, List.length_nil] at this ⊢; omega)
    · by_cases hs2 : (c :: r0) ≠ [] ∧ signL.contains ((c :: r0).getD 0 0) = true
      · exact .inr ⟨by unfold signLen; rw [if_neg hs, if_pos hs2], hs2.2⟩
      · exact absurd (by unfold signLen; rw [if_neg hs, if_neg hs2]) hn
  have tok : ∀ (r : List UInt8) (m : Nat), 1 ≤ m → signLen ((c :: r0).take m ++ r) = m → (c :: r0).take m ++ r ≠ [] → ((c :: r0).take m).length = m → tokO ((c :: r0).take m ++ r) = (⟨4, (c :: r0).take m, 0, 0⟩, m, 0) := by
    intro r m hm hsl hne hlm
    obtain ⟨m, rfl⟩ : ∃ j, m = j + 1 := ⟨m - 1, by omega⟩
    have hd : ((c :: r0).take (m + 1) ++ r).getD 0 0 = c := by rw [List.take_succ_cons]; rfl
    unfold tokO
    rw [hd, if_neg (by rw [h1]; simp), if_neg (by rw [h2]; simp), if_neg h3, hsl, if_neg (by omega)]
    rw [List.take_append_of_le_length (by omega), List.take_of_length_le (by omega)]
  rcases key with ⟨k1, k2, k3⟩ | ⟨k1, k2⟩
  · have hl2 : ((c :: r0).take 2).length = 2 := by rw [List.length_take]; omega
    rw [k1] at hword ⊢
    refine ⟨by omega, k2, hword.symm, by rw [hword, hl2], rfl, fun r hr => ?_⟩
    rw [hword]
    refine tok r 2 (by omega) ?_ (by intro e; have := congrArg List.length e; rw [List.length_append, hl2] at this; simp at this) hl2
    unfold signLen
    rw [if_pos (by rw [List.take_append_of_le_length (by omega), List.take_of_length_le (by omega)]; exact k3)]
  · have hl1 : (c :: r0).take 1 = [c] := rfl
    rw [k1] at hword ⊢
    refine ⟨by omega, by simp, hword.symm, by rw [hword, hl1]; rfl, rfl, fun r hr => ?_⟩
    rw [hword]
    refine tok r 1 (by omega) ?_ (by rw [hl1]; simp) (by rw [hl1]; rfl)
    rw [hl1]
    unfold signLen
    rw [if_neg, if_pos ⟨by simp, k2⟩]
    rcases hr with rfl | hr
    · simp
    · cases r with
      | nil => simp
      | cons x r =>
        simp at hr
        subst hr
        simp
theorem tok_at (s : List UInt8) (hs : s ≠ []) (t : Tk) (n : Nat) (h : tokO s = (t, n, 0)) : TokAt s t n := by
  cases s with
  | nil => exact absurd rfl hs
  | cons c r0 =>
    unfold tokO at h
    have hd : (c :: r0).getD 0 0 = c := rfl
    rw [hd] at h
    split at h
    · rename_i hc
      split at h
      · simp at h
      · rename_i h16
        simp only [Prod.mk.injEq] at h
        obtain ⟨rfl, rfl, _⟩ := h
        exact tok_name hc h16
    · rename_i hc
      have hl : isLet c = false := by simpa using hc
      split at h
      · rename_i hdg
        split at h
        · rename_i h0
          simp only [Prod.mk.injEq] at h
          exact absurd h.2.2 h0
        · rename_i h0
          simp only [Prod.mk.injEq] at h
          obtain ⟨rfl, rfl, _⟩ := h
          exact tok_number hl hdg (by simpa using h0)
      · rename_i hdg
        have hdg' : isDig c = false := by simpa using hdg
        split at h
        · rename_i h34
          subst h34
          rw [List.drop_succ_cons, List.drop_zero] at h
          cases hu : unqR r0 with
          | none => rw [hu] at h; simp at h
          | some x =>
            obtain ⟨t', k⟩ := x
            rw [hu] at h
            simp only at h
            split at h
            · simp at h
            · rename_i h32
              simp only [Prod.mk.injEq] at h
              obtain ⟨rfl, rfl, _⟩ := h
              exact tok_text hu h32
        · rename_i h34
          split at h
          · simp at h
          · rename_i hn
            simp only [Prod.mk.injEq] at h
            obtain ⟨rfl, rfl, _⟩ := h
            exact tok_sign hl hdg' h34 hn
def wsB (c : UInt8) : Prop := c = 10 ∨ c = 32 ∨ c = 9 ∨ c = 13 ∨ c = 35
def Tk.at0 (t : Tk) : Tk := { t with pos := 0 }
structure Canon (t : Tk) : Prop where
  pos : 1 ≤ (wordTk t).length
  back : ∀ r, gap r → tokO (wordTk t ++ r) = (t.at0, (wordTk t).length, 0)
theorem TokAt.canon {s : List UInt8} {t : Tk} {n : Nat} (h : TokAt s t n) (p : Int) : Canon { t with pos := p } := by
  have hz : (Tk.at0 { t with pos := p }) = t := by
    have := h.zero
    cases t
    simp only [Tk.at0] at this ⊢
    rw [this]
  have hw : wordTk { t with pos := p } = wordTk t := rfl
  refine ⟨by rw [hw, h.len]; exact h.pos, fun r hr => ?_⟩
  rw [hw, hz, h.len]
  exact h.back r hr
theorem skipN_word {c : UInt8} (hc : ¬ wsB c) (r : List UInt8) : skipN false (c :: r) = 0 := by
  unfold wsB at hc
  rw [skipN, if_neg (fun e => hc (.inl e)), if_neg (fun e => hc (by rcases e with e | e | e <;> simp [e])), if_neg (fun e => hc (by simp [e]))]
  rfl
def spJoin : List (List UInt8) → List UInt8
  | [] => []
  | [a] => a
  | a :: b :: l => a ++ 32 :: spJoin (b :: l)
def sameTk (l m : List Tk) : Prop := l.map Tk.at0 = m.map Tk.at0
def nmAt (s : List UInt8) (k : Nat) : Bool := match s[k]? with
  | some c => isLet c || (decide (0 < k) && (isDig c || c == 95))
  | none => false
theorem nmAt_some {s : List UInt8} {k : Nat} {c : UInt8} (h : s[k]? = some c) : nmAt s k = (isLet c || (decide (0 < k) && (isDig c || c == 95))) := by unfold nmAt; rw [h]
theorem nmAt_none {s : List UInt8} {k : Nat} (h : s.length ≤ k) : nmAt s k = false := by unfold nmAt; rw [List.getElem?_eq_none h]
theorem takeWhile_len {p : UInt8 → Bool} : ∀ (r : List UInt8) (m : Nat), (∀ j, j < m → ∃ c, r[j]? = some c ∧ p c = true) → (∀ c, r[m]? = some c → p c = false) → (r.takeWhile p).length = m := by
  intro r
  induction r with
  | nil =>
    intro m h1 _
    cases m with
    | zero => rfl
    | succ m => obtain ⟨c, h, _⟩ := h1 0 (by omega); simp at h
  | cons c r ih =>
    intro m h1 h2
    cases m with
    | zero => have := h2 c rfl; simp [this]
    | succ m =>
      obtain ⟨c', e, hp⟩ := h1 0 (by omega)
      simp at e
      subst e
      simp only [List.takeWhile_cons, hp, if_true, List.length_cons]
      rw [ih m (fun j hj => by have := h1 (j + 1) (by omega); simpa using this) (fun c h => h2 c (by simpa using h))]
theorem nameLen_at (s : List UInt8) (k : Nat) (h1 : ∀ j, j < k → nmAt s j = true) (h2 : nmAt s k = false) : nameLen s = k := by
  cases s with
  | nil =>
    cases k with
    | zero => rfl
    | succ k => have := h1 0 (by omega); simp [nmAt] at this
  | cons c r =>
    cases k with
    | zero =>
      have : isLet c = false := by simpa [nmAt] using h2
      rw [nameLen, if_neg (by simp [this])]
    | succ k =>
      have h0 : isLet c = true := by simpa [nmAt] using h1 0 (by omega)
      have hk : (r.takeWhile inNm).length = k := by
        refine takeWhile_len r k ?_ ?_
        · intro j hj
          have := h1 (j + 1) (by omega)
          unfold nmAt at this
          rw [List.getElem?_cons_succ] at this
          cases hr : r[j]? with
          | none => rw [hr] at this; cases this
          | some d => rw [hr] at this; exact ⟨d, rfl, by simpa [inNm] using this⟩
        · intro d hd
          unfold nmAt at h2
          rw [List.getElem?_cons_succ, hd] at h2
          simpa [inNm] using h2
      rw [nameLen, if_pos h0, hk]
      omega
theorem nameLen_le (s : List UInt8) : nameLen s ≤ s.length := by
  cases s with
  | nil => exact Nat.le_refl _
  | cons c r =>
    have h := (List.takeWhile_prefix inNm (l := r)).length_le
    rw [nameLen]
    split <;> simp <;> omega
def nmTo (s : List UInt8) (k : Nat) : Prop := ∀ j, j < k → nmAt s j = true
theorem nmTo.zero (s : List UInt8) : nmTo s 0 := fun j h => absurd h (by omega)
theorem nmTo.succ {s : List UInt8} {k : Nat} (h : nmTo s k) (hk : nmAt s k = true) : nmTo s (k + 1) := fun j hj => by
  rcases Nat.lt_succ_iff_lt_or_eq.1 hj with h1 | h1
  · exact h j h1
  · subst h1; exact hk
def allTo (p : UInt8 → Bool) (s : List UInt8) (k : Nat) : Prop := ∀ j, j < k → ∃ c, s[j]? = some c ∧ p c = true
theorem allTo.zero (p : UInt8 → Bool) (s : List UInt8) : allTo p s 0 := fun j h => absurd h (by omega)
theorem allTo.succ {p : UInt8 → Bool} {s : List UInt8} {k : Nat} {c : UInt8} (h : allTo p s k) (hc : s[k]? = some c) (hp : p c = true) : allTo p s (k + 1) := fun j hj => by
  rcases Nat.lt_succ_iff_lt_or_eq.1 hj with h1 | h1
  · exact h j h1
  · subst h1; exact ⟨c, hc, hp⟩
theorem allTo.stop {p : UInt8 → Bool} {s : List UInt8} {k : Nat} {c : UInt8} (h : allTo p s k) (hc : s[k]? = some c) (hp : p c = false) : (s.takeWhile p).length = k :=
  takeWhile_len s k h (fun d hd => by rw [hc] at hd; injection hd with hd; rw [← hd]; exact hp)
theorem allTo.end_ {p : UInt8 → Bool} {s : List UInt8} (h : allTo p s s.length) : (s.takeWhile p).length = s.length :=
  takeWhile_len s s.length h (fun d hd => by rw [List.getElem?_eq_none (Nat.le_refl _)] at hd; cases hd)
theorem nameLen_let {c : UInt8} {r : List UInt8} (hc : isLet c = true) : nameLen (c :: r) = ((c :: r).takeWhile inNm).length := by
  have hi : inNm c = true := by unfold inNm; rw [hc]; rfl
  rw [nameLen, if_pos hc, List.takeWhile_cons, hi, if_pos rfl, List.length_cons, Nat.add_comm]
theorem sign_contains (c : UInt8) : (decide (0 ≤ Lib.indexByte signL c)) = signL.contains c := by
  have h : ∀ k : Fin 256, (decide (0 ≤ Lib.indexByte signL (UInt8.ofNat k.val))) = signL.contains (UInt8.ofNat k.val) := by decide +kernel
  have := h ⟨c.toNat, c.toNat_lt⟩
  simpa using this
theorem prefix2 (l : List UInt8) (a b : UInt8) : Lib.hasPrefix l [a, b] = decide (l.take 2 = [a, b]) := by
  unfold Lib.hasPrefix
  match l with
  | [] => simp
  | [c] => simp [List.isPrefixOf]
  | c :: d :: r =>
    simp only [List.isPrefixOf, List.take_succ_cons, List.take_zero, Bool.and_true]
    rw [Bool.eq_iff_iff]
    simp
    exact ⟨fun h => ⟨h.1.symm, h.2.symm⟩, fun h => ⟨h.1.symm, h.2.symm⟩⟩
def signW : List (List UInt8) := [[40], [41], [44], [46], [59], [43], [45], [42], [47], [61], [60], [43, 43], [60, 61]]
def isSignB (l : List UInt8) : Bool := signW.contains l
theorem isSign1 (c : UInt8) : isSignB [c] = signL.contains c := by
  have h : ∀ k : Fin 256, isSignB [UInt8.ofNat k.val] = signL.contains (UInt8.ofNat k.val) := by decide +kernel
  have := h ⟨c.toNat, c.toNat_lt⟩
  simpa using this
theorem isSign2 (a b : UInt8) : isSignB [a, b] = decide ([a, b] = [43, 43] ∨ [a, b] = [60, 61]) := by
  unfold isSignB signW
  rw [Bool.eq_iff_iff]
  simp
theorem isSign_len {l : List UInt8} (h : isSignB l = true) : l.length = 1 ∨ l.length = 2 := by
  unfold isSignB signW at h
  simp at h
  rcases h with rfl | rfl | rfl | rfl | rfl | rfl | rfl | rfl | rfl | rfl | rfl | rfl | rfl <;> simp
theorem signLen_ref (s : List UInt8) : signLen s = if 2 ≤ s.length ∧ isSignB (s.take 2) = true then 2 else if 1 ≤ s.length ∧ isSignB (s.take 1) = true then 1 else 0 := by
  match s with
  | [] => rfl
  | [c] =>
    have h1 : ¬ ([c].take 2 = [43, 43] ∨ [c].take 2 = [60, 61]) := by simp
    unfold signLen
    have h2 : ([c] : List UInt8).take 1 = [c] := rfl
    have h0 : ([c] : List UInt8).getD 0 0 = c := rfl
    rw [if_neg h1, h2, h0, isSign1]
    simp
  | a :: b :: r =>
    have h2 : (a :: b :: r).take 2 = [a, b] := rfl
    have h1 : (a :: b :: r).take 1 = [a] := rfl
    have h0 : (a :: b :: r).getD 0 0 = a := rfl
    unfold signLen
    rw [h2, h1, h0, isSign2, isSign1]
    simp
theorem signLen_le (s : List UInt8) : signLen s ≤ s.length := by
  rw [signLen_ref]
  split
  · omega
  · split <;> omega
theorem isSign_prog (l : List UInt8) : isSignB l = (decide (l ≠ []) && decide (signLen l = l.length)) := by
  match l with
  | [] => rfl
  | [c] =>
    rw [isSign1, signLen_ref]
    have h2 : ([c] : List UInt8).take 1 = [c] := rfl
    rw [h2, isSign1]
    cases signL.contains c <;> simp
  | [a, b] =>
    rw [isSign2, signLen_ref]
    have h2 : ([a, b] : List UInt8).take 2 = [a, b] := rfl
    have h1 : ([a, b] : List UInt8).take 1 = [a] := rfl
    rw [h2, h1, isSign2, isSign1]
    by_cases h : [a, b] = [43, 43] ∨ [a, b] = [60, 61]
    · rcases h with h | h <;> (simp only [List.cons.injEq, and_true] at h; obtain ⟨rfl, rfl⟩ := h; decide)
    · cases signL.contains a <;> simp
  | a :: b :: c :: r =>
    have h1 : isSignB (a :: b :: c :: r) = false := by
      rw [Bool.eq_false_iff]
      intro h
      have := isSign_len h
      simp at this
    rw [h1, signLen_ref]
    symm
    rw [Bool.and_eq_false_iff]
    right
    rw [decide_eq_false_iff_not]
    split
    · simp
    · split <;> simp
def scanG (cm : Bool) : Nat → List UInt8 → Nat → List Tk → List Tk × Nat × Int
  | 0, _, _, _ => ([], 0, 0)
  | f + 1, s, pos, acc =>
    let k := skipN cm s
    let r := s.drop k
    if r = [] then (acc, 0, 0)
    else
      let x := tokO r
      if x.2.2 ≠ 0 then ([], pos + k, x.2.2)
      else if acc.length = 4096 then ([], pos + k, 8)
      else scanL f (r.drop x.2.1) (pos + k + x.2.1) (acc ++ [{ x.1 with pos := ((pos + k : Nat) : Int) }])
theorem scanG_false : ∀ (f : Nat) (s : List UInt8) (pos : Nat) (acc : List Tk), scanG false f s pos acc = scanL f s pos acc := by
  intro f
  cases f <;> intros <;> rfl
theorem scanG_skip {cm cm' : Bool} {c : UInt8} {r : List UInt8} (h : skipN cm (c :: r) = 1 + skipN cm' r) (f pos : Nat) (acc : List Tk) : scanG cm (f + 1) (c :: r) pos acc = scanG cm' (f + 1) r (pos + 1) acc := by
  have e1 : (c :: r).drop (1 + skipN cm' r) = r.drop (skipN cm' r) := by rw [Nat.add_comm, List.drop_succ_cons]
  have e2 : pos + (1 + skipN cm' r) = pos + 1 + skipN cm' r := by omega
  unfold scanG
  simp only
  rw [h, e1, e2]
theorem scan_ws {c : UInt8} {r : List UInt8} (h : c = 32 ∨ c = 9 ∨ c = 13 ∨ c = 10) (f pos : Nat) (acc : List Tk) : scanL (f + 1) (c :: r) pos acc = scanL (f + 1) r (pos + 1) acc := by
  rw [← scanG_false, ← scanG_false]
  refine scanG_skip ?_ f pos acc
  rw [skipN]
  by_cases h10 : c = 10
  · rw [if_pos h10]
  · rw [if_neg h10, if_pos (by rcases h with h | h | h | h <;> simp [h] at *)]
theorem scan_hash {r : List UInt8} (f pos : Nat) (acc : List Tk) : scanL (f + 1) (35 :: r) pos acc = scanG true (f + 1) (35 :: r) pos acc := by
  rw [← scanG_false, scanG_skip (cm' := true) (by rw [skipN, if_neg (by decide), if_neg (by decide), if_pos rfl]), scanG_skip (cm' := true) (by rw [skipN, if_neg (by decide), if_neg (by decide), if_pos rfl])]
theorem scan_in {c : UInt8} {r : List UInt8} (h : c ≠ 10) (f pos : Nat) (acc : List Tk) : scanG true (f + 1) (c :: r) pos acc = scanG true (f + 1) r (pos + 1) acc := by
  refine scanG_skip ?_ f pos acc
  rw [skipN, if_neg h]
  split
  · rfl
  · split
    · rfl
    · rw [if_pos rfl]
theorem scan_nl {r : List UInt8} (f pos : Nat) (acc : List Tk) : scanG true (f + 1) (10 :: r) pos acc = scanL (f + 1) (10 :: r) pos acc := by
  rw [← scanG_false, scanG_skip (cm' := false) (by rw [skipN, if_pos rfl]), scanG_skip (cm' := false) (by rw [skipN, if_pos rfl])]
theorem scan_nil (cm : Bool) (f pos : Nat) (acc : List Tk) : scanG cm (f + 1) [] pos acc = (acc, 0, 0) := by
  unfold scanG
  simp [skipN]
theorem skipN_zero {c : UInt8} {r : List UInt8} (h : ¬ wsB c) : skipN false (c :: r) = 0 := skipN_word h r
theorem scan_tok {c : UInt8} {r : List UInt8} (h : ¬ wsB c) (f pos : Nat) (acc : List Tk) : scanL (f + 1) (c :: r) pos acc = if (tokO (c :: r)).2.2 ≠ 0 then ([], pos, (tokO (c :: r)).2.2) else if acc.length = 4096 then ([], pos, 8) else scanL f ((c :: r).drop (tokO (c :: r)).2.1) (pos + (tokO (c :: r)).2.1) (acc ++ [{ (tokO (c :: r)).1 with pos := (pos : Int) }]) := by
  rw [scanL]
  simp only
  rw [skipN_zero h, List.drop_zero, if_neg (by simp)]
  rfl
def ScanTo (s : List UInt8) (p : Nat) (acc : List Tk) (X : List Tk × Nat × Int) : Prop := ∃ f, (s.drop p).length ≤ f ∧ scanL (f + 1) (s.drop p) p acc = X
def ScanIn (s : List UInt8) (p : Nat) (acc : List Tk) (X : List Tk × Nat × Int) : Prop := ∃ f, (s.drop p).length ≤ f ∧ scanG true (f + 1) (s.drop p) p acc = X
theorem ScanTo.start {s : List UInt8} (h : s.length ≤ 32768) : ScanTo s 0 [] (scanO s) := ⟨s.length, Nat.le_refl _, by unfold scanO; rw [if_neg (by omega)]; rfl⟩
theorem scanO_full {s : List UInt8} (h : 32768 < s.length) : scanO s = ([], 0, 8) := by unfold scanO; rw [if_pos h]
section
variable {s : List UInt8} {p : Nat} {acc : List Tk} {X : List Tk × Nat × Int} {c : UInt8}
theorem drop_len (h : s[p]? = some c) : (s.drop p).length = (s.drop (p + 1)).length + 1 := by
  have := (List.getElem?_eq_some_iff.1 h).1
  simp only [List.length_drop]
  omega
theorem ScanTo.ws (h : ScanTo s p acc X) (hc : s[p]? = some c) (hw : c = 32 ∨ c = 9 ∨ c = 13 ∨ c = 10) : ScanTo s (p + 1) acc X := by
  obtain ⟨f, hf, e⟩ := h
  have := drop_len hc
  rw [drop_at hc, scan_ws hw] at e
  exact ⟨f, by omega, e⟩
theorem ScanTo.hash (h : ScanTo s p acc X) (hc : s[p]? = some 35) : ScanIn s p acc X := by
  obtain ⟨f, hf, e⟩ := h
  rw [drop_at hc, scan_hash] at e
  exact ⟨f, hf, by rw [drop_at hc]; exact e⟩
theorem ScanIn.next (h : ScanIn s p acc X) (hc : s[p]? = some c) (hn : c ≠ 10) : ScanIn s (p + 1) acc X := by
  obtain ⟨f, hf, e⟩ := h
  have := drop_len hc
  rw [drop_at hc, scan_in hn] at e
  exact ⟨f, by omega, e⟩
theorem ScanIn.nl (h : ScanIn s p acc X) (hc : s[p]? = some 10) : ScanTo s p acc X := by
  obtain ⟨f, hf, e⟩ := h
  rw [drop_at hc, scan_nl] at e
  exact ⟨f, hf, by rw [drop_at hc]; exact e⟩
theorem ScanIn.over (h : ScanIn s p acc X) (hp : s.length ≤ p) : ScanTo s p acc X := by
  obtain ⟨f, hf, e⟩ := h
  rw [List.drop_of_length_le hp, scan_nil] at e
  exact ⟨f, hf, by rw [List.drop_of_length_le hp, ← scanG_false, scan_nil]; exact e⟩
theorem ScanTo.done (h : ScanTo s p acc X) (hp : s.length ≤ p) : X = (acc, 0, 0) := by
  obtain ⟨f, hf, e⟩ := h
  rw [List.drop_of_length_le hp, ← scanG_false, scan_nil] at e
  exact e.symm
theorem scan_jump (f p : Nat) (r : List UInt8) (acc : List Tk) : scanL (f + 1) r p acc = scanL (f + 1) (r.drop (skipN false r)) (p + skipN false r) acc := by
  by_cases hr : r.drop (skipN false r) = []
  · rw [hr, ← scanG_false f.succ [], scan_nil]
    rw [scanL]
    simp only
    rw [if_pos hr]
  · obtain ⟨d, r', hd⟩ : ∃ d r', r.drop (skipN false r) = d :: r' := by
      cases h : r.drop (skipN false r) with
      | nil => exact absurd h hr
      | cons d r' => exact ⟨d, r', rfl⟩
    have he := skipN_end r false d r' hd
    have hnw : ¬ wsB d := by
      intro h
      unfold wsB at h
      rcases h with h | h | h | h | h <;> simp [h] at he
    rw [hd, scan_tok hnw, ← hd]
    rw [scanL]
    simp only
    rw [if_neg hr]
theorem ScanTo.jump (h : ScanTo s p acc X) : ScanTo s (p + skipN false (s.drop p)) acc X := by
  obtain ⟨f, hf, e⟩ := h
  rw [scan_jump, List.drop_drop] at e
  refine ⟨f, ?_, e⟩
  simp only [List.length_drop] at hf ⊢
  omega
theorem ScanTo.tok (h : ScanTo s p acc X) (hc : s[p]? = some c) (hw : ¬ wsB c) {t : Tk} {n : Nat} {e : Int} (ht : tokO (s.drop p) = (t, n, e)) :
    (e ≠ 0 → X = ([], p, e)) ∧ (e = 0 → acc.length = 4096 → X = ([], p, 8)) ∧ (e = 0 → acc.length ≠ 4096 → ScanTo s (p + n) (acc ++ [{ t with pos := (p : Int) }]) X ∧ 1 ≤ n ∧ p + n ≤ s.length) := by
  obtain ⟨f, hf, hx⟩ := h
  have hlt := (List.getElem?_eq_some_iff.1 hc).1
  rw [drop_at hc, scan_tok hw, ← drop_at hc, ht] at hx
  simp only at hx
  refine ⟨fun h0 => ?_, fun h0 h1 => ?_, fun h0 h1 => ?_⟩
  · rw [if_pos h0] at hx; exact hx.symm
  · rw [if_neg (by simpa using h0), if_pos h1] at hx; exact hx.symm
  · rw [if_neg (by simpa using h0), if_neg h1, List.drop_drop] at hx
    subst h0
    have ht' := tok_at (s.drop p) (by rw [drop_at hc]; simp) t n ht
    have h2 := ht'.pos
    have h3 := ht'.le
    simp only [List.length_drop] at h3 hf
    refine ⟨?_, h2, by omega⟩
    obtain ⟨g, rfl⟩ : ∃ g, f = g + 1 := ⟨f - 1, by omega⟩
    exact ⟨g, by simp only [List.length_drop]; omega, hx⟩
end
end Go.Proofs.YtpnfbehbheddeaaGreatDoor
