/- Which tokens have words, and what joining gives, in plain Lean. No program in sight, no condition. Where the tokens of a scan stand, and that they have words; scanning what was joined. In plain Lean, no condition. Small lemmas: a row of bytes turned to a string, what is left of a string, bytes that differ. No condition. Contracts of names: isLetter, isDigit, nameLength and IsName of the program; letter, decimal, inName and IsName of the reference. Strings of at most 2^40 bytes. -/
import Derived.Test.YtpnfbehbheddeaaGreatDoorBn11
import Derived.Lib.Join
import Derived.Lib.ItoaLen
import Derived.Test.YtpnfbehbheddeaaGreatDoorBn00
import Derived.Test.YtpnfbehbheddeaaGreatDoorBn01
namespace Go.Proofs.YtpnfbehbheddeaaGreatDoor
set_option maxRecDepth 100000
set_option maxHeartbeats 8000000
set_option linter.unusedVariables false
set_option linter.unusedSimpArgs false
def tokOk (t : Tk) : Bool := if t.kind = 1 then isNameB t.text else if t.kind = 2 then decide (0 ≤ t.int) && decide (t.int ≤ 4294967296) else if t.kind = 3 then decide (t.text.length ≤ 32) else if t.kind = 4 then isSignB t.text else false
def tokText (t : Tk) : List UInt8 := if tokOk t then wordTk t else []
theorem itoa_ne (n : Int) (h : 0 ≤ n) : 1 ≤ (Lib.itoa n).length := by
  obtain ⟨u, rfl⟩ := Int.eq_ofNat_of_zero_le h
  rw [Lib.itoa_nonneg]
  rw [Lib.decDigits]
  split <;> simp
theorem word_ne {t : Tk} (h : tokOk t = true) : 1 ≤ (wordTk t).length := by
  unfold tokOk at h
  unfold wordTk
  by_cases h1 : t.kind = 1
  · rw [if_pos h1] at h
    rw [if_pos (.inl h1)]
    unfold isNameB at h
    simp at h
    exact List.length_pos_iff.2 h.1
  rw [if_neg h1] at h
  by_cases h2 : t.kind = 2
  · rw [if_pos h2] at h
    rw [if_neg (by omega), if_pos h2]
    simp at h
    exact itoa_ne _ h.1
  rw [if_neg h2] at h
  by_cases h3 : t.kind = 3
  · rw [if_neg (by omega), if_neg h2]
    unfold quoteL
    simp
  rw [if_neg h3] at h
  by_cases h4 : t.kind = 4
  · rw [if_pos h4] at h
    rw [if_pos (.inr h4)]
    have := isSign_len h
    omega
  · rw [if_neg h4] at h; cases h
theorem word_le {t : Tk} (h : tokOk t = true) : (wordTk t).length ≤ 100 := by
  unfold tokOk at h
  unfold wordTk
  by_cases h1 : t.kind = 1
  · rw [if_pos h1] at h
    rw [if_pos (.inl h1)]
    unfold isNameB at h
    simp at h
    omega
  rw [if_neg h1] at h
  by_cases h2 : t.kind = 2
  · rw [if_pos h2] at h
    rw [if_neg (by omega), if_pos h2]
    simp at h
    have := Lib.itoa_length_le t.int (by omega) (by omega)
    omega
  rw [if_neg h2] at h
  by_cases h3 : t.kind = 3
  · rw [if_pos h3] at h
    rw [if_neg (by omega), if_neg h2]
    simp at h
    have := flat_len t.text
    unfold quoteL
    simp only [List.length_append, List.length_cons, List.length_nil]
    omega
  rw [if_neg h3] at h
  by_cases h4 : t.kind = 4
  · rw [if_pos h4] at h
    rw [if_pos (.inr h4)]
    have := isSign_len h
    omega
  · rw [if_neg h4] at h; cases h
def wordsK (ts : List Tk) : List (List UInt8) := (ts.filter tokOk).map wordTk
def joinK (ts : List Tk) : List UInt8 := spJoin (wordsK ts)
theorem wordsK_snoc_ok {ts : List Tk} {t : Tk} (h : tokOk t = true) : wordsK (ts ++ [t]) = wordsK ts ++ [wordTk t] := by unfold wordsK; simp [List.filter_append, h]
theorem wordsK_snoc_no {ts : List Tk} {t : Tk} (h : tokOk t = false) : wordsK (ts ++ [t]) = wordsK ts := by unfold wordsK; simp [List.filter_append, h]
theorem wordsK_mem {ts : List Tk} {w : List UInt8} (h : w ∈ wordsK ts) : 1 ≤ w.length ∧ w.length ≤ 100 := by
  obtain ⟨t, ht, rfl⟩ := List.mem_map.1 h
  have := (List.mem_filter.1 ht).2
  exact ⟨word_ne this, word_le this⟩
theorem wordsK_len (ts : List Tk) : (wordsK ts).length ≤ ts.length := by
  unfold wordsK
  rw [List.length_map]
  exact List.length_filter_le _ _
theorem spJoin_snoc : ∀ (l : List (List UInt8)) (a : List UInt8), l ≠ [] → spJoin (l ++ [a]) = spJoin l ++ [32] ++ a := by
  intro l
  induction l with
  | nil => intro a h; exact absurd rfl h
  | cons x l ih =>
    intro a _
    cases l with
    | nil => simp [spJoin]
    | cons y l =>
      have := ih a (by simp)
      simp only [List.cons_append] at this ⊢
      rw [spJoin, this, spJoin]
      simp
theorem spJoin_len : ∀ (l : List (List UInt8)), (∀ w ∈ l, w.length ≤ 100) → (spJoin l).length ≤ 101 * l.length := by
  intro l
  induction l with
  | nil => intro _; simp [spJoin]
  | cons x l ih =>
    intro h
    have h1 := h x (by simp)
    have h2 := ih (fun w hw => h w (by simp [hw]))
    cases l with
    | nil => simp [spJoin]; omega
    | cons y l =>
      rw [spJoin]
      simp only [List.length_append, List.length_cons] at h2 ⊢
      omega
theorem spJoin_ne {l : List (List UInt8)} (h : ∀ w ∈ l, 1 ≤ w.length) : spJoin l = [] ↔ l = [] := by
  cases l with
  | nil => simp [spJoin]
  | cons x l =>
    have h1 := h x (by simp)
    constructor
    · intro e
      exfalso
      have := congrArg List.length e
      cases l with
      | nil => simp [spJoin] at this; rw [this] at h1; simp at h1
      | cons y l => simp [spJoin] at this
    · intro e; cases e
theorem join_spJoin : ∀ l : List (List UInt8), Lib.join l [32] = spJoin l := by
  intro l
  induction l with
  | nil => rfl
  | cons a l ih =>
    cases l with
    | nil => rw [Lib.join_one]; rfl
    | cons b l =>
      rw [spJoin, ← ih, Lib.join_cons, Lib.join_cons, Lib.joinTail]
      simp [Lib.joinTail]
theorem joinK_len (ts : List Tk) : (joinK ts).length ≤ 101 * ts.length := by
  have h1 := spJoin_len (wordsK ts) (fun w hw => (wordsK_mem hw).2)
  have h2 := wordsK_len ts
  unfold joinK
  omega
theorem joinK_snoc {ts : List Tk} {t : Tk} (h : tokOk t = true) : joinK (ts ++ [t]) = (if joinK ts = [] then [] else joinK ts ++ [32]) ++ wordTk t := by
  unfold joinK
  rw [wordsK_snoc_ok h]
  have hn := spJoin_ne (l := wordsK ts) (fun w hw => (wordsK_mem hw).1)
  by_cases h0 : wordsK ts = []
  · rw [if_pos (hn.2 h0), h0]; rfl
  · rw [if_neg (fun e => h0 (hn.1 e)), spJoin_snoc _ _ h0]
theorem scanL_len : ∀ (f : Nat) (s : List UInt8) (pos : Nat) (acc : List Tk), acc.length ≤ 4096 → (scanL f s pos acc).1.length ≤ 4096 := by
  intro f
  induction f with
  | zero => intro s pos acc _; simp [scanL]
  | succ f ih =>
    intro s pos acc ha
    rw [scanL]
    simp only
    split
    · exact ha
    · split
      · simp
      · split
        · simp
        · rename_i h
          exact ih _ _ _ (by simp; omega)
theorem scanO_len (s : List UInt8) : (scanO s).1.length ≤ 4096 := by
  unfold scanO
  split
  · simp
  · exact scanL_len _ _ _ _ (by simp)
theorem takeWhile_at {p : UInt8 → Bool} : ∀ (r : List UInt8) (i : Nat), i < (r.takeWhile p).length → ∃ d, r[i]? = some d ∧ p d = true := by
  intro r
  induction r with
  | nil => intro i h; simp at h
  | cons c r ih =>
    intro i h
    rw [List.takeWhile_cons] at h
    cases hp : p c
    · rw [hp] at h; simp at h
    · rw [hp] at h
      cases i with
      | zero => exact ⟨c, rfl, hp⟩
      | succ i =>
        simp only [if_true, List.length_cons] at h
        obtain ⟨d, h1, h2⟩ := ih i (by omega)
        exact ⟨d, by simpa using h1, h2⟩
theorem nameLen_to (s : List UInt8) : nmTo s (nameLen s) := by
  intro j hj
  cases s with
  | nil => simp [nameLen] at hj
  | cons c r =>
    rw [nameLen] at hj
    split at hj
    · rename_i hc
      cases j with
      | zero => rw [nmAt_some (c := c) rfl, hc]; rfl
      | succ j =>
        obtain ⟨d, h1, h2⟩ := takeWhile_at (p := inNm) r j (by omega)
        rw [nmAt_some (c := d) (by simpa using h1)]
        unfold inNm at h2
        simpa using h2
    · omega
theorem nameLen_take (s : List UInt8) : nameLen (s.take (nameLen s)) = nameLen s := by
  have hle := nameLen_le s
  refine nameLen_at _ _ (fun j hj => ?_) (nmAt_none (by rw [List.length_take]; omega))
  have := nameLen_to s j hj
  unfold nmAt at this ⊢
  rw [List.getElem?_take, if_pos hj]
  exact this
theorem pInt_bounds {d : List UInt8} (ha : d.all isDig = true) (h : (pInt d).2 = 0) : 0 ≤ (pInt d).1.n ∧ (pInt d).1.n ≤ 4294967296 := by
  have h45 : d.head? ≠ some 45 := by
    intro e
    cases d with
    | nil => cases e
    | cons c r =>
      simp at e
      subst e
      simp [isDig] at ha
  have e1 : digs d = d := by unfold digs; rw [if_neg h45]
  have e2 : negB d = false := by unfold negB; simpa using h45
  unfold pInt at h ⊢
  rw [e1, e2] at h ⊢
  split at h
  · simp at h
  · rename_i h1
    split at h
    · simp at h
    · rename_i h2
      rw [if_neg h1, if_neg h2]
      simp
      omega
theorem tok_good {s : List UInt8} (hs : s ≠ []) {t : Tk} {n : Nat} (h : tokO s = (t, n, 0)) : tokOk t = true ∧ t.text.length ≤ 32 := by
  unfold tokO at h
  split at h
  · rename_i hc
    split at h
    · simp at h
    · rename_i h16
      simp only [Prod.mk.injEq] at h
      obtain ⟨rfl, _, _⟩ := h
      have hle := nameLen_le s
      have hl : (s.take (nameLen s)).length = nameLen s := by rw [List.length_take]; omega
      have hpos : 1 ≤ nameLen s := by
        cases s with
        | nil => exact absurd rfl hs
        | cons c r => rw [nameLen, if_pos (show isLet c = true from hc)]; omega
      refine ⟨?_, by simp only; omega⟩
      unfold tokOk
      rw [if_pos rfl]
      unfold isNameB
      simp only
      rw [nameLen_take, hl]
      have : s.take (nameLen s) ≠ [] := fun e => by rw [e] at hl; simp at hl; omega
      simp [hs]
      omega
  · split at h
    · split at h
      · rename_i h0
        simp only [Prod.mk.injEq] at h
        exact absurd h.2.2 h0
      · rename_i h0
        simp only [Prod.mk.injEq] at h
        obtain ⟨rfl, _, _⟩ := h
        have := pInt_bounds (all_takeWhile (p := isDig) s) (by simpa using h0)
        refine ⟨?_, by simp⟩
        unfold tokOk
        rw [if_neg (by simp), if_pos rfl]
        simpa using this
    · split at h
      · split at h
        · simp at h
        · split at h
          · simp at h
          · rename_i h32
            simp only [Prod.mk.injEq] at h
            obtain ⟨rfl, _, _⟩ := h
            refine ⟨?_, by simp only; omega⟩
            unfold tokOk
            rw [if_neg (by simp), if_neg (by simp), if_pos rfl]
            simp
            omega
      · split at h
        · simp at h
        · rename_i hn
          simp only [Prod.mk.injEq] at h
          obtain ⟨rfl, _, _⟩ := h
          have hk : isSignB (s.take (signLen s)) = true := by
            have e := signLen_ref s
            split at e
            · rename_i h2; rw [e]; exact h2.2
            · split at e
              · rename_i h1; rw [e]; exact h1.2
              · exact absurd e hn
          have := isSign_len hk
          refine ⟨?_, by simp only; omega⟩
          unfold tokOk
          rw [if_neg (by simp), if_neg (by simp), if_neg (by simp), if_pos rfl]
          exact hk
def Cov (s : List UInt8) : Nat → List Tk → Prop
  | p, [] => p ≤ s.length ∧ skipN false (s.drop p) = (s.drop p).length
  | p, t :: ts => ∃ q : Nat, t.pos = (q : Int) ∧ q = p + skipN false (s.drop p) ∧ tokOk t = true ∧ t.text.length ≤ 32 ∧ 1 ≤ (wordTk t).length ∧ q + (wordTk t).length ≤ s.length ∧ (s.drop q).take (wordTk t).length = wordTk t ∧ Cov s (q + (wordTk t).length) ts
theorem scan_cov : ∀ (f : Nat) (s : List UInt8) (p : Nat) (acc l : List Tk) (k : Nat), (s.drop p).length < f → p ≤ s.length → scanL f (s.drop p) p acc = (l, k, 0) → ∃ ts, l = acc ++ ts ∧ Cov s p ts := by
  intro f
  induction f with
  | zero => intro s p acc l k hf; omega
  | succ f ih =>
    intro s p acc l k hf hp h
    have hle := skipN_le (s.drop p) false
    rw [scanL] at h
    simp only at h
    split at h
    · rename_i hr
      simp at h
      refine ⟨[], by simp [h.1], hp, ?_⟩
      have := congrArg List.length hr
      rw [List.length_drop, List.length_nil] at this
      omega
    · rename_i hr
      split at h
      · rename_i h0; simp only [Prod.mk.injEq] at h; exact absurd h.2.2 h0
      · rename_i h0
        split at h
        · simp at h
        · obtain ⟨⟨t, n, e⟩, hx⟩ : ∃ x, tokO ((s.drop p).drop (skipN false (s.drop p))) = x := ⟨_, rfl⟩
          rw [hx] at h h0
          simp only [ne_eq, Decidable.not_not] at h h0
          subst h0
          have ht := tok_at _ hr t n hx
          have hg := tok_good hr hx
          have h1 := ht.pos
          have h2 := ht.le
          have h3 := ht.word
          have h4 := ht.len
          obtain ⟨q, hq⟩ : ∃ q, p + skipN false (s.drop p) = q := ⟨_, rfl⟩
          simp only [List.drop_drop, hq] at h h2 h3
          simp only [List.length_drop] at h2 hle hf
          obtain ⟨ts, e1, e2⟩ := ih s (q + n) _ l k (by rw [List.length_drop]; omega) (by omega) h
          refine ⟨{ t with pos := (q : Int) } :: ts, by rw [e1]; simp, q, rfl, hq.symm, hg.1, hg.2, ?_, ?_, ?_, ?_⟩
          · show 1 ≤ (wordTk t).length; omega
          · show q + (wordTk t).length ≤ s.length; omega
          · show (s.drop q).take (wordTk t).length = wordTk t
            rw [h4]; exact h3
          · show Cov s (q + (wordTk t).length) ts
            rw [h4]; exact e2
theorem scanO_cov {s : List UInt8} {l : List Tk} {k : Nat} (h : scanO s = (l, k, 0)) : Cov s 0 l ∧ s.length ≤ 32768 := by
  unfold scanO at h
  split at h
  · simp at h
  · obtain ⟨ts, e1, e2⟩ := scan_cov (s.length + 1) s 0 [] l k (by simp) (by omega) (by simpa using h)
    simp at e1
    subst e1
    exact ⟨e2, by omega⟩
theorem cov_all : ∀ (ts : List Tk) (s : List UInt8) (p : Nat), Cov s p ts → ∀ t ∈ ts, tokOk t = true ∧ t.text.length ≤ 32 := by
  intro ts
  induction ts with
  | nil => intro s p _ t ht; cases ht
  | cons u ts ih =>
    intro s p h t ht
    obtain ⟨q, _, _, h1, h2, _, _, _, h3⟩ := h
    rcases List.mem_cons.1 ht with rfl | ht
    · exact ⟨h1, h2⟩
    · exact ih s _ h3 t ht
theorem sameTk_len {l m : List Tk} (h : sameTk l m) : l.length = m.length := by
  have := congrArg List.length h
  simpa using this
open Go.RowKit
theorem drop_size (s : ByteArray) (n : Nat) : (s.extract n s.size).data.toList = s.data.toList.drop n := by
  rw [Lib.extract_data, List.take_of_length_le]
  rw [List.length_drop, ← Lib.size_eq]
  omega
theorem xletter (c : UInt8) (w : World) : Calls Tryz.prog 79 #[.int .u8 c.toNat] w fun e w' => e = .returned (.bool (isLet c)) ∧ w = w' := by
  by_cases h1 : (97 : Int) ≤ (c.toNat : Int)
  · by_cases h2 : (c.toNat : Int) ≤ 122
    · have HR := Lib.hid (show isLet c = true by simp [isLet]; omega)
      go_enter Tryz.func79, Tryz.ntmps79
      go_wp2_with fail
      go_ret
      exact ⟨ret_bool HR.out.symm, rfl⟩
    · have HR := Lib.hid (show isLet c = false by simp [isLet]; omega)
      go_enter Tryz.func79, Tryz.ntmps79
      go_wp2_with fail
      go_ret
      exact ⟨ret_bool HR.out.symm, rfl⟩
  · have HR := Lib.hid (show isLet c = false by simp [isLet]; omega)
    go_enter Tryz.func79, Tryz.ntmps79
    go_wp2_with fail
    go_ret
    exact ⟨ret_bool HR.out.symm, rfl⟩
theorem xdigit (c : UInt8) (w : World) : Calls Tryz.prog 81 #[.int .u8 c.toNat] w fun e w' => e = .returned (.bool (isDig c)) ∧ w = w' := by
  by_cases h1 : (48 : Int) ≤ (c.toNat : Int)
  · by_cases h2 : (c.toNat : Int) ≤ 57
    · have HR := Lib.hid (show isDig c = true by simp [isDig]; omega)
      go_enter Tryz.func81, Tryz.ntmps81
      go_wp2_with fail
      go_ret
      exact ⟨ret_bool HR.out.symm, rfl⟩
    · have HR := Lib.hid (show isDig c = false by simp [isDig]; omega)
      go_enter Tryz.func81, Tryz.ntmps81
      go_wp2_with fail
      go_ret
      exact ⟨ret_bool HR.out.symm, rfl⟩
  · have HR := Lib.hid (show isDig c = false by simp [isDig]; omega)
    go_enter Tryz.func81, Tryz.ntmps81
    go_wp2_with fail
    go_ret
    exact ⟨ret_bool HR.out.symm, rfl⟩
theorem rletter (c : UInt8) (w : World) : Calls Tryz.prog 121 #[.int .u8 c.toNat] w fun e w' => e = .returned (.bool (isLet c)) ∧ w = w' := by
  by_cases h1 : (97 : Int) ≤ (c.toNat : Int)
  · by_cases h2 : (c.toNat : Int) ≤ 122
    · have HR := Lib.hid (show isLet c = true by simp [isLet]; omega)
      go_enter Tryz.func121, Tryz.ntmps121
      go_wp2_with fail
      go_ret
      exact ⟨ret_bool HR.out.symm, rfl⟩
    · have HR := Lib.hid (show isLet c = false by simp [isLet]; omega)
      go_enter Tryz.func121, Tryz.ntmps121
      go_wp2_with fail
      go_ret
      exact ⟨ret_bool HR.out.symm, rfl⟩
  · have HR := Lib.hid (show isLet c = false by simp [isLet]; omega)
    go_enter Tryz.func121, Tryz.ntmps121
    go_wp2_with fail
    go_ret
    exact ⟨ret_bool HR.out.symm, rfl⟩
theorem rdecimal (c : UInt8) (w : World) : Calls Tryz.prog 179 #[.int .u8 c.toNat] w fun e w' => e = .returned (.bool (isDig c)) ∧ w = w' := by
  by_cases h1 : (48 : Int) ≤ (c.toNat : Int)
  · by_cases h2 : (c.toNat : Int) ≤ 57
    · have HR := Lib.hid (show isDig c = true by simp [isDig]; omega)
      go_enter Tryz.func179, Tryz.ntmps179
      go_wp2_with fail
      go_ret
      exact ⟨ret_bool HR.out.symm, rfl⟩
    · have HR := Lib.hid (show isDig c = false by simp [isDig]; omega)
      go_enter Tryz.func179, Tryz.ntmps179
      go_wp2_with fail
      go_ret
      exact ⟨ret_bool HR.out.symm, rfl⟩
  · have HR := Lib.hid (show isDig c = false by simp [isDig]; omega)
    go_enter Tryz.func179, Tryz.ntmps179
    go_wp2_with fail
    go_ret
    exact ⟨ret_bool HR.out.symm, rfl⟩
theorem eq95 (c : UInt8) : ((c.toNat : Int) == 95) = (c == 95) := by
  rw [Bool.eq_iff_iff, beq_iff_eq, beq_iff_eq]
  constructor
  · intro h; exact UInt8.toNat_inj.1 (show c.toNat = (95 : UInt8).toNat from by show c.toNat = 95; omega)
  · rintro rfl; rfl
theorem rinName (c : UInt8) (w : World) : Calls Tryz.prog 122 #[.int .u8 c.toNat] w fun e w' => e = .returned (.bool (inNm c)) ∧ w = w' := by
  have H95 := Lib.hid (eq95 c)
  have hA := fun w => rletter c w
  have hB := fun w => rdecimal c w
  have HN := Lib.hid (show inNm c = (isLet c || (isDig c || c == 95)) from rfl)
  generalize isLet c = a at hA HN
  generalize isDig c = b at hB HN
  generalize (c == 95) = d at H95 HN
  cases a
  · cases b
    · have t := H95.out
      go_enter Tryz.func122, Tryz.ntmps122
      go_wp2_with (first
        | (go_at_call 121; refine (hA _).mono ?_; rintro e w1 ⟨rfl, rfl⟩)
        | (go_at_call 179; refine (hB _).mono ?_; rintro e w1 ⟨rfl, rfl⟩))
      go_ret
      exact ⟨ret_bool (by rw [HN.out]; rfl), rfl⟩
    · go_enter Tryz.func122, Tryz.ntmps122
      go_wp2_with (first
        | (go_at_call 121; refine (hA _).mono ?_; rintro e w1 ⟨rfl, rfl⟩)
        | (go_at_call 179; refine (hB _).mono ?_; rintro e w1 ⟨rfl, rfl⟩))
      go_ret
      exact ⟨ret_bool (by rw [HN.out]; rfl), rfl⟩
  · go_enter Tryz.func122, Tryz.ntmps122
    go_wp2_with (first
      | (go_at_call 121; refine (hA _).mono ?_; rintro e w1 ⟨rfl, rfl⟩)
      | (go_at_call 179; refine (hB _).mono ?_; rintro e w1 ⟨rfl, rfl⟩))
    go_ret
    exact ⟨ret_bool (by rw [HN.out]; rfl), rfl⟩
theorem xnameLength (s : ByteArray) (w : World) (hs : s.size ≤ 1099511627776) : Calls Tryz.prog 64 #[.string s] w fun e w' => e = .returned (.int .i64 (nameLen s.data.toList : Int)) ∧ w = w' := by
  have HZ := Lib.hid (Lib.size_eq s)
  go_enter Tryz.func64, Tryz.ntmps64
  go_wp2_with fail
  go_loop [3] (fun i => ∃ k : Nat, k ≤ s.size ∧ i = .int .i64 k ∧ Hid (nmTo s.data.toList k)) (fun i => s.size - (intOf i).toNat)
  case atStart => exact ⟨0, Nat.zero_le _, rfl, nmTo.zero _⟩
  case round =>
    obtain ⟨k, hk, rfl, hH⟩ := hrel
    by_cases hlt : k < s.size
    · obtain ⟨c, hc⟩ : ∃ c, s.data.toList[k]? = some c := ⟨_, List.getElem?_eq_getElem (by rw [← HZ.out]; exact hlt)⟩
      have hix := run_idx hc
      have HNM := Lib.hid (nmAt_some hc)
      have h95 := eq95 c
      have hA := fun w => xletter c w
      have hB := fun w => xdigit c w
      have hk1 : (k : Int) < (s.size : Int) := by omega
      have hk0 : (0 : Int) ≤ (k : Int) := by omega
      generalize isLet c = a at hA HNM
      generalize isDig c = b at hB HNM
      generalize (c == 95) = d at h95 HNM
      clear hc
      cases a
      · by_cases h0 : 0 < k
        · have h0' : (0 : Int) < (k : Int) := by omega
          cases b
          · cases d
            · have HE := Lib.hid (nameLen_at _ k hH.out (by rw [HNM.out]; simp))
              go_wp2_with (first
                | (go_at_call 79; refine (hA _).mono ?_; rintro e w1 ⟨rfl, rfl⟩)
                | (go_at_call 81; refine (hB _).mono ?_; rintro e w1 ⟨rfl, rfl⟩))
              go_ret
              exact ⟨ret_int (by rw [HE.out]), rfl⟩
            · have HE := Lib.hid (nmTo.succ hH.out (show nmAt s.data.toList k = true by rw [HNM.out]; simpa using h0))
              go_wp2_with (first
                | (go_at_call 79; refine (hA _).mono ?_; rintro e w1 ⟨rfl, rfl⟩)
                | (go_at_call 81; refine (hB _).mono ?_; rintro e w1 ⟨rfl, rfl⟩))
              go_round
              case rel => exact ⟨k + 1, by omega, by go_num, HE⟩
              case measure => simp [intOf]; omega
          · have HE := Lib.hid (nmTo.succ hH.out (show nmAt s.data.toList k = true by rw [HNM.out]; simpa using h0))
            go_wp2_with (first
              | (go_at_call 79; refine (hA _).mono ?_; rintro e w1 ⟨rfl, rfl⟩)
              | (go_at_call 81; refine (hB _).mono ?_; rintro e w1 ⟨rfl, rfl⟩))
            go_round
            case rel => exact ⟨k + 1, by omega, by go_num, HE⟩
            case measure => simp [intOf]; omega
        · have h0' : ¬ (0 : Int) < (k : Int) := by omega
          have HE := Lib.hid (nameLen_at _ k hH.out (by rw [HNM.out]; simp; omega))
          go_wp2_with (first
            | (go_at_call 79; refine (hA _).mono ?_; rintro e w1 ⟨rfl, rfl⟩)
            | (go_at_call 81; refine (hB _).mono ?_; rintro e w1 ⟨rfl, rfl⟩))
          go_ret
          exact ⟨ret_int (by rw [HE.out]), rfl⟩
      · have HE := Lib.hid (nmTo.succ hH.out (show nmAt s.data.toList k = true by rw [HNM.out]; simp))
        go_wp2_with (first
          | (go_at_call 79; refine (hA _).mono ?_; rintro e w1 ⟨rfl, rfl⟩)
          | (go_at_call 81; refine (hB _).mono ?_; rintro e w1 ⟨rfl, rfl⟩))
        go_round
        case rel => exact ⟨k + 1, by omega, by go_num, HE⟩
        case measure => simp [intOf]; omega
    · have HE := Lib.hid (nameLen_at _ k hH.out (nmAt_none (by rw [← HZ.out]; omega)))
      have hk1 : ¬ (k : Int) < (s.size : Int) := by omega
      go_wp2_with fail
      go_ret
      exact ⟨ret_int (by rw [HE.out]), rfl⟩
theorem empty_iff (s : ByteArray) : s.toList.isEmpty = decide (s.data.toList = []) := by
  rw [Lib.toList_data, Bool.eq_iff_iff]
  simp
theorem isNameB_nil {s : List UInt8} (h : s = []) : isNameB s = false := by subst h; rfl
theorem xisName (s : ByteArray) (w : World) (hs : s.size ≤ 1099511627776) : Calls Tryz.prog 32 #[.string s] w fun e w' => e = .returned (.bool (isNameB s.data.toList)) ∧ w = w' := by
  have hL := fun w => xnameLength s w hs
  by_cases h0 : s.data.toList = []
  · have te : s.toList.isEmpty = true := by rw [empty_iff]; simpa using h0
    have HR := Lib.hid (isNameB_nil h0)
    clear h0
    go_enter Tryz.func32, Tryz.ntmps32
    go_wp2_with fail
    go_ret
    exact ⟨ret_bool HR.out.symm, rfl⟩
  · have te : s.toList.isEmpty = false := by rw [empty_iff]; simpa using h0
    have HR := Lib.hid (show isNameB s.data.toList = (decide (s.data.toList.length ≤ 16) && decide (nameLen s.data.toList = s.data.toList.length)) by unfold isNameB; simp [h0])
    rw [← Lib.size_eq] at HR
    generalize nameLen s.data.toList = n at hL HR
    clear h0
    by_cases h16 : s.size ≤ 16
    · have t16 : (s.size : Int) ≤ 16 := by omega
      have HQ := Lib.hid (show ((n : Int) == (s.size : Int)) = decide (n = s.size) by rw [Bool.eq_iff_iff]; simp; omega)
      go_enter Tryz.func32, Tryz.ntmps32
      go_wp2_with (go_at_call 64; refine (hL _).mono ?_; rintro e w1 ⟨rfl, rfl⟩)
      go_ret
      exact ⟨ret_bool (by rw [HR.out, HQ.out]; simp [h16]), rfl⟩
    · have t16 : ¬ (s.size : Int) ≤ 16 := by omega
      go_enter Tryz.func32, Tryz.ntmps32
      go_wp2_with fail
      go_ret
      exact ⟨ret_bool (by rw [HR.out]; simp; omega), rfl⟩
end Go.Proofs.YtpnfbehbheddeaaGreatDoor
