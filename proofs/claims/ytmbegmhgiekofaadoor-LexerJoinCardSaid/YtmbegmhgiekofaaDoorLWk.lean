/- Small facts for the walks of the lexer, in plain Lean: how far a name, a number and a sign reach; scanning byte by byte; words and joining. No condition. -/
import Derived.Test.YtmbegmhgiekofaaDoorLScan
namespace Go.Proofs.YtmbegmhgiekofaaDoor

/-- May the byte number k be part of a name that begins with s? -/
def nmAt (s : List UInt8) (k : Nat) : Bool := match s[k]? with
  | some c => isLet c || (decide (0 < k) && (isDig c || c == 95))
  | none => false
theorem nmAt_some {s : List UInt8} {k : Nat} {c : UInt8} (h : s[k]? = some c) : nmAt s k = (isLet c || (decide (0 < k) && (isDig c || c == 95))) := by unfold nmAt; rw [h]
theorem nmAt_none {s : List UInt8} {k : Nat} (h : s.length ≤ k) : nmAt s k = false := by unfold nmAt; rw [List.getElem?_eq_none h]
theorem takeWhile_len {p : UInt8 → Bool} : ∀ (r : List UInt8) (m : Nat), (∀ j, j < m → ∃ c, r[j]? = some c ∧ p c = true) → (∀ c, r[m]? = some c → p c = false) → (r.takeWhile p).length = m := by
  intro r
  induction r with
  | nil =>
    intro m h1 _
    cases m with
    | zero => rfl
    | succ m => obtain ⟨c, h, _⟩ := h1 0 (by omega); simp at h
  | cons c r ih =>
    intro m h1 h2
    cases m with
    | zero => have := h2 c rfl; simp [this]
    | succ m =>
      obtain ⟨c', e, hp⟩ := h1 0 (by omega)
      simp at e
      subst e
      simp only [List.takeWhile_cons, hp, if_true, List.length_cons]
      rw [ih m (fun j hj => by have := h1 (j + 1) (by omega); simpa using this) (fun c h => h2 c (by simpa using h))]
theorem nameLen_at (s : List UInt8) (k : Nat) (h1 : ∀ j, j < k → nmAt s j = true) (h2 : nmAt s k = false) : nameLen s = k := by
  cases s with
  | nil =>
    cases k with
    | zero => rfl
    | succ k => have := h1 0 (by omega); simp [nmAt] at this
  | cons c r =>
    cases k with
    | zero =>
      have : isLet c = false := by simpa [nmAt] using h2
      rw [nameLen, if_neg (by simp [this])]
    | succ k =>
      have h0 : isLet c = true := by simpa [nmAt] using h1 0 (by omega)
      have hk : (r.takeWhile inNm).length = k := by
        refine takeWhile_len r k ?_ ?_
        · intro j hj
          have := h1 (j + 1) (by omega)
          unfold nmAt at this
          rw [List.getElem?_cons_succ] at this
          cases hr : r[j]? with
          | none => rw [hr] at this; cases this
          | some d => rw [hr] at this; exact ⟨d, rfl, by simpa [inNm] using this⟩
        · intro d hd
          unfold nmAt at h2
          rw [List.getElem?_cons_succ, hd] at h2
          simpa [inNm] using h2
      rw [nameLen, if_pos h0, hk]
      omega
theorem nameLen_le (s : List UInt8) : nameLen s ≤ s.length := by
  cases s with
  | nil => exact Nat.le_refl _
  | cons c r =>
    have h := (List.takeWhile_prefix inNm (l := r)).length_le
    rw [nameLen]
    split <;> simp <;> omega
/-- Up to k all are in a name. -/
def nmTo (s : List UInt8) (k : Nat) : Prop := ∀ j, j < k → nmAt s j = true
theorem nmTo.zero (s : List UInt8) : nmTo s 0 := fun j h => absurd h (by omega)
theorem nmTo.succ {s : List UInt8} {k : Nat} (h : nmTo s k) (hk : nmAt s k = true) : nmTo s (k + 1) := fun j hj => by
  rcases Nat.lt_succ_iff_lt_or_eq.1 hj with h1 | h1
  · exact h j h1
  · subst h1; exact hk
/-- Up to k all meet p. -/
def allTo (p : UInt8 → Bool) (s : List UInt8) (k : Nat) : Prop := ∀ j, j < k → ∃ c, s[j]? = some c ∧ p c = true
theorem allTo.zero (p : UInt8 → Bool) (s : List UInt8) : allTo p s 0 := fun j h => absurd h (by omega)
theorem allTo.succ {p : UInt8 → Bool} {s : List UInt8} {k : Nat} {c : UInt8} (h : allTo p s k) (hc : s[k]? = some c) (hp : p c = true) : allTo p s (k + 1) := fun j hj => by
  rcases Nat.lt_succ_iff_lt_or_eq.1 hj with h1 | h1
  · exact h j h1
  · subst h1; exact ⟨c, hc, hp⟩
theorem allTo.stop {p : UInt8 → Bool} {s : List UInt8} {k : Nat} {c : UInt8} (h : allTo p s k) (hc : s[k]? = some c) (hp : p c = false) : (s.takeWhile p).length = k :=
  takeWhile_len s k h (fun d hd => by rw [hc] at hd; injection hd with hd; rw [← hd]; exact hp)
theorem allTo.end_ {p : UInt8 → Bool} {s : List UInt8} (h : allTo p s s.length) : (s.takeWhile p).length = s.length :=
  takeWhile_len s s.length h (fun d hd => by rw [List.getElem?_eq_none (Nat.le_refl _)] at hd; cases hd)
/-- A name as the reference reads it: letters, digits and underscores from a letter on. -/
theorem nameLen_let {c : UInt8} {r : List UInt8} (hc : isLet c = true) : nameLen (c :: r) = ((c :: r).takeWhile inNm).length := by
  have hi : inNm c = true := by unfold inNm; rw [hc]; rfl
  rw [nameLen, if_pos hc, List.takeWhile_cons, hi, if_pos rfl, List.length_cons, Nat.add_comm]

theorem sign_contains (c : UInt8) : (decide (0 ≤ Lib.indexByte signL c)) = signL.contains c := by
  have h : ∀ k : Fin 256, (decide (0 ≤ Lib.indexByte signL (UInt8.ofNat k.val))) = signL.contains (UInt8.ofNat k.val) := by decide +kernel
  have := h ⟨c.toNat, c.toNat_lt⟩
  simpa using this
theorem prefix2 (l : List UInt8) (a b : UInt8) : Lib.hasPrefix l [a, b] = decide (l.take 2 = [a, b]) := by
  unfold Lib.hasPrefix
  match l with
  | [] => simp
  | [c] => simp [List.isPrefixOf]
  | c :: d :: r =>
    simp only [List.isPrefixOf, List.take_succ_cons, List.take_zero, Bool.and_true]
    rw [Bool.eq_iff_iff]
    simp
    exact ⟨fun h => ⟨h.1.symm, h.2.symm⟩, fun h => ⟨h.1.symm, h.2.symm⟩⟩
/-- The signs. -/
def signW : List (List UInt8) := [[40], [41], [44], [46], [59], [43], [45], [42], [47], [61], [60], [43, 43], [60, 61]]
def isSignB (l : List UInt8) : Bool := signW.contains l
theorem isSign1 (c : UInt8) : isSignB [c] = signL.contains c := by
  have h : ∀ k : Fin 256, isSignB [UInt8.ofNat k.val] = signL.contains (UInt8.ofNat k.val) := by decide +kernel
  have := h ⟨c.toNat, c.toNat_lt⟩
  simpa using this
theorem isSign2 (a b : UInt8) : isSignB [a, b] = decide ([a, b] = [43, 43] ∨ [a, b] = [60, 61]) := by
  unfold isSignB signW
  rw [Bool.eq_iff_iff]
  simp
theorem isSign_len {l : List UInt8} (h : isSignB l = true) : l.length = 1 ∨ l.length = 2 := by
  unfold isSignB signW at h
  simp at h
  rcases h with rfl | rfl | rfl | rfl | rfl | rfl | rfl | rfl | rfl | rfl | rfl | rfl | rfl <;> simp
/-- The sign's length as the reference has it. -/
theorem signLen_ref (s : List UInt8) : signLen s = if 2 ≤ s.length ∧ isSignB (s.take 2) = true then 2 else if 1 ≤ s.length ∧ isSignB (s.take 1) = true then 1 else 0 := by
  match s with
  | [] => rfl
  | [c] =>
    have h1 : ¬ ([c].take 2 = [43, 43] ∨ [c].take 2 = [60, 61]) := by simp
    unfold signLen
    have h2 : ([c] : List UInt8).take 1 = [c] := rfl
    have h0 : ([c] : List UInt8).getD 0 0 = c := rfl
    rw [if_neg h1, h2, h0, isSign1]
    simp
  | a :: b :: r =>
    have h2 : (a :: b :: r).take 2 = [a, b] := rfl
    have h1 : (a :: b :: r).take 1 = [a] := rfl
    have h0 : (a :: b :: r).getD 0 0 = a := rfl
    unfold signLen
    rw [h2, h1, h0, isSign2, isSign1]
    simp
theorem signLen_le (s : List UInt8) : signLen s ≤ s.length := by
  rw [signLen_ref]
  split
  · omega
  · split <;> omega
theorem isSign_prog (l : List UInt8) : isSignB l = (decide (l ≠ []) && decide (signLen l = l.length)) := by
  match l with
  | [] => rfl
  | [c] =>
    rw [isSign1, signLen_ref]
    have h2 : ([c] : List UInt8).take 1 = [c] := rfl
    rw [h2, isSign1]
    cases signL.contains c <;> simp
  | [a, b] =>
    rw [isSign2, signLen_ref]
    have h2 : ([a, b] : List UInt8).take 2 = [a, b] := rfl
    have h1 : ([a, b] : List UInt8).take 1 = [a] := rfl
    rw [h2, h1, isSign2, isSign1]
    by_cases h : [a, b] = [43, 43] ∨ [a, b] = [60, 61]
    · rcases h with h | h <;> (simp only [List.cons.injEq, and_true] at h; obtain ⟨rfl, rfl⟩ := h; decide)
    · cases signL.contains a <;> simp
  | a :: b :: c :: r =>
    have h1 : isSignB (a :: b :: c :: r) = false := by
      rw [Bool.eq_false_iff]
      intro h
      have := isSign_len h
      simp at this
    rw [h1, signLen_ref]
    symm
    rw [Bool.and_eq_false_iff]
    right
    rw [decide_eq_false_iff_not]
    split
    · simp
    · split <;> simp

/-- Scanning from inside white space or a comment on. -/
def scanG (cm : Bool) : Nat → List UInt8 → Nat → List Tk → List Tk × Nat × Int
  | 0, _, _, _ => ([], 0, 0)
  | f + 1, s, pos, acc =>
    let k := skipN cm s
    let r := s.drop k
    if r = [] then (acc, 0, 0)
    else
      let x := tokO r
      if x.2.2 ≠ 0 then ([], pos + k, x.2.2)
      else if acc.length = 4096 then ([], pos + k, 8)
      else scanL f (r.drop x.2.1) (pos + k + x.2.1) (acc ++ [{ x.1 with pos := ((pos + k : Nat) : Int) }])
theorem scanG_false : ∀ (f : Nat) (s : List UInt8) (pos : Nat) (acc : List Tk), scanG false f s pos acc = scanL f s pos acc := by
  intro f
  cases f <;> intros <;> rfl
theorem scanG_skip {cm cm' : Bool} {c : UInt8} {r : List UInt8} (h : skipN cm (c :: r) = 1 + skipN cm' r) (f pos : Nat) (acc : List Tk) : scanG cm (f + 1) (c :: r) pos acc = scanG cm' (f + 1) r (pos + 1) acc := by
  have e1 : (c :: r).drop (1 + skipN cm' r) = r.drop (skipN cm' r) := by rw [Nat.add_comm, List.drop_succ_cons]
  have e2 : pos + (1 + skipN cm' r) = pos + 1 + skipN cm' r := by omega
  unfold scanG
  simp only
  rw [h, e1, e2]
theorem scan_ws {c : UInt8} {r : List UInt8} (h : c = 32 ∨ c = 9 ∨ c = 13 ∨ c = 10) (f pos : Nat) (acc : List Tk) : scanL (f + 1) (c :: r) pos acc = scanL (f + 1) r (pos + 1) acc := by
  rw [← scanG_false, ← scanG_false]
  refine scanG_skip ?_ f pos acc
  rw [skipN]
  by_cases h10 : c = 10
  · rw [if_pos h10]
  · rw [if_neg h10, if_pos (by rcases h with h | h | h | h <;> simp [h] at *)]
theorem scan_hash {r : List UInt8} (f pos : Nat) (acc : List Tk) : scanL (f + 1) (35 :: r) pos acc = scanG true (f + 1) (35 :: r) pos acc := by
  rw [← scanG_false, scanG_skip (cm' := true) (by rw [skipN, if_neg (by decide), if_neg (by decide), if_pos rfl]), scanG_skip (cm' := true) (by rw [skipN, if_neg (by decide), if_neg (by decide), if_pos rfl])]
theorem scan_in {c : UInt8} {r : List UInt8} (h : c ≠ 10) (f pos : Nat) (acc : List Tk) : scanG true (f + 1) (c :: r) pos acc = scanG true (f + 1) r (pos + 1) acc := by
  refine scanG_skip ?_ f pos acc
  rw [skipN, if_neg h]
  split
  · rfl
  · split
    · rfl
    · rw [if_pos rfl]
theorem scan_nl {r : List UInt8} (f pos : Nat) (acc : List Tk) : scanG true (f + 1) (10 :: r) pos acc = scanL (f + 1) (10 :: r) pos acc := by
  rw [← scanG_false, scanG_skip (cm' := false) (by rw [skipN, if_pos rfl]), scanG_skip (cm' := false) (by rw [skipN, if_pos rfl])]
theorem scan_nil (cm : Bool) (f pos : Nat) (acc : List Tk) : scanG cm (f + 1) [] pos acc = (acc, 0, 0) := by
  unfold scanG
  simp [skipN]
theorem skipN_zero {c : UInt8} {r : List UInt8} (h : ¬ wsB c) : skipN false (c :: r) = 0 := skipN_word h r
/-- A token where the scan stands. -/
theorem scan_tok {c : UInt8} {r : List UInt8} (h : ¬ wsB c) (f pos : Nat) (acc : List Tk) : scanL (f + 1) (c :: r) pos acc = if (tokO (c :: r)).2.2 ≠ 0 then ([], pos, (tokO (c :: r)).2.2) else if acc.length = 4096 then ([], pos, 8) else scanL f ((c :: r).drop (tokO (c :: r)).2.1) (pos + (tokO (c :: r)).2.1) (acc ++ [{ (tokO (c :: r)).1 with pos := (pos : Int) }]) := by
  rw [scanL]
  simp only
  rw [skipN_zero h, List.drop_zero, if_neg (by simp)]
  rfl
/-- The scan from p on comes to X. -/
def ScanTo (s : List UInt8) (p : Nat) (acc : List Tk) (X : List Tk × Nat × Int) : Prop := ∃ f, (s.drop p).length ≤ f ∧ scanL (f + 1) (s.drop p) p acc = X
def ScanIn (s : List UInt8) (p : Nat) (acc : List Tk) (X : List Tk × Nat × Int) : Prop := ∃ f, (s.drop p).length ≤ f ∧ scanG true (f + 1) (s.drop p) p acc = X
theorem ScanTo.start {s : List UInt8} (h : s.length ≤ 32768) : ScanTo s 0 [] (scanO s) := ⟨s.length, Nat.le_refl _, by unfold scanO; rw [if_neg (by omega)]; rfl⟩
theorem scanO_full {s : List UInt8} (h : 32768 < s.length) : scanO s = ([], 0, 8) := by unfold scanO; rw [if_pos h]
section
variable {s : List UInt8} {p : Nat} {acc : List Tk} {X : List Tk × Nat × Int} {c : UInt8}
theorem drop_len (h : s[p]? = some c) : (s.drop p).length = (s.drop (p + 1)).length + 1 := by
  have := (List.getElem?_eq_some_iff.1 h).1
  simp only [List.length_drop]
  omega
theorem ScanTo.ws (h : ScanTo s p acc X) (hc : s[p]? = some c) (hw : c = 32 ∨ c = 9 ∨ c = 13 ∨ c = 10) : ScanTo s (p + 1) acc X := by
  obtain ⟨f, hf, e⟩ := h
  have := drop_len hc
  rw [drop_at hc, scan_ws hw] at e
  exact ⟨f, by omega, e⟩
theorem ScanTo.hash (h : ScanTo s p acc X) (hc : s[p]? = some 35) : ScanIn s p acc X := by
  obtain ⟨f, hf, e⟩ := h
  rw [drop_at hc, scan_hash] at e
  exact ⟨f, hf, by rw [drop_at hc]; exact e⟩
theorem ScanIn.next (h : ScanIn s p acc X) (hc : s[p]? = some c) (hn : c ≠ 10) : ScanIn s (p + 1) acc X := by
  obtain ⟨f, hf, e⟩ := h
  have := drop_len hc
  rw [drop_at hc, scan_in hn] at e
  exact ⟨f, by omega, e⟩
theorem ScanIn.nl (h : ScanIn s p acc X) (hc : s[p]? = some 10) : ScanTo s p acc X := by
  obtain ⟨f, hf, e⟩ := h
  rw [drop_at hc, scan_nl] at e
  exact ⟨f, hf, by rw [drop_at hc]; exact e⟩
theorem ScanIn.over (h : ScanIn s p acc X) (hp : s.length ≤ p) : ScanTo s p acc X := by
  obtain ⟨f, hf, e⟩ := h
  rw [List.drop_of_length_le hp, scan_nil] at e
  exact ⟨f, hf, by rw [List.drop_of_length_le hp, ← scanG_false, scan_nil]; exact e⟩
theorem ScanTo.done (h : ScanTo s p acc X) (hp : s.length ≤ p) : X = (acc, 0, 0) := by
  obtain ⟨f, hf, e⟩ := h
  rw [List.drop_of_length_le hp, ← scanG_false, scan_nil] at e
  exact e.symm
/-- The white space and the comments skipped at once. -/
theorem scan_jump (f p : Nat) (r : List UInt8) (acc : List Tk) : scanL (f + 1) r p acc = scanL (f + 1) (r.drop (skipN false r)) (p + skipN false r) acc := by
  by_cases hr : r.drop (skipN false r) = []
  · rw [hr, ← scanG_false f.succ [], scan_nil]
    rw [scanL]
    simp only
    rw [if_pos hr]
  · obtain ⟨d, r', hd⟩ : ∃ d r', r.drop (skipN false r) = d :: r' := by
      cases h : r.drop (skipN false r) with
      | nil => exact absurd h hr
      | cons d r' => exact ⟨d, r', rfl⟩
    have he := skipN_end r false d r' hd
    have hnw : ¬ wsB d := by
      intro h
      unfold wsB at h
      rcases h with h | h | h | h | h <;> simp [h] at he
    rw [hd, scan_tok hnw, ← hd]
    rw [scanL]
    simp only
    rw [if_neg hr]
theorem ScanTo.jump (h : ScanTo s p acc X) : ScanTo s (p + skipN false (s.drop p)) acc X := by
  obtain ⟨f, hf, e⟩ := h
  rw [scan_jump, List.drop_drop] at e
  refine ⟨f, ?_, e⟩
  simp only [List.length_drop] at hf ⊢
  omega
theorem ScanTo.tok (h : ScanTo s p acc X) (hc : s[p]? = some c) (hw : ¬ wsB c) {t : Tk} {n : Nat} {e : Int} (ht : tokO (s.drop p) = (t, n, e)) :
    (e ≠ 0 → X = ([], p, e)) ∧ (e = 0 → acc.length = 4096 → X = ([], p, 8)) ∧ (e = 0 → acc.length ≠ 4096 → ScanTo s (p + n) (acc ++ [{ t with pos := (p : Int) }]) X ∧ 1 ≤ n ∧ p + n ≤ s.length) := by
  obtain ⟨f, hf, hx⟩ := h
  have hlt := (List.getElem?_eq_some_iff.1 hc).1
  rw [drop_at hc, scan_tok hw, ← drop_at hc, ht] at hx
  simp only at hx
  refine ⟨fun h0 => ?_, fun h0 h1 => ?_, fun h0 h1 => ?_⟩
  · rw [if_pos h0] at hx; exact hx.symm
  · rw [if_neg (by simpa using h0), if_pos h1] at hx; exact hx.symm
  · rw [if_neg (by simpa using h0), if_neg h1, List.drop_drop] at hx
    subst h0
    have ht' := tok_at (s.drop p) (by rw [drop_at hc]; simp) t n ht
    have h2 := ht'.pos
    have h3 := ht'.le
    simp only [List.length_drop] at h3 hf
    refine ⟨?_, h2, by omega⟩
    obtain ⟨g, rfl⟩ : ∃ g, f = g + 1 := ⟨f - 1, by omega⟩
    exact ⟨g, by simp only [List.length_drop]; omega, hx⟩
end
end Go.Proofs.YtmbegmhgiekofaaDoor
