/- What parsing the text form of a value is, in plain Lean, and that it takes back what formatting gives. No program in sight, no condition. What the tokens of layer 2 are, in plain Lean. No program in sight, no condition. -/
import Derived.Test.YtpnfbehbheddeaaGreatDoorBn00
import Derived.Test.YtpnfbehbheddeaaGreatDoorBn01
import Derived.Lib.ParseIntB
namespace Go.Proofs.YtpnfbehbheddeaaGreatDoor
set_option maxRecDepth 100000
set_option maxHeartbeats 8000000
set_option linter.unusedVariables false
set_option linter.unusedSimpArgs false
def hexL : List UInt8 := [48, 49, 50, 51, 52, 53, 54, 55, 56, 57, 97, 98, 99, 100, 101, 102]
def hexI (c : UInt8) : Int := Lib.indexByte hexL c
theorem hexI_facts (c : UInt8) : hexI c = -1 ∨ (0 ≤ hexI c ∧ hexI c < 16) := by
  have h : ∀ k : Fin 256, hexI (UInt8.ofNat k.val) = -1 ∨ (0 ≤ hexI (UInt8.ofNat k.val) ∧ hexI (UInt8.ofNat k.val) < 16) := by decide +kernel
  have := h ⟨c.toNat, c.toNat_lt⟩
  simpa using this
theorem hexI_34 : hexI 34 = -1 := by decide +kernel
def hexB (a b : UInt8) : UInt8 := UInt8.ofNat ((hexI a).toNat * 16 + (hexI b).toNat)
theorem hexB_nat {a b : UInt8} (ha : 0 ≤ hexI a) (hb : 0 ≤ hexI b) : ((hexB a b).toNat : Int) = hexI a * 16 + hexI b := by
  have h1 := hexI_facts a
  have h2 := hexI_facts b
  unfold hexB
  rw [UInt8.toNat_ofNat', Nat.mod_eq_of_lt (by omega)]
  omega
theorem hexd_hex (c : UInt8) : 0 ≤ hexI (hexd (c.toNat / 16)) ∧ 0 ≤ hexI (hexd (c.toNat % 16)) ∧ hexB (hexd (c.toNat / 16)) (hexd (c.toNat % 16)) = c := by
  have h : ∀ k : Fin 256, 0 ≤ hexI (hexd ((UInt8.ofNat k.val).toNat / 16)) ∧ 0 ≤ hexI (hexd ((UInt8.ofNat k.val).toNat % 16)) ∧ hexB (hexd ((UInt8.ofNat k.val).toNat / 16)) (hexd ((UInt8.ofNat k.val).toNat % 16)) = UInt8.ofNat k.val := by decide +kernel
  have := h ⟨c.toNat, c.toNat_lt⟩
  simpa using this
def unqR (l : List UInt8) : Option (List UInt8 × Nat) :=
  match l with
  | [] => none
  | c :: r =>
    if c = 34 then some ([], 1)
    else if c = 92 then
      if 2 ≤ r.length ∧ 0 ≤ hexI (r.getD 0 0) ∧ 0 ≤ hexI (r.getD 1 0) ∧ plainB (hexB (r.getD 0 0) (r.getD 1 0)) = false then (unqR (r.drop 2)).map fun x => (hexB (r.getD 0 0) (r.getD 1 0) :: x.1, x.2 + 3) else none
    else if plainB c then (unqR r).map fun x => (c :: x.1, x.2 + 1) else none
termination_by l.length
decreasing_by all_goals simp; all_goals omega
theorem unqR_nil : unqR [] = none := by rw [unqR]
theorem unqR_end (r : List UInt8) : unqR (34 :: r) = some ([], 1) := by rw [unqR]; simp
theorem plain_ne {c : UInt8} (h : plainB c = true) : c ≠ 34 ∧ c ≠ 92 := by
  constructor <;> rintro rfl <;> revert h <;> decide
theorem unqR_plain {c : UInt8} (h : plainB c = true) (r : List UInt8) : unqR (c :: r) = (unqR r).map fun x => (c :: x.1, x.2 + 1) := by
  obtain ⟨h1, h2⟩ := plain_ne h
  rw [unqR, if_neg h1, if_neg h2, if_pos h]
theorem unqR_odd {c : UInt8} (h1 : c ≠ 34) (h2 : c ≠ 92) (h : plainB c = false) (r : List UInt8) : unqR (c :: r) = none := by
  rw [unqR, if_neg h1, if_neg h2, if_neg (by simp [h])]
theorem unqR_esc {a b : UInt8} (h : 0 ≤ hexI a ∧ 0 ≤ hexI b ∧ plainB (hexB a b) = false) (r : List UInt8) : unqR (92 :: a :: b :: r) = (unqR r).map fun x => (hexB a b :: x.1, x.2 + 3) := by
  rw [unqR, if_neg (by decide), if_pos rfl, if_pos ⟨by simp, h⟩]
  rfl
theorem unqR_bad {a b : UInt8} (h : ¬ (0 ≤ hexI a ∧ 0 ≤ hexI b ∧ plainB (hexB a b) = false)) (r : List UInt8) : unqR (92 :: a :: b :: r) = none := by
  rw [unqR, if_neg (by decide), if_pos rfl, if_neg (fun h' => h h'.2)]
theorem unqR_esc0 : unqR [92] = none := by rw [unqR, if_neg (by decide), if_pos rfl, if_neg (by simp)]
theorem unqR_esc1 (a : UInt8) : unqR [92, a] = none := by rw [unqR, if_neg (by decide), if_pos rfl, if_neg (by simp)]
theorem unqR_last : ∀ (n : Nat) (l : List UInt8), l.length ≤ n → ∀ t k, unqR l = some (t, k) → 1 ≤ k ∧ l[k - 1]? = some 34 ∧ t.length + 1 ≤ k ∧ k ≤ l.length := by
  intro n
  induction n with
  | zero =>
    intro l hl t k h
    obtain rfl : l = [] := List.eq_nil_of_length_eq_zero (by omega)
    rw [unqR_nil] at h
    cases h
  | succ n ih =>
    intro l hl t k h
    cases l with
    | nil => rw [unqR_nil] at h; cases h
    | cons c r =>
      simp only [List.length_cons] at hl
      by_cases h1 : c = 34
      · subst h1
        rw [unqR_end] at h
        injection h with h
        injection h with h2 h3
        subst h2 h3
        simp
      by_cases h2 : c = 92
      · subst h2
        match r, hl, h with
        | [], _, h => rw [unqR_esc0] at h; cases h
        | [a], _, h => rw [unqR_esc1] at h; cases h
        | a :: b :: r', hl, h =>
          by_cases hh : 0 ≤ hexI a ∧ 0 ≤ hexI b ∧ plainB (hexB a b) = false
          · rw [unqR_esc hh] at h
            obtain ⟨⟨t', k'⟩, e1, e2⟩ := Option.map_eq_some_iff.1 h
            simp only [List.length_cons] at hl
            obtain ⟨g1, g2, g3, g4⟩ := ih r' (by omega) t' k' e1
            simp only [Prod.mk.injEq] at e2
            obtain ⟨rfl, rfl⟩ := e2
            refine ⟨by omega, ?_, by simp only [List.length_cons]; omega, by simp only [List.length_cons]; omega⟩
            rw [show k' + 3 - 1 = (k' - 1) + 1 + 1 + 1 by omega]
            simpa using g2
          · rw [unqR_bad hh] at h; cases h
      · cases hp : plainB c
        · rw [unqR_odd h1 h2 hp] at h; cases h
        · rw [unqR_plain hp] at h
          obtain ⟨⟨t', k'⟩, e1, e2⟩ := Option.map_eq_some_iff.1 h
          obtain ⟨g1, g2, g3, g4⟩ := ih r (by omega) t' k' e1
          simp only [Prod.mk.injEq] at e2
          obtain ⟨rfl, rfl⟩ := e2
          refine ⟨by omega, ?_, by simp only [List.length_cons]; omega, by simp only [List.length_cons]; omega⟩
          rw [show k' + 1 - 1 = (k' - 1) + 1 by omega]
          simpa using g2
theorem unqR_quote : ∀ (t rest : List UInt8), unqR (t.flatMap qbyte ++ 34 :: rest) = some (t, (t.flatMap qbyte).length + 1) := by
  intro t
  induction t with
  | nil => intro rest; simp [unqR_end]
  | cons c t ih =>
    intro rest
    have h := ih rest
    cases hp : plainB c
    · obtain ⟨h1, h2, h3⟩ := hexd_hex c
      simp only [List.flatMap_cons, qbyte, hp, Bool.false_eq_true, if_false, List.cons_append, List.nil_append, List.length_cons]
      rw [unqR_esc ⟨h1, h2, by rw [h3]; exact hp⟩, h, h3]
      simp
    · simp only [List.flatMap_cons, qbyte, hp, if_true, List.cons_append, List.nil_append, List.length_cons]
      rw [unqR_plain hp, h]
      simp
def unqO (l : List UInt8) : List UInt8 × Nat := if l.head? = some 34 then (match unqR (l.drop 1) with
  | some (t, n) => (t, n + 1)
  | none => ([], 0)) else ([], 0)
def UnqR (l : List UInt8) (i : Nat) (tx : List UInt8) : Prop := unqR (l.drop 1) = (unqR (l.drop i)).map fun x => (tx ++ x.1, x.2 + (i - 1))
theorem UnqR.start (l : List UInt8) : UnqR l 1 [] := by
  unfold UnqR
  cases unqR (l.drop 1) <;> simp
theorem drop_at {l : List UInt8} {i : Nat} {c : UInt8} (hc : l[i]? = some c) : l.drop i = c :: l.drop (i + 1) := by
  obtain ⟨h1, e1⟩ := List.getElem?_eq_some_iff.1 hc
  rw [List.drop_eq_getElem_cons h1, e1]
theorem UnqR.plain {l : List UInt8} {i : Nat} {tx : List UInt8} {c : UInt8} (h : UnqR l i tx) (h1 : 1 ≤ i) (hc : l[i]? = some c) (hp : plainB c = true) : UnqR l (i + 1) (tx ++ [c]) := by
  unfold UnqR at h ⊢
  rw [h, drop_at hc, unqR_plain hp]
  cases unqR (l.drop (i + 1)) with
  | none => rfl
  | some x => simp; omega
theorem UnqR.esc {l : List UInt8} {i : Nat} {tx : List UInt8} {a b : UInt8} (h : UnqR l i tx) (h1 : 1 ≤ i) (hc : l[i]? = some 92) (ha : l[i + 1]? = some a) (hb : l[i + 2]? = some b) (hh : 0 ≤ hexI a ∧ 0 ≤ hexI b ∧ plainB (hexB a b) = false) : UnqR l (i + 3) (tx ++ [hexB a b]) := by
  unfold UnqR at h ⊢
  rw [h, drop_at hc, drop_at ha, drop_at hb, unqR_esc hh]
  cases unqR (l.drop (i + 3)) with
  | none => rfl
  | some x => simp; omega
theorem UnqR.bad {l : List UInt8} {i : Nat} {tx : List UInt8} {a b : UInt8} (h : UnqR l i tx) (hc : l[i]? = some 92) (ha : l[i + 1]? = some a) (hb : l[i + 2]? = some b) (hh : ¬ (0 ≤ hexI a ∧ 0 ≤ hexI b ∧ plainB (hexB a b) = false)) : unqR (l.drop 1) = none := by
  unfold UnqR at h
  rw [h, drop_at hc, drop_at ha, drop_at hb, unqR_bad hh]
  rfl
theorem UnqR.short {l : List UInt8} {i : Nat} {tx : List UInt8} (h : UnqR l i tx) (hc : l[i]? = some 92) (hl : l.length ≤ i + 2) : unqR (l.drop 1) = none := by
  unfold UnqR at h
  rw [h, drop_at hc]
  have : (l.drop (i + 1)).length ≤ 1 := by simp; omega
  match l.drop (i + 1), this with
  | [], _ => rw [unqR_esc0]; rfl
  | [a], _ => rw [unqR_esc1]; rfl
theorem UnqR.odd {l : List UInt8} {i : Nat} {tx : List UInt8} {c : UInt8} (h : UnqR l i tx) (hc : l[i]? = some c) (h1 : c ≠ 34) (h2 : c ≠ 92) (hp : plainB c = false) : unqR (l.drop 1) = none := by
  unfold UnqR at h
  rw [h, drop_at hc, unqR_odd h1 h2 hp]
  rfl
theorem UnqR.done {l : List UInt8} {i : Nat} {tx : List UInt8} (h : UnqR l i tx) (h1 : 1 ≤ i) (hc : l[i]? = some 34) : unqR (l.drop 1) = some (tx, i) := by
  unfold UnqR at h
  rw [h, drop_at hc, unqR_end]
  simp; omega
theorem UnqR.over {l : List UInt8} {i : Nat} {tx : List UInt8} (h : UnqR l i tx) (hl : l.length ≤ i) : unqR (l.drop 1) = none := by
  unfold UnqR at h
  rw [h, List.drop_of_length_le hl, unqR_nil]
  rfl
def pText (l : List UInt8) : V × Int := match unqR (l.drop 1) with
  | some (t, n) => if n + 1 ≠ l.length then (V.null, 2) else if 32 < t.length then (V.null, 1) else (⟨2, 0, ⟨t.toArray⟩⟩, 0)
  | none => (V.null, 2)
theorem pText_none {l : List UInt8} (h : unqR (l.drop 1) = none) : pText l = (V.null, 2) := by unfold pText; rw [h]
theorem pText_some {l t : List UInt8} {n : Nat} (h : unqR (l.drop 1) = some (t, n)) : pText l = if n + 1 ≠ l.length then (V.null, 2) else if 32 < t.length then (V.null, 1) else (⟨2, 0, ⟨t.toArray⟩⟩, 0) := by unfold pText; rw [h]
theorem pText_open {l : List UInt8} (h : l.length < 2 ∨ l[l.length - 1]? ≠ some 34) : pText l = (V.null, 2) := by
  cases hu : unqR (l.drop 1) with
  | none => exact pText_none hu
  | some x =>
    obtain ⟨t, n⟩ := x
    rw [pText_some hu]
    obtain ⟨g1, g2, _, g4⟩ := unqR_last _ _ (Nat.le_refl _) t n hu
    by_cases hn : n + 1 ≠ l.length
    · rw [if_pos hn]
    · exfalso
      have hn' : n + 1 = l.length := by omega
      rcases h with h | h
      · omega
      · apply h
        rw [List.getElem?_drop] at g2
        rw [← g2]
        congr 1
        omega
def isDig (c : UInt8) : Bool := decide (48 ≤ c.toNat) && decide (c.toNat ≤ 57)
def decB (d : List UInt8) : Bool := d.all isDig && (d.length == 1 || (decide (1 < d.length) && d.head? != some 48))
def valF (acc : Nat) (d : List UInt8) : Nat := d.foldl (fun n c => n * 10 + (c.toNat - 48)) acc
theorem valF_cons (acc : Nat) (c : UInt8) (d : List UInt8) : valF acc (c :: d) = valF (acc * 10 + (c.toNat - 48)) d := by unfold valF; rw [List.foldl_cons]
theorem valF_snoc (acc : Nat) (c : UInt8) (d : List UInt8) : valF acc (d ++ [c]) = valF acc d * 10 + (c.toNat - 48) := by simp [valF]
theorem valF_ge : ∀ (d : List UInt8) (acc : Nat), acc ≤ valF acc d := by
  intro d
  induction d with
  | nil => intro acc; exact Nat.le_refl _
  | cons c d ih => intro acc; have := ih (acc * 10 + (c.toNat - 48)); rw [valF_cons]; omega
theorem decB_zero {d : List UInt8} (h : decB d = true) : valF 0 d = 0 ↔ d = [48] := by
  constructor
  · intro h0
    unfold decB at h
    rw [Bool.and_eq_true, Bool.or_eq_true] at h
    obtain ⟨hd, hl⟩ := h
    cases d with
    | nil => simp at hl
    | cons c r =>
      have hc : 48 ≤ c.toNat := by
        have := List.all_eq_true.1 hd c (by simp)
        unfold isDig at this
        rw [Bool.and_eq_true, decide_eq_true_eq] at this
        exact this.1
      have hv := valF_ge r (0 * 10 + (c.toNat - 48))
      rw [valF_cons] at h0
      have hc8 : c.toNat = 48 := by omega
      have hce : c = 48 := UInt8.toNat_inj.1 hc8
      subst hce
      cases r with
      | nil => rfl
      | cons e r =>
        exfalso
        rcases hl with hl | hl
        · simp at hl
        · simp at hl
  · rintro rfl; simp [valF]
theorem parseUintM_dig : ∀ (d : List UInt8) (acc : Nat), d.all isDig = true → acc ≤ 18446744073709551615 → (Lib.parseUintM 18446744073709551615 acc d = .ok (valF acc d)) ∨ (Lib.parseUintM 18446744073709551615 acc d = .range ∧ 18446744073709551615 < valF acc d) := by
  intro d
  induction d with
  | nil => intro acc _ _; exact .inl rfl
  | cons c d ih =>
    intro acc h ha
    simp only [List.all_cons, Bool.and_eq_true] at h
    have hc : 48 ≤ c.toNat ∧ c.toNat ≤ 57 := by simpa [isDig] using h.1
    have hv := valF_ge d (acc * 10 + (c.toNat - 48))
    rw [valF_cons, Lib.parseUintM, if_pos hc]
    split
    · right; exact ⟨rfl, by omega⟩
    · split
      · right; exact ⟨rfl, by omega⟩
      · exact ih _ h.2 (by omega)
def negB (l : List UInt8) : Bool := l.head? == some 45
def digs (l : List UInt8) : List UInt8 := if l.head? = some 45 then l.drop 1 else l
def pInt (l : List UInt8) : V × Int := if decB (digs l) = false ∨ (negB l = true ∧ valF 0 (digs l) = 0) then (V.null, 2) else if 4294967296 < valF 0 (digs l) then (V.null, 1) else (⟨1, if negB l then -(valF 0 (digs l) : Int) else valF 0 (digs l), ⟨#[]⟩⟩, 0)
theorem decB_ne {d : List UInt8} (h : decB d = true) : d ≠ [] ∧ d.all isDig = true := by
  simp only [decB, Bool.and_eq_true, Bool.or_eq_true] at h
  refine ⟨?_, h.1⟩
  rintro rfl
  simp at h
theorem parseUintB_dig {d : List UInt8} (h : decB d = true) : (Lib.parseUintB 64 d = .ok (valF 0 d)) ∨ (Lib.parseUintB 64 d = .range ∧ 18446744073709551615 < valF 0 d) := by
  obtain ⟨h1, h2⟩ := decB_ne h
  unfold Lib.parseUintB
  rw [if_neg h1]
  exact parseUintM_dig d 0 h2 (by omega)
theorem parseIntB_dig {l : List UInt8} (h : decB (digs l) = true) : (Lib.parseIntB 64 l = .ok (if negB l then -(valF 0 (digs l) : Int) else valF 0 (digs l))) ∨ (Lib.parseIntB 64 l = .range ∧ 4294967296 < valF 0 (digs l)) := by
  cases l with
  | nil => simp [digs] at h; revert h; decide
  | cons c r =>
    have hu := parseUintB_dig h
    by_cases hc : c = 45
    · subst hc
      have e1 : digs (45 :: r) = r := by simp [digs]
      have e2 : negB (45 :: r) = true := by simp [negB]
      rw [e1] at hu
      rw [e1, e2]
      unfold Lib.parseIntB
      simp only [show (45 : UInt8).toNat = 45 from rfl, or_true, if_true, not_true, false_and, if_false, true_and]
      rcases hu with hu | ⟨hu, hv⟩
      · rw [hu]
        simp only
        split
        · right; exact ⟨rfl, by omega⟩
        · left; rfl
      · rw [hu]; right; exact ⟨rfl, by omega⟩
    · have e1 : digs (c :: r) = c :: r := by simp [digs, hc]
      have e2 : negB (c :: r) = false := by simp [negB, hc]
      rw [e1] at hu h
      rw [e1, e2]
      have hd := (decB_ne h).2
      simp [isDig] at hd
      have h43 : ¬ (c.toNat = 43 ∨ c.toNat = 45) := by omega
      have h45 : ¬ c.toNat = 45 := by omega
      unfold Lib.parseIntB
      simp only
      rw [if_neg h43]
      simp only [h45, if_false, not_false_eq_true, true_and, false_and]
      rcases hu with hu | ⟨hu, hv⟩
      · rw [hu]
        simp only
        split
        · right; exact ⟨rfl, by omega⟩
        · left; simp
      · rw [hu]; right; exact ⟨rfl, by omega⟩
def nullL : List UInt8 := [110, 117, 108, 108]
def parseO (l : List UInt8) : V × Int := if l = nullL then (V.null, 0) else if l.head? = some 34 then pText l else pInt l
theorem unqR_prefix : ∀ (n : Nat) (p rest : List UInt8), p.length ≤ n → (∀ c ∈ p, c ≠ 34) → unqR (p ++ 34 :: rest) = unqR (p ++ [34]) ∧ ∀ t k, unqR (p ++ [34]) = some (t, k) → k = p.length + 1 := by
  intro n
  induction n with
  | zero =>
    intro p rest hp _
    obtain rfl : p = [] := List.eq_nil_of_length_eq_zero (by omega)
    simp only [List.nil_append]
    rw [unqR_end, unqR_end]
    refine ⟨rfl, fun t k h => ?_⟩
    injection h with h
    injection h with h1 h2
    simp [← h2]
  | succ n ih =>
    intro p rest hp hq
    cases p with
    | nil =>
      simp only [List.nil_append]
      rw [unqR_end, unqR_end]
      refine ⟨rfl, fun t k h => ?_⟩
      injection h with h
      injection h with h1 h2
      simp [← h2]
    | cons c p =>
      simp only [List.length_cons] at hp
      have hc := hq c (by simp)
      by_cases h92 : c = 92
      · subst h92
        match p, hp, hq with
        | [], _, _ =>
          have hb : ¬ (0 ≤ hexI 34 ∧ True) := by rw [hexI_34]; omega
          refine ⟨?_, fun t k h => ?_⟩
          · simp only [List.cons_append, List.nil_append]
            cases rest with
            | nil => rfl
            | cons r rest => rw [unqR_bad (fun h => by rw [hexI_34] at h; omega), unqR_esc1]
          · simp only [List.cons_append, List.nil_append] at h
            rw [unqR_esc1] at h
            cases h
        | [a], _, _ =>
          refine ⟨?_, fun t k h => ?_⟩
          · simp only [List.cons_append, List.nil_append]
            rw [unqR_bad (fun h => by rw [hexI_34] at h; omega), unqR_bad (fun h => by rw [hexI_34] at h; omega)]
          · simp only [List.cons_append, List.nil_append] at h
            rw [unqR_bad (fun h => by rw [hexI_34] at h; omega)] at h
            cases h
        | a :: b :: p', hp, hq =>
          simp only [List.length_cons] at hp
          obtain ⟨i1, i2⟩ := ih p' rest (by omega) (fun x hx => hq x (by simp [hx]))
          simp only [List.cons_append]
          by_cases hh : 0 ≤ hexI a ∧ 0 ≤ hexI b ∧ plainB (hexB a b) = false
          · rw [unqR_esc hh, unqR_esc hh, i1]
            refine ⟨rfl, fun t k h => ?_⟩
            obtain ⟨⟨t', k'⟩, e1, e2⟩ := Option.map_eq_some_iff.1 h
            have := i2 t' k' e1
            simp only [Prod.mk.injEq] at e2
            simp only [List.length_cons]
            omega
          · rw [unqR_bad hh, unqR_bad hh]
            exact ⟨rfl, fun t k h => by cases h⟩
      · obtain ⟨i1, i2⟩ := ih p rest (by omega) (fun x hx => hq x (by simp [hx]))
        simp only [List.cons_append]
        cases hpl : plainB c
        · rw [unqR_odd hc h92 hpl, unqR_odd hc h92 hpl]
          exact ⟨rfl, fun t k h => by cases h⟩
        · rw [unqR_plain hpl, unqR_plain hpl, i1]
          refine ⟨rfl, fun t k h => ?_⟩
          obtain ⟨⟨t', k'⟩, e1, e2⟩ := Option.map_eq_some_iff.1 h
          have := i2 t' k' e1
          simp only [Prod.mk.injEq] at e2
          simp only [List.length_cons]
          omega
theorem unqR_open : ∀ (n : Nat) (l : List UInt8), l.length ≤ n → (∀ c ∈ l, c ≠ 34) → unqR l = none := by
  intro n l hl hq
  cases h : unqR l with
  | none => rfl
  | some x =>
    obtain ⟨t, k⟩ := x
    obtain ⟨_, h2, _⟩ := unqR_last n l hl t k h
    exact absurd rfl (hq 34 (List.mem_of_getElem? h2))
structure Tk where
  kind : Int
  text : List UInt8
  int : Int
  pos : Int
def Tk.zero : Tk := ⟨0, [], 0, 0⟩
def Tk.cells (t : Tk) : List Value := [.int .i64 t.kind, .string ⟨t.text.toArray⟩, .int .i64 t.int, .int .i64 t.pos]
def isLet (c : UInt8) : Bool := decide (97 ≤ c.toNat) && decide (c.toNat ≤ 122)
def inNm (c : UInt8) : Bool := isLet c || (isDig c || c == 95)
def nameLen : List UInt8 → Nat
  | [] => 0
  | c :: r => if isLet c then 1 + (r.takeWhile inNm).length else 0
def isNameB (s : List UInt8) : Bool := decide (s ≠ []) && (decide (s.length ≤ 16) && decide (nameLen s = s.length))
theorem takeWhile_all {p : UInt8 → Bool} : ∀ (l : List UInt8), (l.takeWhile p).length = l.length ↔ l.all p = true := by
  intro l
  induction l with
  | nil => simp
  | cons c l ih =>
    cases hp : p c
    · simp [hp]
    · simp only [List.takeWhile_cons, hp, if_true, List.length_cons, List.all_cons, Bool.true_and]
      rw [← ih]
      omega
theorem isNameB_ref (c : UInt8) (r : List UInt8) : isNameB (c :: r) = (decide ((c :: r).length ≤ 16) && (isLet c && (c :: r).all inNm)) := by
  unfold isNameB
  have e : nameLen (c :: r) = if isLet c then 1 + (r.takeWhile inNm).length else 0 := by rw [nameLen]
  rw [e]
  cases hc : isLet c
  · simp
  · have hi : inNm c = true := by unfold inNm; rw [hc]; rfl
    have ht := takeWhile_all (p := inNm) r
    rw [Bool.eq_iff_iff]
    simp only [ne_eq, List.cons_ne_nil, not_false_eq_true, decide_true, Bool.true_and, if_true, List.all_cons, hi, List.length_cons, Bool.and_eq_true, decide_eq_true_eq, ← ht]
    omega
def signL : List UInt8 := [40, 41, 44, 46, 59, 43, 45, 42, 47, 61, 60]
def signLen (s : List UInt8) : Nat := if s.take 2 = [43, 43] ∨ s.take 2 = [60, 61] then 2 else if s ≠ [] ∧ signL.contains (s.getD 0 0) = true then 1 else 0
def tokO (s : List UInt8) : Tk × Nat × Int :=
  if isLet (s.getD 0 0) then (if 16 < nameLen s then (Tk.zero, 0, 1) else (⟨1, s.take (nameLen s), 0, 0⟩, nameLen s, 0))
  else if isDig (s.getD 0 0) then (if (pInt (s.takeWhile isDig)).2 ≠ 0 then (Tk.zero, 0, (pInt (s.takeWhile isDig)).2) else (⟨2, [], (pInt (s.takeWhile isDig)).1.n, 0⟩, (s.takeWhile isDig).length, 0))
  else if s.getD 0 0 = 34 then (match unqR (s.drop 1) with
    | none => (Tk.zero, 0, 2)
    | some (t, k) => if 32 < t.length then (Tk.zero, 0, 1) else (⟨3, t, 0, 0⟩, k + 1, 0))
  else if signLen s = 0 then (Tk.zero, 0, 2) else (⟨4, s.take (signLen s), 0, 0⟩, signLen s, 0)
def skipN : Bool → List UInt8 → Nat
  | _, [] => 0
  | cm, c :: r => if c = 10 then 1 + skipN false r else if c = 32 ∨ c = 9 ∨ c = 13 then 1 + skipN cm r else if c = 35 then 1 + skipN true r else if cm then 1 + skipN true r else 0
theorem skipN_le : ∀ (s : List UInt8) (cm : Bool), skipN cm s ≤ s.length := by
  intro s
  induction s with
  | nil => intro cm; simp [skipN]
  | cons c r ih =>
    intro cm
    have h1 := ih false
    have h2 := ih cm
    have h3 := ih true
    simp only [skipN, List.length_cons]
    (repeat' split) <;> omega
theorem skipN_end : ∀ (s : List UInt8) (cm : Bool) (c : UInt8) (r : List UInt8), s.drop (skipN cm s) = c :: r → c ≠ 10 ∧ c ≠ 32 ∧ c ≠ 9 ∧ c ≠ 13 ∧ c ≠ 35 := by
  intro s
  induction s with
  | nil => intro cm c r h; simp [skipN] at h
  | cons d s ih =>
    intro cm c r h
    rw [skipN] at h
    split at h
    · rw [Nat.add_comm, List.drop_succ_cons] at h; exact ih _ c r h
    · split at h
      · rw [Nat.add_comm, List.drop_succ_cons] at h; exact ih _ c r h
      · split at h
        · rw [Nat.add_comm, List.drop_succ_cons] at h; exact ih _ c r h
        · split at h
          · rw [Nat.add_comm, List.drop_succ_cons] at h; exact ih _ c r h
          · rename_i h1 h2 h3 h4
            simp only [List.drop_zero, List.cons.injEq] at h
            obtain ⟨rfl, rfl⟩ := h
            refine ⟨h1, ?_, ?_, ?_, h3⟩ <;> intro e <;> apply h2 <;> simp [e]
def scanL : Nat → List UInt8 → Nat → List Tk → List Tk × Nat × Int
  | 0, _, _, _ => ([], 0, 0)
  | f + 1, s, pos, acc =>
    let k := skipN false s
    let r := s.drop k
    if r = [] then (acc, 0, 0)
    else
      let x := tokO r
      if x.2.2 ≠ 0 then ([], pos + k, x.2.2)
      else if acc.length = 4096 then ([], pos + k, 8)
      else scanL f (r.drop x.2.1) (pos + k + x.2.1) (acc ++ [{ x.1 with pos := ((pos + k : Nat) : Int) }])
def scanO (s : List UInt8) : List Tk × Nat × Int := if 32768 < s.length then ([], 0, 8) else scanL (s.length + 1) s 0 []
end Go.Proofs.YtpnfbehbheddeaaGreatDoor
