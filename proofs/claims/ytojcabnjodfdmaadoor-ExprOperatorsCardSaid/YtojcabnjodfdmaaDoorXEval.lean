/- The values of expressions, as the program and as the reference reckon them, in plain Lean, and that both agree. No program in sight, no condition. -/
import Derived.Test.YtojcabnjodfdmaaDoorXSpec
namespace Go.Proofs.YtojcabnjodfdmaaDoor

def numV (n : Int) : V := (V.mk 1 n ⟨#[]⟩).cl
def truthV (b : Bool) : V := numV (if b then 1 else 0)
def isTrueV (v : V) : Bool := v.k == 1 && v.n != 0
def isFalseV (v : V) : Bool := v.k == 1 && v.n == 0
def andV (a b : V) : V := if (isFalseV a || isFalseV b) = true then truthV false else if (isTrueV a && isTrueV b) = true then truthV true else V.null
def orV (a b : V) : V := if (isTrueV a || isTrueV b) = true then truthV true else if (isFalseV a && isFalseV b) = true then truthV false else V.null
def lenientV (op : Int) (a b c : V) : V := if op = 14 then andV a b else if op = 15 then orV a b else if op = 16 then truthV (a.k == 0) else if op = 17 then (if a.k = 0 then b else a) else if isTrueV a = true then b else c
def textV (op : Int) (a b : V) : V := if a.k ≠ 2 then V.null else if op = 9 then numV a.s.size else if op = 8 ∧ b.k = 2 ∧ a.s.size + b.s.size ≤ 32 then ⟨2, 0, a.s ++ b.s⟩ else if op = 10 ∧ b.k = 1 ∧ 0 ≤ b.n then ⟨2, 0, a.s.extract 0 (min b.n a.s.size).toNat⟩ else V.null
def compV (op : Int) (a b : V) : V := if a.k = 0 ∨ a.k ≠ b.k then V.null else if op = 11 then truthV (a.beq b) else truthV (decide (cmpV a b < 0))
def prodV (a b : Int) : V := if a ≠ 0 ∧ max b (-b) > (4294967296 : Int).tdiv (max a (-a)) then V.null else numV (a * b)
def quotV (a b : Int) : V := if b = 0 then V.null else if a.tmod b ≠ 0 ∧ (decide (a < 0) != decide (b < 0)) = true then numV (a.tdiv b - 1) else numV (a.tdiv b)
def numsV (op : Int) (a b : V) : V := if a.k ≠ 1 ∨ b.k ≠ 1 then V.null else if op = 3 then numV (-a.n) else if op = 13 then truthV (a.n == 0) else if op = 4 then numV (a.n + b.n) else if op = 5 then numV (a.n - b.n) else if op = 6 then prodV a.n b.n else quotV a.n b.n
/-- The value of an operator with its operands, as the program reckons it. -/
def opV (op : Int) (a b c : V) : V :=
  if op = 14 ∨ op = 15 ∨ op = 16 ∨ op = 17 ∨ op = 18 then lenientV op a b c
  else if op = 8 ∨ op = 9 ∨ op = 10 then textV op a b
  else if op = 11 ∨ op = 12 then compV op a b
  else if op = 3 ∨ op = 13 then numsV op a a
  else numsV op a b
def cellV (row : List V) (c : Int) : V := if c ≥ row.length then V.null else ((row[c.toNat]?).getD V.null).cl
def termV (row : List V) (t : T) (vs : List V) : V := if t.op = 1 then t.v else if t.op = 2 then cellV row t.c else opV t.op (vs.getD 0 V.null) (vs.getD 1 V.null) (vs.getD 2 V.null)
mutual
def X.ev (row : List V) : X → V | .node t ks => termV row t (evs row ks)
def evs (row : List V) : List X → List V
  | [] => []
  | x :: xs => x.ev row :: evs row xs
end
theorem evs_snoc (row : List V) (xs : List X) (x : X) : evs row (xs ++ [x]) = evs row xs ++ [x.ev row] := by
  induction xs with
  | nil => simp [evs]
  | cons y ys ih => simp [evs, ih]
theorem evs_len (row : List V) (xs : List X) : (evs row xs).length = xs.length := by
  induction xs with
  | nil => simp [evs]
  | cons y ys ih => simp [evs, ih]

-- as the reference has it
def truthR (v : V) : Int := if v.k ≠ 1 then -1 else if v.n = 0 then 0 else 1
def prodR (a b : Int) : V := if a ≠ 0 ∧ b ≠ 0 ∧ max a (-a) > (4294967296 : Int).tdiv (max b (-b)) then V.null else numV (a * b)
def quotR (a b : Int) : V := if b = 0 then V.null else if a.tdiv b * b ≠ a ∧ (decide (a < 0) != decide (b < 0)) = true then numV (a.tdiv b - 1) else numV (a.tdiv b)
def numsR (op : Int) (a b : Int) : V := if op = 4 then numV (a + b) else if op = 5 then numV (a - b) else if op = 6 then prodR a b else quotR a b
def threeR (op : Int) (a b : Int) : V :=
  let d : Int := if op = 15 then 1 else 0
  if a = d ∨ b = d then truthV (d == 1) else if a < 0 ∨ b < 0 then V.null else truthV (d == 0)
def textR (s : ByteArray) : V := (V.mk 2 0 s).cl
def strictR (op : Int) (a b : V) : V :=
  if op = 3 then (if a.k = 1 then numV (-a.n) else V.null)
  else if op = 13 then (if a.k = 1 then truthV (a.n == 0) else V.null)
  else if op = 4 ∨ op = 5 ∨ op = 6 ∨ op = 7 then (if a.k = 1 ∧ b.k = 1 then numsR op a.n b.n else V.null)
  else if op = 8 then (if a.k = 2 ∧ b.k = 2 then textR (a.s ++ b.s) else V.null)
  else if op = 9 then (if a.k = 2 then numV a.s.size else V.null)
  else if op = 10 then (if a.k = 2 ∧ b.k = 1 ∧ 0 ≤ b.n then textR (a.s.extract 0 (min b.n a.s.size).toNat) else V.null)
  else if op = 11 then (if a.k = b.k then truthV (a.beq b) else V.null)
  else if op = 12 then (if a.k = b.k then truthV (decide (cmpV a b < 0)) else V.null)
  else V.null
def applyR (op : Int) (vs : List V) : V :=
  if op = 14 ∨ op = 15 then threeR op (truthR (vs.getD 0 V.null)) (truthR (vs.getD 1 V.null))
  else if op = 16 then truthV ((vs.getD 0 V.null).beq V.null)
  else if op = 17 then (if (vs.getD 0 V.null).beq V.null = false then vs.getD 0 V.null else vs.getD 1 V.null)
  else if op = 18 then (if truthR (vs.getD 0 V.null) = 1 then vs.getD 1 V.null else vs.getD 2 V.null)
  else if vs.any (fun v => v.beq V.null) = true then V.null
  else strictR op (vs.getD 0 V.null) (vs.getD 1 V.null)

theorem null_k {v : V} (h : v.ok = true) : v.beq V.null = decide (v.k = 0) := by
  rw [Bool.eq_iff_iff, V.beq_iff, decide_eq_true_eq]
  constructor
  · rintro rfl; rfl
  · intro h0
    rcases V.ok_cases h with ⟨h1, h2, h3⟩ | ⟨h1, _⟩ | ⟨h1, _⟩
    · obtain ⟨k, n, s⟩ := v
      simp only at h1 h2 h3
      subst h1 h2
      unfold V.null
      congr 1
      exact bytes_ext h3
    · omega
    · omega
theorem numV_ok (n : Int) : (numV n).ok = true := V.cl_ok _
theorem truthV_ok (b : Bool) : (truthV b).ok = true := numV_ok _
theorem prod_same {a b : Int} (ha : -4294967296 ≤ a ∧ a ≤ 4294967296) (hb : -4294967296 ≤ b ∧ b ≤ 4294967296) : prodR a b = prodV a b := by
  unfold prodR prodV
  have key : ∀ x y : Int, 0 < x → 0 < y → (x > (4294967296 : Int).tdiv y ↔ x * y > 4294967296) := by
    intro x y hx hy
    rw [Int.tdiv_eq_ediv_of_nonneg (by omega)]
    constructor
    · intro h
      have := Int.lt_ediv_add_one_mul_self 4294967296 hy
      have h2 : (4294967296 / y + 1) * y ≤ x * y := Int.mul_le_mul_of_nonneg_right (by omega) (by omega)
      omega
    · intro h
      rcases Int.lt_or_le (4294967296 / y) x with h1 | h1
      · exact h1
      · exfalso
        have h2 : x * y ≤ 4294967296 / y * y := Int.mul_le_mul_of_nonneg_right h1 (by omega)
        have := Int.ediv_mul_le 4294967296 (show y ≠ 0 by omega)
        omega
  by_cases h1 : a = 0
  · subst h1; simp
  · by_cases h2 : b = 0
    · subst h2
      have e : ¬ (max (0 : Int) (-0) > (4294967296 : Int).tdiv (max a (-a))) := by
        have := Int.tdiv_nonneg (a := 4294967296) (b := max a (-a)) (by omega) (by omega)
        omega
      simp only [ne_eq, not_true, false_and, and_false, if_false]
      rw [if_neg (fun h => e h.2)]
    · have k1 := key (max a (-a)) (max b (-b)) (by omega) (by omega)
      have k2 := key (max b (-b)) (max a (-a)) (by omega) (by omega)
      have e : (max a (-a) > (4294967296 : Int).tdiv (max b (-b))) ↔ (max b (-b) > (4294967296 : Int).tdiv (max a (-a))) := by
        rw [k1, k2, Int.mul_comm]
      simp only [ne_eq, h1, h2, not_false_eq_true, true_and, e]
theorem quot_same (a b : Int) : quotR a b = quotV a b := by
  unfold quotR quotV
  have e : (a.tdiv b * b ≠ a) ↔ (a.tmod b ≠ 0) := by
    have := Int.tmod_add_mul_tdiv a b
    rw [Int.mul_comm] at this
    constructor
    · intro h h2; apply h; omega
    · intro h h2; apply h; omega
  simp only [e]
theorem ok_null {v : V} (h : v.ok = true) : v.k = 0 ∨ v.k = 1 ∨ v.k = 2 := by
  rcases V.ok_cases h with ⟨h1, _⟩ | ⟨h1, _⟩ | ⟨h1, _⟩ <;> simp [h1]
theorem ok_bounds {v : V} (h : v.ok = true) : -4294967296 ≤ v.n ∧ v.n ≤ 4294967296 := by
  rcases V.ok_cases h with ⟨_, h2, _⟩ | ⟨_, h2, h3, _⟩ | ⟨_, h2, _⟩ <;> omega
theorem ok_size {v : V} (h : v.ok = true) : v.s.size ≤ 32 := by
  rw [Lib.size_eq]
  rcases V.ok_cases h with ⟨_, _, h2⟩ | ⟨_, _, _, h2⟩ | ⟨_, _, h2⟩
  · rw [h2]; simp
  · rw [h2]; simp
  · exact h2
theorem three_and {a b : V} (ha : a.ok = true) (hb : b.ok = true) : threeR 14 (truthR a) (truthR b) = andV a b := by
  rcases ok_null ha with h | h | h <;> rcases ok_null hb with g | g | g <;> simp [threeR, truthR, andV, isFalseV, isTrueV, h, g]
  all_goals (repeat' split)
  all_goals simp_all
theorem three_or {a b : V} (ha : a.ok = true) (hb : b.ok = true) : threeR 15 (truthR a) (truthR b) = orV a b := by
  rcases ok_null ha with h | h | h <;> rcases ok_null hb with g | g | g <;> simp [threeR, truthR, orV, isFalseV, isTrueV, h, g]
  all_goals (repeat' split)
  all_goals simp_all
theorem truthR_one (a : V) : (truthR a = 1) ↔ (isTrueV a = true) := by
  unfold truthR isTrueV
  by_cases h : a.k = 1
  · by_cases g : a.n = 0 <;> simp [h, g]
  · simp [h]
theorem ok_text {s : ByteArray} (h : s.size ≤ 32) : (V.mk 2 0 s).ok = true := by simp [V.ok, h]
theorem bad_text {s : ByteArray} (h : ¬ s.size ≤ 32) : (V.mk 2 0 s).ok = false := by simp [V.ok]; omega
theorem op_same1 {op : Int} {a : V} (h3 : 3 ≤ op) (h18 : op ≤ 18) (hr : ar op = 1) (ha : a.ok = true) : applyR op [a] = opV op a V.null V.null := by
  have hop : op = 3 ∨ op = 9 ∨ op = 13 ∨ op = 16 := by
    unfold ar arity at hr
    split at hr
    · omega
    · split at hr
      · assumption
      · split at hr
        · simp at hr
        · split at hr <;> simp at hr
  have hk := null_k ha
  rcases hop with rfl | rfl | rfl | rfl
  · rcases ok_null ha with h | h | h <;> simp [applyR, opV, numsV, strictR, hk, h]
  · rcases ok_null ha with h | h | h <;> simp [applyR, opV, textV, strictR, hk, h]
  · rcases ok_null ha with h | h | h <;> simp [applyR, opV, numsV, strictR, hk, h]
  · simp [applyR, opV, lenientV, hk]
    congr 1
theorem op_same2 {op : Int} {a b : V} (h3 : 3 ≤ op) (h18 : op ≤ 18) (hr : ar op = 2) (ha : a.ok = true) (hb : b.ok = true) : applyR op [a, b] = opV op a b V.null := by
  have hop : op = 4 ∨ op = 5 ∨ op = 6 ∨ op = 7 ∨ op = 8 ∨ op = 10 ∨ op = 11 ∨ op = 12 ∨ op = 14 ∨ op = 15 ∨ op = 17 := by
    unfold ar arity at hr
    split at hr
    · simp at hr
    · split at hr
      · simp at hr
      · split at hr
        · simp at hr
        · omega
  have hka := null_k ha
  have hkb := null_k hb
  have ps := prod_same (ok_bounds ha) (ok_bounds hb)
  have qs := quot_same a.n b.n
  rcases hop with rfl | rfl | rfl | rfl | rfl | rfl | rfl | rfl | rfl | rfl | rfl
  · rcases ok_null ha with h | h | h <;> rcases ok_null hb with g | g | g <;> simp [applyR, opV, numsV, numsR, strictR, hka, hkb, h, g]
  · rcases ok_null ha with h | h | h <;> rcases ok_null hb with g | g | g <;> simp [applyR, opV, numsV, numsR, strictR, hka, hkb, h, g]
  · rcases ok_null ha with h | h | h <;> rcases ok_null hb with g | g | g <;> simp [applyR, opV, numsV, numsR, strictR, hka, hkb, h, g, ps]
  · rcases ok_null ha with h | h | h <;> rcases ok_null hb with g | g | g <;> simp [applyR, opV, numsV, numsR, strictR, hka, hkb, h, g, qs]
  · rcases ok_null ha with h | h | h <;> rcases ok_null hb with g | g | g <;> simp [applyR, opV, textV, strictR, hka, hkb, h, g]
    unfold textR
    by_cases hs : a.s.size + b.s.size ≤ 32
    · rw [if_pos hs, V.cl_of (ok_text (by rw [ByteArray.size_append]; exact hs))]
    · rw [if_neg hs, V.cl_not (bad_text (by rw [ByteArray.size_append]; exact hs))]
  · rcases ok_null ha with h | h | h <;> rcases ok_null hb with g | g | g <;> simp [applyR, opV, textV, strictR, hka, hkb, h, g]
    have hs := ok_size ha
    have : (a.s.extract 0 (min b.n a.s.size).toNat).size ≤ 32 := by
      rw [Lib.size_eq, Lib.extract_data, List.length_take, List.length_drop, ← Lib.size_eq]
      omega
    unfold textR
    rw [V.cl_of (ok_text this)]
  · rcases ok_null ha with h | h | h <;> rcases ok_null hb with g | g | g <;> simp [applyR, opV, compV, strictR, hka, hkb, h, g]
  · rcases ok_null ha with h | h | h <;> rcases ok_null hb with g | g | g <;> simp [applyR, opV, compV, strictR, hka, hkb, h, g]
  · simp [applyR, opV, lenientV, three_and ha hb]
  · simp [applyR, opV, lenientV, three_or ha hb]
  · simp [applyR, opV, lenientV, hka]
theorem op_same3 {op : Int} {a b c : V} (hr : ar op = 3) (ha : a.ok = true) : applyR op [a, b, c] = opV op a b c := by
  have hop : op = 18 := by
    unfold ar arity at hr
    split at hr
    · simp at hr
    · split at hr
      · simp at hr
      · split at hr
        · assumption
        · split at hr <;> simp at hr
  subst hop
  simp [applyR, opV, lenientV, truthR_one]
theorem opV_ok {op : Int} {a b c : V} (ha : a.ok = true) (hb : b.ok = true) (hc : c.ok = true) : (opV op a b c).ok = true := by
  have hN : ∀ o x y, (numsV o x y).ok = true := by
    intro o x y
    unfold numsV prodV quotV
    (repeat' split) <;> first | exact V.null_ok | exact numV_ok _ | exact truthV_ok _
  unfold opV
  split
  · unfold lenientV andV orV
    (repeat' split) <;> first | exact V.null_ok | exact truthV_ok _ | exact ha | exact hb | exact hc
  · split
    · unfold textV
      split
      · exact V.null_ok
      · split
        · exact numV_ok _
        · split
          · rename_i h
            exact ok_text (by rw [ByteArray.size_append]; exact h.2.2)
          · split
            · have hs := ok_size ha
              exact ok_text (by rw [Lib.size_eq, Lib.extract_data, List.length_take, List.length_drop, ← Lib.size_eq]; omega)
            · exact V.null_ok
    · split
      · unfold compV
        (repeat' split) <;> first | exact V.null_ok | exact truthV_ok _
      · split <;> exact hN _ _ _
theorem cellV_ok (row : List V) (c : Int) : (cellV row c).ok = true := by
  unfold cellV
  split
  · exact V.null_ok
  · exact V.cl_ok _
theorem getD_ok {vs : List V} (h : ∀ v ∈ vs, v.ok = true) (i : Nat) : (vs.getD i V.null).ok = true := by
  rw [List.getD_eq_getElem?_getD]
  cases h1 : vs[i]? with
  | none => exact V.null_ok
  | some v => exact h v (List.mem_of_getElem? h1)
theorem term_const {t : T} (h : t.ok = true) (h1 : t.op = 1) : t.v.ok = true ∧ t.v.k ≠ 0 ∧ t.c = 0 := by
  unfold T.ok at h
  rw [if_pos h1] at h
  simp only [Bool.and_eq_true, beq_iff_eq, bne_iff_ne] at h
  exact ⟨h.2.2.2, h.2.2.1, h.2.1⟩
mutual
theorem X.ev_ok (row : List V) (x : X) (hw : x.wf = true) : (x.ev row).ok = true := by
  match x with
  | .node t ks =>
    simp only [X.wf, Bool.and_eq_true] at hw
    have hk := evs_ok row ks hw.2.2
    rw [X.ev]
    unfold termV
    split
    · rename_i h1; exact (term_const hw.1 h1).1
    · split
      · exact cellV_ok _ _
      · exact opV_ok (getD_ok hk 0) (getD_ok hk 1) (getD_ok hk 2)
theorem evs_ok (row : List V) (xs : List X) (hw : wfs xs = true) : ∀ v ∈ evs row xs, v.ok = true := by
  match xs with
  | [] => intro v hv; simp [evs] at hv
  | x :: xs =>
    simp only [wfs, Bool.and_eq_true] at hw
    have h1 := X.ev_ok row x hw.1
    have h2 := evs_ok row xs hw.2
    intro v hv
    simp only [evs, List.mem_cons] at hv
    rcases hv with rfl | hv
    · exact h1
    · exact h2 v hv
end
/-- Operators that are neither a constant nor a column: the reference's value is the program's. -/
theorem apply_same {op : Int} {vs : List V} (h3 : 3 ≤ op) (h18 : op ≤ 18) (hl : vs.length = ar op) (hk : ∀ v ∈ vs, v.ok = true) : applyR op vs = opV op (vs.getD 0 V.null) (vs.getD 1 V.null) (vs.getD 2 V.null) := by
  have h0 : ar op ≠ 0 := by
    unfold ar arity
    split
    · omega
    · split
      · simp
      · split
        · simp
        · split
          · simp
          · omega
  match vs, hl, hk with
  | [], hl, _ => exact absurd hl.symm h0
  | [a], hl, hk => exact op_same1 h3 h18 hl.symm (hk a (by simp))
  | [a, b], hl, hk => exact op_same2 h3 h18 hl.symm (hk a (by simp)) (hk b (by simp))
  | [a, b, c], hl, hk => exact op_same3 hl.symm (hk a (by simp))
  | a :: b :: c :: d :: r, hl, _ =>
    have := ar_le op
    simp at hl
    omega
end Go.Proofs.YtojcabnjodfdmaaDoor
