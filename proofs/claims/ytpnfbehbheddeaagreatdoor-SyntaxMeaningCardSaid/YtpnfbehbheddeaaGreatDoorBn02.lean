/- Comparing values with == and !=. No condition. Contracts of Arity and of the validity of a term, of the program and of the reference. No condition. The values of expressions, as the program and as the reference reckon them, in plain Lean, and that both agree. No program in sight, no condition. The types of expressions, in plain Lean, and that values have the types. No program in sight, no condition. append(dst, src...) onto a row of the call's own, whatever the source: nil, empty or not. No condition beyond the size. What parsing the text form of a value is, in plain Lean, and that it takes back what formatting gives. No program in sight, no condition. -/
import Derived.Test.YtpnfbehbheddeaaGreatDoorBn00
import Derived.Laws.StructEq
import Derived.Test.YtpnfbehbheddeaaGreatDoorBn01
import Derived.Laws.AppendOwnNone
import Derived.Lib.ItoaNum
import Derived.Lib.ItoaLen
import Derived.Deep.RegionWith
import Derived.Test.YtpnfbehbheddeaaGreatDoorShelf
import Derived.Lib.LaidTab
import Derived.Lib.AppendIntMem
import Derived.Lib.ParseIntB
namespace Go.Proofs.YtpnfbehbheddeaaGreatDoor
set_option maxRecDepth 100000
set_option maxHeartbeats 8000000
set_option linter.unusedVariables false
set_option linter.unusedSimpArgs false
open Go.RowKit
theorem standV : Tryz.prog.stoodInHeld 36 = false := by kernel_rfl
def eqB (k n : Int) (s : ByteArray) (k' n' : Int) (s' : ByteArray) : Bool := k == k' && (n == n' && s.data.toList == s'.data.toList)
theorem run_eqV (k n : Int) (s : ByteArray) (k' n' : Int) (s' : ByteArray) (w : World) : (binOp .eql 36 (.agg #[.int .i64 k, .int .i64 n, .string s]) (.agg #[.int .i64 k', .int .i64 n', .string s'])).run Tryz.prog w = .ok (.bool (eqB k n s k' n' s')) w := by
  have hu := Tryz.underlying36
  have := standV
  simp [go_sem, this, hu, Lib.toList_data]
  unfold eqB
  by_cases h1 : k = k' <;> by_cases h2 : n = n' <;> by_cases h3 : s.data = s'.data <;> simp [h1, h2, h3]
abbrev RowT := @RowOf T T.cells
theorem RowT.at5 {w : World} {B n : Nat} {A : Option Addr} {ts : List T} (h : RowT w B A n ts) {k : Nat} (hk : k < n) :
   ∃ b off t, A = some ⟨b, off, none⟩ ∧ b < B ∧ ts[k]? = some t ∧ w.cell? ⟨b, off + k * 5, none⟩ = some (.int .i64 t.op) ∧ w.cell? ⟨b, off + k * 5 + 1, none⟩ = some (.int .i64 t.v.k) ∧ w.cell? ⟨b, off + k * 5 + 2, none⟩ = some (.int .i64 t.v.n) ∧ w.cell? ⟨b, off + k * 5 + 3, none⟩ = some (.string t.v.s) ∧ w.cell? ⟨b, off + k * 5 + 4, none⟩ = some (.int .i64 t.c) := by
  obtain ⟨b, off, t, h1, h2, h3, h4⟩ := h.at_ 5 (fun _ => rfl) (by omega) hk
  exact ⟨b, off, t, h1, h2, h3, h4 0 _ rfl, h4 1 _ rfl, h4 2 _ rfl, h4 3 _ rfl, h4 4 _ rfl⟩
theorem xarity (op : Int) (w : World) : Calls Tryz.prog 55 #[.int .i64 op] w fun e w' => e = .returned (.int .i64 (arity op)) ∧ w = w' := by
  go_enter Tryz.func55, Tryz.ntmps55
  go_wp2
  all_goals go_ret
  all_goals refine ⟨ret_int ?_, rfl⟩
  all_goals simp_all [arity]
  all_goals (first | done | omega)
def numV (n : Int) : V := (V.mk 1 n ⟨#[]⟩).cl
def truthV (b : Bool) : V := numV (if b then 1 else 0)
def isTrueV (v : V) : Bool := v.k == 1 && v.n != 0
def isFalseV (v : V) : Bool := v.k == 1 && v.n == 0
def andV (a b : V) : V := if (isFalseV a || isFalseV b) = true then truthV false else if (isTrueV a && isTrueV b) = true then truthV true else V.null
def orV (a b : V) : V := if (isTrueV a || isTrueV b) = true then truthV true else if (isFalseV a && isFalseV b) = true then truthV false else V.null
def lenientV (op : Int) (a b c : V) : V := if op = 14 then andV a b else if op = 15 then orV a b else if op = 16 then truthV (a.k == 0) else if op = 17 then (if a.k = 0 then b else a) else if isTrueV a = true then b else c
def textV (op : Int) (a b : V) : V := if a.k ≠ 2 then V.null else if op = 9 then numV a.s.size else if op = 8 ∧ b.k = 2 ∧ a.s.size + b.s.size ≤ 32 then ⟨2, 0, a.s ++ b.s⟩ else if op = 10 ∧ b.k = 1 ∧ 0 ≤ b.n then ⟨2, 0, a.s.extract 0 (min b.n a.s.size).toNat⟩ else V.null
def compV (op : Int) (a b : V) : V := if a.k = 0 ∨ a.k ≠ b.k then V.null else if op = 11 then truthV (a.beq b) else truthV (decide (cmpV a b < 0))
def prodV (a b : Int) : V := if a ≠ 0 ∧ max b (-b) > (4294967296 : Int).tdiv (max a (-a)) then V.null else numV (a * b)
def quotV (a b : Int) : V := if b = 0 then V.null else if a.tmod b ≠ 0 ∧ (decide (a < 0) != decide (b < 0)) = true then numV (a.tdiv b - 1) else numV (a.tdiv b)
def numsV (op : Int) (a b : V) : V := if a.k ≠ 1 ∨ b.k ≠ 1 then V.null else if op = 3 then numV (-a.n) else if op = 13 then truthV (a.n == 0) else if op = 4 then numV (a.n + b.n) else if op = 5 then numV (a.n - b.n) else if op = 6 then prodV a.n b.n else quotV a.n b.n
def opV (op : Int) (a b c : V) : V :=
  if op = 14 ∨ op = 15 ∨ op = 16 ∨ op = 17 ∨ op = 18 then lenientV op a b c
  else if op = 8 ∨ op = 9 ∨ op = 10 then textV op a b
  else if op = 11 ∨ op = 12 then compV op a b
  else if op = 3 ∨ op = 13 then numsV op a a
  else numsV op a b
def cellV (row : List V) (c : Int) : V := if c ≥ row.length then V.null else ((row[c.toNat]?).getD V.null).cl
def termV (row : List V) (t : T) (vs : List V) : V := if t.op = 1 then t.v else if t.op = 2 then cellV row t.c else opV t.op (vs.getD 0 V.null) (vs.getD 1 V.null) (vs.getD 2 V.null)
mutual
def X.ev (row : List V) : X → V | .node t ks => termV row t (evs row ks)
def evs (row : List V) : List X → List V
  | [] => []
  | x :: xs => x.ev row :: evs row xs
end
theorem evs_snoc (row : List V) (xs : List X) (x : X) : evs row (xs ++ [x]) = evs row xs ++ [x.ev row] := by
  induction xs with
  | nil => simp [evs]
  | cons y ys ih => simp [evs, ih]
theorem evs_len (row : List V) (xs : List X) : (evs row xs).length = xs.length := by
  induction xs with
  | nil => simp [evs]
  | cons y ys ih => simp [evs, ih]
theorem numV_ok (n : Int) : (numV n).ok = true := V.cl_ok _
theorem truthV_ok (b : Bool) : (truthV b).ok = true := numV_ok _
theorem ok_bounds {v : V} (h : v.ok = true) : -4294967296 ≤ v.n ∧ v.n ≤ 4294967296 := by
  rcases V.ok_cases h with ⟨_, h2, _⟩ | ⟨_, h2, h3, _⟩ | ⟨_, h2, _⟩ <;> omega
theorem ok_size {v : V} (h : v.ok = true) : v.s.size ≤ 32 := by
  rw [Lib.size_eq]
  rcases V.ok_cases h with ⟨_, _, h2⟩ | ⟨_, _, _, h2⟩ | ⟨_, _, h2⟩
  · rw [h2]; simp
  · rw [h2]; simp
  · exact h2
theorem ok_text {s : ByteArray} (h : s.size ≤ 32) : (V.mk 2 0 s).ok = true := by simp [V.ok, h]
theorem opV_ok {op : Int} {a b c : V} (ha : a.ok = true) (hb : b.ok = true) (hc : c.ok = true) : (opV op a b c).ok = true := by
  have hN : ∀ o x y, (numsV o x y).ok = true := by
    intro o x y
    unfold numsV prodV quotV
    (repeat' split) <;> first | exact V.null_ok | exact numV_ok _ | exact truthV_ok _
  unfold opV
  split
  · unfold lenientV andV orV
    (repeat' split) <;> first | exact V.null_ok | exact truthV_ok _ | exact ha | exact hb | exact hc
  · split
    · unfold textV
      split
      · exact V.null_ok
      · split
        · exact numV_ok _
        · split
          · rename_i h
            exact ok_text (by rw [ByteArray.size_append]; exact h.2.2)
          · split
            · have hs := ok_size ha
              exact ok_text (by rw [Lib.size_eq, Lib.extract_data, List.length_take, List.length_drop, ← Lib.size_eq]; omega)
            · exact V.null_ok
    · split
      · unfold compV
        (repeat' split) <;> first | exact V.null_ok | exact truthV_ok _
      · split <;> exact hN _ _ _
theorem cellV_ok (row : List V) (c : Int) : (cellV row c).ok = true := by
  unfold cellV
  split
  · exact V.null_ok
  · exact V.cl_ok _
theorem getD_ok {vs : List V} (h : ∀ v ∈ vs, v.ok = true) (i : Nat) : (vs.getD i V.null).ok = true := by
  rw [List.getD_eq_getElem?_getD]
  cases h1 : vs[i]? with
  | none => exact V.null_ok
  | some v => exact h v (List.mem_of_getElem? h1)
theorem term_const {t : T} (h : t.ok = true) (h1 : t.op = 1) : t.v.ok = true ∧ t.v.k ≠ 0 ∧ t.c = 0 := by
  unfold T.ok at h
  rw [if_pos h1] at h
  simp only [Bool.and_eq_true, beq_iff_eq, bne_iff_ne] at h
  exact ⟨h.2.2.2, h.2.2.1, h.2.1⟩
mutual
theorem X.ev_ok (row : List V) (x : X) (hw : x.wf = true) : (x.ev row).ok = true := by
  match x with
  | .node t ks =>
    simp only [X.wf, Bool.and_eq_true] at hw
    have hk := evs_ok row ks hw.2.2
    rw [X.ev]
    unfold termV
    split
    · rename_i h1; exact (term_const hw.1 h1).1
    · split
      · exact cellV_ok _ _
      · exact opV_ok (getD_ok hk 0) (getD_ok hk 1) (getD_ok hk 2)
theorem evs_ok (row : List V) (xs : List X) (hw : wfs xs = true) : ∀ v ∈ evs row xs, v.ok = true := by
  match xs with
  | [] => intro v hv; simp [evs] at hv
  | x :: xs =>
    simp only [wfs, Bool.and_eq_true] at hw
    have h1 := X.ev_ok row x hw.1
    have h2 := evs_ok row xs hw.2
    intro v hv
    simp only [evs, List.mem_cons] at hv
    rcases hv with rfl | hv
    · exact h1
    · exact h2 v hv
end
theorem term_op {t : T} (h : t.ok = true) : 1 ≤ t.op ∧ t.op ≤ 18 := by
  unfold T.ok at h
  rw [Bool.and_eq_true, decide_eq_true_eq] at h
  exact arity_known h.1
theorem term_col {t : T} (h : t.ok = true) (h2 : t.op = 2) : 0 ≤ t.c ∧ t.v = V.null := by
  unfold T.ok at h
  rw [if_neg (by omega), if_pos h2, Bool.and_eq_true, Bool.and_eq_true, decide_eq_true_eq, decide_eq_true_eq, V.beq_iff] at h
  exact h.2
section
variable {P : Program} {ops : Array Oper} {rest : List Oper} {o : Oper} {a : Act} {Q : Exit → Act → World → Prop} {w : World}
theorem addr_add0 (b off j : Nat) : (⟨b, off, none⟩ : Addr).add j = ⟨b, off + j, none⟩ := by
  unfold Addr.add
  split
  · subst_vars; rfl
  · simp
theorem run_appAny {t e : TypeId} {size bytes : Nat} (ST : SliceTy P t e size bytes) (ty : TypeId) {base : Nat} {v : Value} {n : Nat} {xs : List Value} (hown : w.ownsRow base e size v n xs)
    {A : Option Addr} {m c B : Nat} {news : List Value} (hl : news.length = m * size) (hr : Rd w B A news) (hnone : A = none → c = 0) (h1 : ∀ u ∈ news, u.oneCell' = true)
    (hbytes : (n + m) * bytes ≤ 140737488355328) (hbase : base ≤ w.heap.size) :
    ∃ v' w', (Builtin.append_ #[t, t] ty #[v, .slice A m c]).run P w = .ok v' w' ∧ w'.ownsRow base e size v' (n + m) (xs ++ news) ∧ w.grownBy w' v.ownBlock ∧ (v'.ownBlock = v.ownBlock ∨ v'.ownBlock = some w.heap.size) := by
  obtain ⟨i, z, h2, h3, h4, h5, h6, h7, h8, h9⟩ := ST
  have h63 : n + m ≤ maxLen := by
    have : (n + m) * 1 ≤ (n + m) * bytes := Nat.mul_le_mul_left _ h9
    unfold maxLen
    omega
  rcases A with _ | ad
  · have hc := hnone rfl
    subst hc
    have hnews : news = [] := by
      rcases news with _ | ⟨x, l⟩
      · rfl
      · obtain ⟨b, off, e', _⟩ := hr (by simp)
        cases e'
    subst hnews
    have hm : m = 0 := by
      rcases Nat.eq_zero_or_pos m with h0 | h0
      · exact h0
      · have : 1 * 1 ≤ m * size := Nat.mul_le_mul h0 h8
        simp at hl
        omega
    subst hm
    have hrun := run_append_owned_none (P := P) (w := w) base t ty e i size h2 h3 v n xs hown
    exact ⟨v, w, hrun, by simpa using hown, ⟨rfl, rfl, rfl, Nat.le_refl _, fun _ _ _ => rfl⟩, .inl rfl⟩
  · have hcells : ∀ j u, news[j]? = some u → w.cell? (ad.add j) = some u := by
      intro j u hu
      obtain ⟨b, off, e', _, hc⟩ := hr (by rintro rfl; simp at hu)
      injection e' with e'
      subst e'
      rw [addr_add0]
      exact hc j u hu
    obtain ⟨v', w', hrun, g1, g2, _, g3⟩ := run_append_own_at (P := P) w base t ty e i z size bytes h2 h3 h4 h5 h6 h7 h8 v n xs hown ad m c news hl hcells h1 h63 hbytes hbase
    exact ⟨v', w', hrun, g1, g2, g3⟩
theorem wp_appAny {K : Act → World → Prop} (s x : Operand) {t e : TypeId} {size bytes : Nat} (ST : SliceTy P t e size bytes)
    (ho : o.op = .call { callee := .builtin .append, args := #[s, x], argTypes := #[t, t] })
    {base : Nat} {v : Value} {n : Nat} {xs : List Value} (hs : a.eval s = v) (hown : w.ownsRow base e size v n xs)
    {A : Option Addr} {m c B : Nat} {news : List Value} (hx : a.eval x = .slice A m c) (hl : news.length = m * size) (hr : Rd w B A news) (hnone : A = none → c = 0) (h1 : ∀ u ∈ news, u.oneCell' = true)
    (hbytes : (n + m) * bytes ≤ 140737488355328) (hbase : base ≤ w.heap.size)
    (h : ∀ v' w', w'.ownsRow base e size v' (n + m) (xs ++ news) → w.grownBy w' v.ownBlock → (v'.ownBlock = v.ownBlock ∨ v'.ownBlock = some w.heap.size) → K (a.put o.dst v') w') :
    o.wp P a w K Q := by
  obtain ⟨v', w', hrun, g1, g2, g3⟩ := run_appAny ST o.type hown hl hr hnone h1 hbytes hbase
  unfold Oper.wp execOp
  simp only [ho, resolve, invoke, builtin, Sem.run_bind, Sem.run_pure, Result.andThen_ok, List.map_toArray, List.map_cons, List.map_nil, hs, hx, hrun]
  exact h v' w' g1 g2 g3
theorem wpList_appAny (hgd : o.guard = none) (s x : Operand) {t e : TypeId} {size bytes : Nat} (ST : SliceTy P t e size bytes)
    (ho : o.op = .call { callee := .builtin .append, args := #[s, x], argTypes := #[t, t] })
    {base : Nat} {v : Value} {n : Nat} {xs : List Value} (hs : a.eval s = v) (hown : w.ownsRow base e size v n xs)
    {A : Option Addr} {m c B : Nat} {news : List Value} (hx : a.eval x = .slice A m c) (hl : news.length = m * size) (hr : Rd w B A news) (hnone : A = none → c = 0) (h1 : ∀ u ∈ news, u.oneCell' = true)
    (hbytes : (n + m) * bytes ≤ 140737488355328) (hbase : base ≤ w.heap.size)
    (h : ∀ v' w', w'.ownsRow base e size v' (n + m) (xs ++ news) → w.grownBy w' v.ownBlock → (v'.ownBlock = v.ownBlock ∨ v'.ownBlock = some w.heap.size) → wpList P ops Q rest (a.put o.dst v') w') :
    wpList P ops Q (o :: rest) a w :=
  wpList_plain hgd fun _ hK => wp_appAny s x ST ho hs hown hx hl hr hnone h1 hbytes hbase fun v' w' h2 h3 h4 => hK _ _ (h v' w' h2 h3 h4)
end
def hexL : List UInt8 := [48, 49, 50, 51, 52, 53, 54, 55, 56, 57, 97, 98, 99, 100, 101, 102]
def hexI (c : UInt8) : Int := Lib.indexByte hexL c
theorem hexI_facts (c : UInt8) : hexI c = -1 ∨ (0 ≤ hexI c ∧ hexI c < 16) := by
  have h : ∀ k : Fin 256, hexI (UInt8.ofNat k.val) = -1 ∨ (0 ≤ hexI (UInt8.ofNat k.val) ∧ hexI (UInt8.ofNat k.val) < 16) := by decide +kernel
  have := h ⟨c.toNat, c.toNat_lt⟩
  simpa using this
theorem hexI_34 : hexI 34 = -1 := by decide +kernel
def hexB (a b : UInt8) : UInt8 := UInt8.ofNat ((hexI a).toNat * 16 + (hexI b).toNat)
theorem hexB_nat {a b : UInt8} (ha : 0 ≤ hexI a) (hb : 0 ≤ hexI b) : ((hexB a b).toNat : Int) = hexI a * 16 + hexI b := by
  have h1 := hexI_facts a
  have h2 := hexI_facts b
  unfold hexB
  rw [UInt8.toNat_ofNat', Nat.mod_eq_of_lt (by omega)]
  omega
theorem hexd_hex (c : UInt8) : 0 ≤ hexI (hexd (c.toNat / 16)) ∧ 0 ≤ hexI (hexd (c.toNat % 16)) ∧ hexB (hexd (c.toNat / 16)) (hexd (c.toNat % 16)) = c := by
  have h : ∀ k : Fin 256, 0 ≤ hexI (hexd ((UInt8.ofNat k.val).toNat / 16)) ∧ 0 ≤ hexI (hexd ((UInt8.ofNat k.val).toNat % 16)) ∧ hexB (hexd ((UInt8.ofNat k.val).toNat / 16)) (hexd ((UInt8.ofNat k.val).toNat % 16)) = UInt8.ofNat k.val := by decide +kernel
  have := h ⟨c.toNat, c.toNat_lt⟩
  simpa using this
def unqR (l : List UInt8) : Option (List UInt8 × Nat) :=
  match l with
  | [] => none
  | c :: r =>
    if c = 34 then some ([], 1)
    else if c = 92 then
      if 2 ≤ r.length ∧ 0 ≤ hexI (r.getD 0 0) ∧ 0 ≤ hexI (r.getD 1 0) ∧ plainB (hexB (r.getD 0 0) (r.getD 1 0)) = false then (unqR (r.drop 2)).map fun x => (hexB (r.getD 0 0) (r.getD 1 0) :: x.1, x.2 + 3) else none
    else if plainB c then (unqR r).map fun x => (c :: x.1, x.2 + 1) else none
termination_by l.length
decreasing_by all_goals simp; all_goals omega
theorem unqR_nil : unqR [] = none := by rw [unqR]
theorem unqR_end (r : List UInt8) : unqR (34 :: r) = some ([], 1) := by rw [unqR]; simp
theorem plain_ne {c : UInt8} (h : plainB c = true) : c ≠ 34 ∧ c ≠ 92 := by
  constructor <;> rintro rfl <;> revert h <;> decide
theorem unqR_plain {c : UInt8} (h : plainB c = true) (r : List UInt8) : unqR (c :: r) = (unqR r).map fun x => (c :: x.1, x.2 + 1) := by
  obtain ⟨h1, h2⟩ := plain_ne h
  rw [unqR, if_neg h1, if_neg h2, if_pos h]
theorem unqR_odd {c : UInt8} (h1 : c ≠ 34) (h2 : c ≠ 92) (h : plainB c = false) (r : List UInt8) : unqR (c :: r) = none := by
  rw [unqR, if_neg h1, if_neg h2, if_neg (by simp [h])]
theorem unqR_esc {a b : UInt8} (h : 0 ≤ hexI a ∧ 0 ≤ hexI b ∧ plainB (hexB a b) = false) (r : List UInt8) : unqR (92 :: a :: b :: r) = (unqR r).map fun x => (hexB a b :: x.1, x.2 + 3) := by
  rw [unqR, if_neg (by decide), if_pos rfl, if_pos ⟨by simp, h⟩]
  rfl
theorem unqR_bad {a b : UInt8} (h : ¬ (0 ≤ hexI a ∧ 0 ≤ hexI b ∧ plainB (hexB a b) = false)) (r : List UInt8) : unqR (92 :: a :: b :: r) = none := by
  rw [unqR, if_neg (by decide), if_pos rfl, if_neg (fun h' => h h'.2)]
theorem unqR_esc0 : unqR [92] = none := by rw [unqR, if_neg (by decide), if_pos rfl, if_neg (by simp)]
theorem unqR_esc1 (a : UInt8) : unqR [92, a] = none := by rw [unqR, if_neg (by decide), if_pos rfl, if_neg (by simp)]
theorem unqR_last : ∀ (n : Nat) (l : List UInt8), l.length ≤ n → ∀ t k, unqR l = some (t, k) → 1 ≤ k ∧ l[k - 1]? = some 34 ∧ t.length + 1 ≤ k ∧ k ≤ l.length := by
  intro n
  induction n with
  | zero =>
    intro l hl t k h
    obtain rfl : l = [] := List.eq_nil_of_length_eq_zero (by omega)
    rw [unqR_nil] at h
    cases h
  | succ n ih =>
    intro l hl t k h
    cases l with
    | nil => rw [unqR_nil] at h; cases h
    | cons c r =>
      simp only [List.length_cons] at hl
      by_cases h1 : c = 34
      · subst h1
        rw [unqR_end] at h
        injection h with h
        injection h with h2 h3
        subst h2 h3
        simp
      by_cases h2 : c = 92
      · subst h2
        match r, hl, h with
        | [], _, h => rw [unqR_esc0] at h; cases h
        | [a], _, h => rw [unqR_esc1] at h; cases h
        | a :: b :: r', hl, h =>
          by_cases hh : 0 ≤ hexI a ∧ 0 ≤ hexI b ∧ plainB (hexB a b) = false
          · rw [unqR_esc hh] at h
            obtain ⟨⟨t', k'⟩, e1, e2⟩ := Option.map_eq_some_iff.1 h
            simp only [List.length_cons] at hl
            obtain ⟨g1, g2, g3, g4⟩ := ih r' (by omega) t' k' e1
            simp only [Prod.mk.injEq] at e2
            obtain ⟨rfl, rfl⟩ := e2
            refine ⟨by omega, ?_, by simp only [List.length_cons]; omega, by simp only [List.length_cons]; omega⟩
            rw [show k' + 3 - 1 = (k' - 1) + 1 + 1 + 1 by omega]
            simpa using g2
          · rw [unqR_bad hh] at h; cases h
      · cases hp : plainB c
        · rw [unqR_odd h1 h2 hp] at h; cases h
        · rw [unqR_plain hp] at h
          obtain ⟨⟨t', k'⟩, e1, e2⟩ := Option.map_eq_some_iff.1 h
          obtain ⟨g1, g2, g3, g4⟩ := ih r (by omega) t' k' e1
          simp only [Prod.mk.injEq] at e2
          obtain ⟨rfl, rfl⟩ := e2
          refine ⟨by omega, ?_, by simp only [List.length_cons]; omega, by simp only [List.length_cons]; omega⟩
          rw [show k' + 1 - 1 = (k' - 1) + 1 by omega]
          simpa using g2
theorem unqR_quote : ∀ (t rest : List UInt8), unqR (t.flatMap qbyte ++ 34 :: rest) = some (t, (t.flatMap qbyte).length + 1) := by
  intro t
  induction t with
  | nil => intro rest; simp [unqR_end]
  | cons c t ih =>
    intro rest
    have h := ih rest
    cases hp : plainB c
    · obtain ⟨h1, h2, h3⟩ := hexd_hex c
      simp only [List.flatMap_cons, qbyte, hp, Bool.false_eq_true, if_false, List.cons_append, List.nil_append, List.length_cons]
      rw [unqR_esc ⟨h1, h2, by rw [h3]; exact hp⟩, h, h3]
      simp
    · simp only [List.flatMap_cons, qbyte, hp, if_true, List.cons_append, List.nil_append, List.length_cons]
      rw [unqR_plain hp, h]
      simp
def unqO (l : List UInt8) : List UInt8 × Nat := if l.head? = some 34 then (match unqR (l.drop 1) with
  | some (t, n) => (t, n + 1)
  | none => ([], 0)) else ([], 0)
def UnqR (l : List UInt8) (i : Nat) (tx : List UInt8) : Prop := unqR (l.drop 1) = (unqR (l.drop i)).map fun x => (tx ++ x.1, x.2 + (i - 1))
theorem UnqR.start (l : List UInt8) : UnqR l 1 [] := by
  unfold UnqR
  cases unqR (l.drop 1) <;> simp
theorem drop_at {l : List UInt8} {i : Nat} {c : UInt8} (hc : l[i]? = some c) : l.drop i = c :: l.drop (i + 1) := by
  obtain ⟨h1, e1⟩ := List.getElem?_eq_some_iff.1 hc
  rw [List.drop_eq_getElem_cons h1, e1]
theorem UnqR.plain {l : List UInt8} {i : Nat} {tx : List UInt8} {c : UInt8} (h : UnqR l i tx) (h1 : 1 ≤ i) (hc : l[i]? = some c) (hp : plainB c = true) : UnqR l (i + 1) (tx ++ [c]) := by
  unfold UnqR at h ⊢
  rw [h, drop_at hc, unqR_plain hp]
  cases unqR (l.drop (i + 1)) with
  | none => rfl
  | some x => simp; omega
theorem UnqR.esc {l : List UInt8} {i : Nat} {tx : List UInt8} {a b : UInt8} (h : UnqR l i tx) (h1 : 1 ≤ i) (hc : l[i]? = some 92) (ha : l[i + 1]? = some a) (hb : l[i + 2]? = some b) (hh : 0 ≤ hexI a ∧ 0 ≤ hexI b ∧ plainB (hexB a b) = false) : UnqR l (i + 3) (tx ++ [hexB a b]) := by
  unfold UnqR at h ⊢
  rw [h, drop_at hc, drop_at ha, drop_at hb, unqR_esc hh]
  cases unqR (l.drop (i + 3)) with
  | none => rfl
  | some x => simp; omega
theorem UnqR.bad {l : List UInt8} {i : Nat} {tx : List UInt8} {a b : UInt8} (h : UnqR l i tx) (hc : l[i]? = some 92) (ha : l[i + 1]? = some a) (hb : l[i + 2]? = some b) (hh : ¬ (0 ≤ hexI a ∧ 0 ≤ hexI b ∧ plainB (hexB a b) = false)) : unqR (l.drop 1) = none := by
  unfold UnqR at h
  rw [h, drop_at hc, drop_at ha, drop_at hb, unqR_bad hh]
  rfl
theorem UnqR.short {l : List UInt8} {i : Nat} {tx : List UInt8} (h : UnqR l i tx) (hc : l[i]? = some 92) (hl : l.length ≤ i + 2) : unqR (l.drop 1) = none := by
  unfold UnqR at h
  rw [h, drop_at hc]
  have : (l.drop (i + 1)).length ≤ 1 := by simp; omega
  match l.drop (i + 1), this with
  | [], _ => rw [unqR_esc0]; rfl
  | [a], _ => rw [unqR_esc1]; rfl
theorem UnqR.odd {l : List UInt8} {i : Nat} {tx : List UInt8} {c : UInt8} (h : UnqR l i tx) (hc : l[i]? = some c) (h1 : c ≠ 34) (h2 : c ≠ 92) (hp : plainB c = false) : unqR (l.drop 1) = none := by
  unfold UnqR at h
  rw [h, drop_at hc, unqR_odd h1 h2 hp]
  rfl
theorem UnqR.done {l : List UInt8} {i : Nat} {tx : List UInt8} (h : UnqR l i tx) (h1 : 1 ≤ i) (hc : l[i]? = some 34) : unqR (l.drop 1) = some (tx, i) := by
  unfold UnqR at h
  rw [h, drop_at hc, unqR_end]
  simp; omega
def pText (l : List UInt8) : V × Int := match unqR (l.drop 1) with
  | some (t, n) => if n + 1 ≠ l.length then (V.null, 2) else if 32 < t.length then (V.null, 1) else (⟨2, 0, ⟨t.toArray⟩⟩, 0)
  | none => (V.null, 2)
theorem pText_none {l : List UInt8} (h : unqR (l.drop 1) = none) : pText l = (V.null, 2) := by unfold pText; rw [h]
theorem pText_some {l t : List UInt8} {n : Nat} (h : unqR (l.drop 1) = some (t, n)) : pText l = if n + 1 ≠ l.length then (V.null, 2) else if 32 < t.length then (V.null, 1) else (⟨2, 0, ⟨t.toArray⟩⟩, 0) := by unfold pText; rw [h]
theorem pText_open {l : List UInt8} (h : l.length < 2 ∨ l[l.length - 1]? ≠ some 34) : pText l = (V.null, 2) := by
  cases hu : unqR (l.drop 1) with
  | none => exact pText_none hu
  | some x =>
    obtain ⟨t, n⟩ := x
    rw [pText_some hu]
    obtain ⟨g1, g2, _, g4⟩ := unqR_last _ _ (Nat.le_refl _) t n hu
    by_cases hn : n + 1 ≠ l.length
    · rw [if_pos hn]
    · exfalso
      have hn' : n + 1 = l.length := by omega
      rcases h with h | h
      · omega
      · apply h
        rw [List.getElem?_drop] at g2
        rw [← g2]
        congr 1
        omega
def isDig (c : UInt8) : Bool := decide (48 ≤ c.toNat) && decide (c.toNat ≤ 57)
def decB (d : List UInt8) : Bool := d.all isDig && (d.length == 1 || (decide (1 < d.length) && d.head? != some 48))
def valF (acc : Nat) (d : List UInt8) : Nat := d.foldl (fun n c => n * 10 + (c.toNat - 48)) acc
theorem valF_cons (acc : Nat) (c : UInt8) (d : List UInt8) : valF acc (c :: d) = valF (acc * 10 + (c.toNat - 48)) d := by unfold valF; rw [List.foldl_cons]
theorem valF_snoc (acc : Nat) (c : UInt8) (d : List UInt8) : valF acc (d ++ [c]) = valF acc d * 10 + (c.toNat - 48) := by simp [valF]
theorem valF_ge : ∀ (d : List UInt8) (acc : Nat), acc ≤ valF acc d := by
  intro d
  induction d with
  | nil => intro acc; exact Nat.le_refl _
  | cons c d ih => intro acc; have := ih (acc * 10 + (c.toNat - 48)); rw [valF_cons]; omega
theorem decB_zero {d : List UInt8} (h : decB d = true) : valF 0 d = 0 ↔ d = [48] := by
  constructor
  · intro h0
    unfold decB at h
    rw [Bool.and_eq_true, Bool.or_eq_true] at h
    obtain ⟨hd, hl⟩ := h
    cases d with
    | nil => simp at hl
    | cons c r =>
      have hc : 48 ≤ c.toNat := by
        have := List.all_eq_true.1 hd c (by simp)
        unfold isDig at this
        rw [Bool.and_eq_true, decide_eq_true_eq] at this
        exact this.1
      have hv := valF_ge r (0 * 10 + (c.toNat - 48))
      rw [valF_cons] at h0
      have hc8 : c.toNat = 48 := by omega
      have hce : c = 48 := UInt8.toNat_inj.1 hc8
      subst hce
      cases r with
      | nil => rfl
      | cons e r =>
        exfalso
        rcases hl with hl | hl
        · simp at hl
        · simp at hl
  · rintro rfl; simp [valF]
theorem parseUintM_dig : ∀ (d : List UInt8) (acc : Nat), d.all isDig = true → acc ≤ 18446744073709551615 → (Lib.parseUintM 18446744073709551615 acc d = .ok (valF acc d)) ∨ (Lib.parseUintM 18446744073709551615 acc d = .range ∧ 18446744073709551615 < valF acc d) := by
  intro d
  induction d with
  | nil => intro acc _ _; exact .inl rfl
  | cons c d ih =>
    intro acc h ha
    simp only [List.all_cons, Bool.and_eq_true] at h
    have hc : 48 ≤ c.toNat ∧ c.toNat ≤ 57 := by simpa [isDig] using h.1
    have hv := valF_ge d (acc * 10 + (c.toNat - 48))
    rw [valF_cons, Lib.parseUintM, if_pos hc]
    split
    · right; exact ⟨rfl, by omega⟩
    · split
      · right; exact ⟨rfl, by omega⟩
      · exact ih _ h.2 (by omega)
def negB (l : List UInt8) : Bool := l.head? == some 45
def digs (l : List UInt8) : List UInt8 := if l.head? = some 45 then l.drop 1 else l
def pInt (l : List UInt8) : V × Int := if decB (digs l) = false ∨ (negB l = true ∧ valF 0 (digs l) = 0) then (V.null, 2) else if 4294967296 < valF 0 (digs l) then (V.null, 1) else (⟨1, if negB l then -(valF 0 (digs l) : Int) else valF 0 (digs l), ⟨#[]⟩⟩, 0)
theorem decB_ne {d : List UInt8} (h : decB d = true) : d ≠ [] ∧ d.all isDig = true := by
  simp only [decB, Bool.and_eq_true, Bool.or_eq_true] at h
  refine ⟨?_, h.1⟩
  rintro rfl
  simp at h
theorem parseUintB_dig {d : List UInt8} (h : decB d = true) : (Lib.parseUintB 64 d = .ok (valF 0 d)) ∨ (Lib.parseUintB 64 d = .range ∧ 18446744073709551615 < valF 0 d) := by
  obtain ⟨h1, h2⟩ := decB_ne h
  unfold Lib.parseUintB
  rw [if_neg h1]
  exact parseUintM_dig d 0 h2 (by omega)
theorem parseIntB_dig {l : List UInt8} (h : decB (digs l) = true) : (Lib.parseIntB 64 l = .ok (if negB l then -(valF 0 (digs l) : Int) else valF 0 (digs l))) ∨ (Lib.parseIntB 64 l = .range ∧ 4294967296 < valF 0 (digs l)) := by
  cases l with
  | nil => simp [digs] at h; revert h; decide
  | cons c r =>
    have hu := parseUintB_dig h
    by_cases hc : c = 45
    · subst hc
      have e1 : digs (45 :: r) = r := by simp [digs]
      have e2 : negB (45 :: r) = true := by simp [negB]
      rw [e1] at hu
      rw [e1, e2]
      unfold Lib.parseIntB
      simp only [show (45 : UInt8).toNat = 45 from rfl, or_true, if_true, not_true, false_and, if_false, true_and]
      rcases hu with hu | ⟨hu, hv⟩
      · rw [hu]
        simp only
        split
        · right; exact ⟨rfl, by omega⟩
        · left; rfl
      · rw [hu]; right; exact ⟨rfl, by omega⟩
    · have e1 : digs (c :: r) = c :: r := by simp [digs, hc]
      have e2 : negB (c :: r) = false := by simp [negB, hc]
      rw [e1] at hu h
      rw [e1, e2]
      have hd := (decB_ne h).2
      simp [isDig] at hd
      have h43 : ¬ (c.toNat = 43 ∨ c.toNat = 45) := by omega
      have h45 : ¬ c.toNat = 45 := by omega
      unfold Lib.parseIntB
      simp only
      rw [if_neg h43]
      simp only [h45, if_false, not_false_eq_true, true_and, false_and]
      rcases hu with hu | ⟨hu, hv⟩
      · rw [hu]
        simp only
        split
        · right; exact ⟨rfl, by omega⟩
        · left; simp
      · rw [hu]; right; exact ⟨rfl, by omega⟩
def nullL : List UInt8 := [110, 117, 108, 108]
def parseO (l : List UInt8) : V × Int := if l = nullL then (V.null, 0) else if l.head? = some 34 then pText l else pInt l
end Go.Proofs.YtpnfbehbheddeaaGreatDoor
