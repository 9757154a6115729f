/- What the values of layer 1 are, in plain Lean: validity, cleaning, order. No program in sight, no condition. The order of values and rows, in plain Lean. No program in sight, no condition. Small general lemmas that the walks of this seat use: readings of slices, owned rows, worlds that only grew. No condition. Small lemmas on bytes: a string turned to bytes and back, a row of bytes of the call's own. No condition. The text form of texts, in plain Lean. No program in sight, no condition. Contracts of Valid and Clean, of the program and of the reference. No condition. Small general lemmas: worlds that grew by one row, lists that are walked one by one, new rows. No condition. Comparing values with == and !=. No condition. A function that defers a closure which only recovers: what it leaves where nothing panics. No condition. append(dst, src...) onto a row of the call's own, whatever the source: nil, empty or not. No condition beyond the size. Contracts of plain, quote and the reference's Quote: strings of at most a million bytes. Contract of the reference's Quote: strings of at most a million bytes. Contract of the reference's Digits: numbers whose absolute value is below 2^40. Contracts of Format, of the program and of the reference; the program's where the table of powers of ten is as it is laid. Contracts of Compare, of the program and of the reference, and of cmp.Compare at int64. No condition. Contracts of the tape's Next: whatever the tape holds, a number from 0 to n - 1 comes back and only the tape's own block has changed. n is below 2^40, the tape has fewer than 2^44 numbers. Contracts of the tape's Text, Int and Value: a valid value comes back, and only the tape's own block has changed. Contracts of the tape's New and Row. The tape has fewer than 2^44 numbers, rows fewer than a thousand values. -/
import Derived.Lib.Hide
import Derived.Lib.Strings
import Derived.Laws.Sem
import Derived.Lib.Small
import Derived.Lib.Bytealg
import Derived.WalkKit
import Derived.WalkSpells
import Derived.WalkLawsBesides
import Derived.Below
import Derived.Laws.ResultCell
import Derived.Laws.OwnMore
import Derived.Maps.AppendAt
import Derived.Deep.AppendLies
import Derived.Deep.Draws
import Derived.Deep.RegionHeld3
import Derived.Deep.QuietTactic
import Derived.BigQuiet
import Derived.Deep.LoopGhost
import Derived.Deep.DeepFit
import Derived.OwnWalk
import Derived.Defers
import Derived.Recover
import Derived.Test.YtojcabnjodfdmaaGreatDoorProg
import Derived.Lib.ConvBytes
import Derived.Laws.BytesArg
import Derived.Deep.Light
import Derived.Laws.StructEq
import Derived.Laws.AppendOwnNone
import Derived.Deep.RegionLaw
import Derived.Lib.ItoaNum
import Derived.Lib.ItoaLen
import Derived.Deep.RegionWith
import Derived.Test.YtojcabnjodfdmaaGreatDoorShelf
import Derived.Lib.LaidTab
import Derived.Lib.AppendIntMem
import Derived.Deep.DeepCutAuto
namespace Go.Proofs.YtojcabnjodfdmaaGreatDoor

/-- An api.Value. -/
structure V where
  k : Int
  n : Int
  s : ByteArray
def V.cells (v : V) : List Value := [.int .i64 v.k, .int .i64 v.n, .string v.s]
def V.ok (v : V) : Bool :=
  (v.k == 0 && v.n == 0 && decide (v.s.size = 0)) || (v.k == 1 && decide (-4294967296 ≤ v.n) && decide (v.n ≤ 4294967296) && decide (v.s.size = 0)) || (v.k == 2 && v.n == 0 && decide (v.s.size ≤ 32))
def V.null : V := ⟨0, 0, ⟨#[]⟩⟩
def V.cl (v : V) : V := if v.ok then v else V.null
theorem V.cl_of {v : V} (h : v.ok = true) : v.cl = v := by simp [V.cl, h]
theorem V.cl_not {v : V} (h : v.ok = false) : v.cl = V.null := by simp [V.cl, h]
theorem toList_isEmpty (s : ByteArray) : s.toList.isEmpty = decide (s.size = 0) := by
  rw [Lib.toList_data, Lib.size_eq]
  cases s.data.toList <;> simp
def rowOk (vs : List V) : Bool := decide (vs.length ≤ 16) && vs.all V.ok
def longB (vs : List V) : Bool := decide (40 < vs.length) || vs.any (fun v => decide (200 < v.s.size))
theorem V.null_ok : V.null.ok = true := by decide
theorem V.cl_ok (v : V) : v.cl.ok = true := by
  unfold V.cl
  split
  · assumption
  · exact V.null_ok
end Go.Proofs.YtojcabnjodfdmaaGreatDoor

namespace Go.Proofs.YtojcabnjodfdmaaGreatDoor
/-- The order of cleaned values. -/
def cmpC (a b : V) : Int :=
  if a.k ≠ b.k then Lib.compareInt a.k b.k else if a.k = 1 then Lib.compareInt a.n b.n else if a.k = 2 then Lib.compareBytes a.s.data.toList b.s.data.toList else 0
def cmpV (a b : V) : Int := cmpC a.cl b.cl
def cmpRows : List V → List V → Int
  | [], [] => 0
  | [], _ :: _ => -1
  | _ :: _, [] => 1
  | a :: l, b :: m => if cmpV a b ≠ 0 then cmpV a b else cmpRows l m
def V.beq (a b : V) : Bool := a.k == b.k && (a.n == b.n && a.s.data.toList == b.s.data.toList)
theorem bytes_ext {a b : ByteArray} (h : a.data.toList = b.data.toList) : a = b := by
  rw [← Lib.mk_data a, ← Lib.mk_data b, h]
theorem V.beq_iff (a b : V) : a.beq b = true ↔ a = b := by
  obtain ⟨k, n, s⟩ := a
  obtain ⟨k', n', s'⟩ := b
  simp only [V.beq, Bool.and_eq_true, beq_iff_eq, V.mk.injEq]
  constructor
  · rintro ⟨h1, h2, h3⟩; exact ⟨h1, h2, bytes_ext h3⟩
  · rintro ⟨h1, h2, h3⟩; exact ⟨h1, h2, by rw [h3]⟩
theorem V.beq_false (a b : V) : a.beq b = false ↔ a ≠ b := by
  constructor
  · intro h e
    rw [(V.beq_iff a b).2 e] at h
    cases h
  · intro h
    cases h1 : a.beq b
    · rfl
    · exact absurd ((V.beq_iff a b).1 h1) h
/-- What a cleaned value is. -/
theorem V.ok_cases {v : V} (h : v.ok = true) : (v.k = 0 ∧ v.n = 0 ∧ v.s.data.toList = []) ∨ (v.k = 1 ∧ -4294967296 ≤ v.n ∧ v.n ≤ 4294967296 ∧ v.s.data.toList = []) ∨ (v.k = 2 ∧ v.n = 0 ∧ v.s.data.toList.length ≤ 32) := by
  simp only [V.ok, Lib.size_eq, Bool.or_eq_true, Bool.and_eq_true, beq_iff_eq, decide_eq_true_eq] at h
  rcases h with (⟨⟨h1, h2⟩, h3⟩ | ⟨⟨⟨h1, h2⟩, h3⟩, h4⟩) | ⟨⟨h1, h2⟩, h3⟩
  · exact .inl ⟨h1, h2, List.eq_nil_of_length_eq_zero h3⟩
  · exact .inr (.inl ⟨h1, h2, h3, List.eq_nil_of_length_eq_zero h4⟩)
  · exact .inr (.inr ⟨h1, h2, h3⟩)
/-- The reference's order, as its text has it. -/
def cmpR (a b : V) : Int :=
  if a.beq b then 0 else if a.k < b.k ∨ (a.k = b.k ∧ (a.n < b.n ∨ Op.bytesLess a.s.data.toList b.s.data.toList = true)) then -1 else 1
theorem bytesLess_compare : ∀ (a b : List UInt8), Lib.compareBytes a b = if Op.bytesLess a b then -1 else if a = b then 0 else 1 := by
  intro a
  induction a with
  | nil => intro b; cases b <;> simp [Lib.compareBytes, Op.bytesLess]
  | cons x xs ih =>
    intro b
    cases b with
    | nil => simp [Lib.compareBytes, Op.bytesLess]
    | cons y ys =>
      simp only [Lib.compareBytes, Op.bytesLess, ih ys]
      by_cases h1 : x < y
      · simp [h1]
      · by_cases h2 : y < x
        · have h3 : x ≠ y := by rintro rfl; exact h1 h2
          simp [h1, h2, h3]
        · have h3 : x = y := by
            apply UInt8.toNat_inj.1
            rw [UInt8.lt_iff_toNat_lt] at h1 h2
            omega
          subst h3
          simp [h1]
theorem cmpR_eq {a b : V} (ha : a.ok = true) (hb : b.ok = true) : cmpR a b = cmpC a b := by
  unfold cmpR cmpC
  rw [bytesLess_compare]
  rcases V.ok_cases ha with ⟨h1, h2, h3⟩ | ⟨h1, h2, h2', h3⟩ | ⟨h1, h2, h3⟩ <;> rcases V.ok_cases hb with ⟨g1, g2, g3⟩ | ⟨g1, g2, g2', g3⟩ | ⟨g1, g2, g3⟩ <;> simp [V.beq, Lib.compareInt, h1, g1, h3, g3, Op.bytesLess]
  · simp [h2, g2]
  · by_cases h : a.n = b.n
    · simp [h]
    · by_cases h' : a.n < b.n
      · simp [h, h']
      · have : b.n < a.n := by omega
        simp [h, h', this]
  · simp only [h2, g2]
    by_cases h : a.s.data.toList = b.s.data.toList
    · rw [h]
      have : ∀ l : List UInt8, Op.bytesLess l l = false := by
        intro l
        induction l with
        | nil => rfl
        | cons x xs ih => simp [Op.bytesLess, ih]
      simp [this]
    · have h' : ¬ a.s.data = b.s.data := fun e => h (by rw [e])
      simp [h']
end Go.Proofs.YtojcabnjodfdmaaGreatDoor

namespace Go.Proofs.YtojcabnjodfdmaaGreatDoor
open Go.RowKit

theorem ret_bool {a b : Bool} (h : a = b) : Ending.returned (.bool a) = .returned (.bool b) := by rw [h]
theorem ret_int {k : IntKind} {a b : Int} (h : a = b) : Ending.returned (.int k a) = .returned (.int k b) := by rw [h]
theorem ret_str {a b : ByteArray} (h : a = b) : Ending.returned (.string a) = .returned (.string b) := by rw [h]
theorem val_str {a b : ByteArray} (h : a = b) : Value.string a = .string b := by rw [h]
theorem val_int {k : IntKind} {a b : Int} (h : a = b) : Value.int k a = .int k b := by rw [h]
theorem val_bool {a b : Bool} (h : a = b) : Value.bool a = .bool b := by rw [h]

theorem bcell {W w1 : World} (hb : Below W.heap.size W w1) : (∀ b o, b < W.heap.size → w1.cell? ⟨b, o, none⟩ = W.cell? ⟨b, o, none⟩) ∧ (∀ b o, b < W.heap.size → w1.frozen? ⟨b, o, none⟩ = W.frozen? ⟨b, o, none⟩) :=
  ⟨fun b o h => hb.cell (p := ⟨b, o, none⟩) h, fun b o h => hb.frozen (p := ⟨b, o, none⟩) h⟩
theorem below_drewN {B : Nat} {a w : World} (h : Below B a w) (n : Nat) : Below B a (w.drewN n) := ⟨h.os, h.tape, h.output, h.size, h.block⟩
/-- One call further: what the call left as it was below its own start stays below an earlier one. -/
theorem below_step {B : Nat} {a W w1 : World} (hb : Below W.heap.size W w1) (h : Below B a W) (hB : B ≤ a.heap.size) : Below B a w1 :=
  h.trans (hb.mono (Nat.le_trans hB h.size))
theorem below_step1 {a W w1 : World} (hb : Below W.heap.size W w1) (h : Below a.heap.size a W) : Below a.heap.size a w1 := below_step hb h (Nat.le_refl _)
theorem below_up {B : Nat} {a W w1 : World} (hb : Below W.heap.size W w1) (h : Below B a W) (hB : B ≤ W.heap.size) : Below B a w1 :=
  h.trans (hb.mono hB)

/-- An owned row stays as it is where a call has only made new memory. -/
theorem own_below {w w' : World} {base : Nat} {e : TypeId} {size : Nat} {v : Value} {n : Nat} {xs : List Value} (h : w.ownsRow base e size v n xs) (hb : Below w.heap.size w w') : w'.ownsRow base e size v n xs :=
  h.kept (row := none) ⟨hb.os, hb.tape, hb.output, hb.size, fun k hk _ => hb.block k hk⟩ (by cases h0 : v.ownBlock <;> simp)
theorem own_drewN {w : World} {base : Nat} {e : TypeId} {size : Nat} {v : Value} {n : Nat} {xs : List Value} (h : w.ownsRow base e size v n xs) (k : Nat) : (w.drewN k).ownsRow base e size v n xs := h
theorem own_base {w : World} {base base' : Nat} {e : TypeId} {size : Nat} {v : Value} {n : Nat} {xs : List Value} (h : w.ownsRow base e size v n xs) (hb : base' ≤ base) : w.ownsRow base' e size v n xs := by
  refine ⟨h.1, ?_⟩
  rcases h.2 with h2 | ⟨g, cap, cur, h3, h4, h5⟩
  · exact .inl h2
  · exact .inr ⟨g, cap, cur, h3, Nat.le_trans hb h4, h5⟩
theorem own_slice {w : World} {base : Nat} {e : TypeId} {size : Nat} {v : Value} {n : Nat} {xs : List Value} (h : w.ownsRow base e size v n xs) : ∃ A c, v = .slice A n c ∧ n ≤ c ∧ c ≤ maxLen := by
  rcases h.2 with ⟨rfl, rfl⟩ | ⟨g, cap, cur, rfl, _, _, h5, h6, _⟩
  · exact ⟨_, _, rfl, Nat.le_refl _, Nat.zero_le _⟩
  · exact ⟨_, _, rfl, h5, h6⟩

/-- The cells from an address on read as xs; nothing is asked where there are none. -/
def Rd (w : World) (B : Nat) (A : Option Addr) (xs : List Value) : Prop :=
  xs ≠ [] → ∃ b off, A = some ⟨b, off, none⟩ ∧ b < B ∧ ∀ j u, xs[j]? = some u → w.cell? ⟨b, off + j, none⟩ = some u
section
variable {w w' : World} {B B' : Nat} {A : Option Addr} {xs : List Value}
theorem Rd.keep (h : Rd w B A xs) (hk : ∀ p : Addr, p.block < B → w'.cell? p = w.cell? p) : Rd w' B A xs := fun hx => by
  obtain ⟨b, off, e, hb, hc⟩ := h hx
  exact ⟨b, off, e, hb, fun j u hu => (hk ⟨b, off + j, none⟩ hb).trans (hc j u hu)⟩
theorem Rd.more (h : Rd w B A xs) (hB : B ≤ B') : Rd w B' A xs := fun hx => by
  obtain ⟨b, off, e, hb, hc⟩ := h hx
  exact ⟨b, off, e, by omega, hc⟩
theorem Rd.below (h : Rd w B A xs) (hb : Below B w w') : Rd w' B A xs := h.keep fun _ hp => hb.cell hp
theorem Rd.of_own {base : Nat} {e : TypeId} {size n c : Nat} (h : w.ownsRow base e size (.slice A n c) n xs) : Rd w w.heap.size A xs := fun hx => by
  rcases h.2 with ⟨h1, rfl⟩ | ⟨g, cap, cur, h1, h2, h3, h4, h5, h6, h7⟩
  · exact absurd (List.eq_nil_of_length_eq_zero (by simpa using h.1)) hx
  · injection h1 with h1 _ _
    subst h1
    refine ⟨g, 0, rfl, ?_, fun j u hu => ?_⟩
    · rcases Nat.lt_or_ge g w.heap.size with hl | hl
      · exact hl
      · rw [Array.getElem?_eq_none hl] at h3; cases h3
    · have := h.cells (g := g) (by simp [Value.ownBlock]) j u hu
      rw [Nat.zero_add]
      have h8 : (⟨g, 0, none⟩ : Addr).add j = ⟨g, j, none⟩ := by
        unfold Addr.add
        split
        · subst_vars; rfl
        · simp
      rw [h8] at this
      exact this
end

/-- A slice of elements of sz cells each reads as the list xs. -/
structure RowOf {α : Type} (cells : α → List Value) (w : World) (B : Nat) (A : Option Addr) (n : Nat) (xs : List α) : Prop where
  len : xs.length = n
  rd : Rd w B A (xs.flatMap cells)
section
variable {α : Type} {cells : α → List Value} {w w' : World} {B B' n : Nat} {A : Option Addr} {xs : List α}
theorem flatMap_at (sz : Nat) (hsz : ∀ x, (cells x).length = sz) : ∀ (xs : List α) (k j : Nat) (x : α) (u : Value), xs[k]? = some x → (cells x)[j]? = some u → (xs.flatMap cells)[k * sz + j]? = some u := by
  intro xs
  induction xs with
  | nil => intro k j x u h; simp at h
  | cons y ys ih =>
    intro k j x u h1 h2
    cases k with
    | zero =>
      simp at h1
      subst h1
      have hj : j < (cells y).length := (List.getElem?_eq_some_iff.1 h2).1
      simp only [List.flatMap_cons, Nat.zero_mul, Nat.zero_add]
      rw [List.getElem?_append_left hj]
      exact h2
    | succ k =>
      simp at h1
      have := ih k j x u h1 h2
      simp only [List.flatMap_cons]
      rw [List.getElem?_append_right (by rw [hsz, Nat.succ_mul]; omega), hsz]
      rw [← this]
      congr 1
      rw [Nat.succ_mul]
      omega
theorem flatMap_len (sz : Nat) (hsz : ∀ x, (cells x).length = sz) : ∀ (xs : List α), (xs.flatMap cells).length = xs.length * sz := by
  intro xs
  induction xs with
  | nil => simp
  | cons y ys ih => simp only [List.flatMap_cons, List.length_append, List.length_cons, ih, hsz, Nat.succ_mul]; omega
theorem RowOf.at_ (sz : Nat) (hsz : ∀ x, (cells x).length = sz) (hp : 0 < sz) (h : RowOf cells w B A n xs) {k : Nat} (hk : k < n) :
    ∃ b off x, A = some ⟨b, off, none⟩ ∧ b < B ∧ xs[k]? = some x ∧ ∀ j u, (cells x)[j]? = some u → w.cell? ⟨b, off + k * sz + j, none⟩ = some u := by
  have hl : k < xs.length := by have := h.len; omega
  have hne : xs.flatMap cells ≠ [] := by
    intro h0
    have := congrArg List.length h0
    rw [flatMap_len sz hsz] at this
    have h2 : 1 * 1 ≤ xs.length * sz := Nat.mul_le_mul (by omega) (by omega)
    simp only [List.length_nil] at this
    omega
  obtain ⟨b, off, e, hb, hc⟩ := h.rd hne
  refine ⟨b, off, xs[k], e, hb, List.getElem?_eq_getElem hl, fun j u hu => ?_⟩
  have := hc (k * sz + j) u (flatMap_at sz hsz xs k j _ u (List.getElem?_eq_getElem hl) hu)
  rw [← Nat.add_assoc] at this
  exact this
theorem RowOf.below (h : RowOf cells w B A n xs) (hb : Below B w w') : RowOf cells w' B A n xs := ⟨h.len, h.rd.below hb⟩
theorem RowOf.more (h : RowOf cells w B A n xs) (hB : B ≤ B') : RowOf cells w B' A n xs := ⟨h.len, h.rd.more hB⟩
theorem RowOf.keep (h : RowOf cells w B A n xs) (hk : ∀ p : Addr, p.block < B → w'.cell? p = w.cell? p) : RowOf cells w' B A n xs := ⟨h.len, h.rd.keep hk⟩
theorem RowOf.drew (h : RowOf cells w B A n xs) : RowOf cells w.drew B A n xs := ⟨h.len, h.rd⟩
theorem RowOf.alloc (h : RowOf cells w B A n xs) (hB : B ≤ w.heap.size) (o : Obj) : RowOf cells (w.alloc o) B A n xs :=
  h.keep fun p hp => World.cell?_alloc_lt w o p (by omega)
theorem RowOf.nil_ : RowOf cells w B A 0 [] := ⟨rfl, fun h => absurd rfl h⟩
theorem RowOf.of_own {base : Nat} {e : TypeId} {size c : Nat} (h : w.ownsRow base e size (.slice A n c) n (xs.flatMap cells)) (hn : xs.length = n) : RowOf cells w w.heap.size A n xs := ⟨hn, Rd.of_own h⟩
end

/-- What an append asks of the types: a slice type, its element's size in cells and bytes. -/
def SliceTy (P : Program) (t e : TypeId) (size bytes : Nat) : Prop :=
  ∃ i z, P.underlying t = some (.slice e) ∧ P.info? e = some i ∧ i.zero = some z ∧ i.size = size ∧ i.bytes = bytes ∧ z.cells.size = size ∧ 0 < size ∧ 0 < bytes
theorem SliceTy.mk' {P : Program} {t e : TypeId} {size bytes : Nat} {z : Value} (hu : P.underlying t = some (.slice e))
    (h : (P.info? e).map (fun i => (i.zero, i.size, i.bytes)) = some (some z, size, bytes)) (hz : z.cells.size = size) (hs : 0 < size) (hb : 0 < bytes) : SliceTy P t e size bytes := by
  obtain ⟨i, h0, h1, h2, h3⟩ := info_parts h
  exact ⟨i, z, hu, h0, h1, h2, h3, hz, hs, hb⟩

section
variable {P : Program} {ops : Array Oper} {rest : List Oper} {o : Oper} {a : Act} {Q : Exit → Act → World → Prop} {W : World} {cs : Array Value} {te : TypeId}
theorem new_cells (W : World) (cs : Array Value) (te : TypeId) : ∀ j u, cs.toList[j]? = some u → (W.alloc (.cells cs te)).cell? ((⟨W.heap.size, 0, none⟩ : Addr).add j) = some u := by
  intro j u hu
  have h := cell_of_row (W.alloc (.cells cs te)) W.heap.size j cs te (0, 0) (heap_alloc_new W _)
  simp only [Addr.add]
  split
  · subst_vars; rw [h]; simpa using hu
  · rw [Nat.zero_add, h]; simpa using hu

/-- append of cells that were just laid, onto a row of the call's own. -/
theorem wp_app {K : Act → World → Prop} (s x : Operand) {t e : TypeId} {size bytes : Nat} (ST : SliceTy P t e size bytes)
    (ho : o.op = .call { callee := .builtin .append, args := #[s, x], argTypes := #[t, t] })
    {base : Nat} {v : Value} {n : Nat} {xs : List Value} (hs : a.eval s = v) (hown : W.ownsRow base e size v n xs)
    {g m c : Nat} (hx : a.eval x = .slice (some ⟨g, 0, none⟩) m c) (hgq : g = W.heap.size) (hl : cs.size = m * size) (h1 : ∀ u ∈ cs.toList, u.oneCell' = true)
    (hbytes : (n + m) * bytes ≤ 140737488355328) (hbase : base ≤ W.heap.size)
    (h : ∀ v' w', w'.ownsRow base e size v' (n + m) (xs ++ cs.toList) → W.grownBy w' v.ownBlock → (v'.ownBlock = v.ownBlock ∨ v'.ownBlock = some (W.heap.size + 1)) → K (a.put o.dst v') w') :
    o.wp P a (W.alloc (.cells cs te)) K Q := by
  subst hgq
  obtain ⟨i, z, h2, h3, h4, h5, h6, h7, h8, h9⟩ := ST
  have h63 : n + m ≤ maxLen := by
    have : (n + m) * 1 ≤ (n + m) * bytes := Nat.mul_le_mul_left _ h9
    unfold maxLen
    omega
  obtain ⟨v', w', hrun, g1, g2, _, g3⟩ := run_append_own_at (P := P) (W.alloc (.cells cs te)) base t o.type e i z size bytes h2 h3 h4 h5 h6 h7 h8 v n xs (hown.alloc _) ⟨W.heap.size, 0, none⟩ m c cs.toList (by simpa using hl) (new_cells W cs te) h1 h63 hbytes (by simp; omega)
  unfold Oper.wp execOp
  simp only [ho, resolve, invoke, builtin, Sem.run_bind, Sem.run_pure, Result.andThen_ok, List.map_toArray, List.map_cons, List.map_nil, hs, hx, hrun]
  refine h v' w' g1 ⟨g2.os, g2.tape, g2.output, Nat.le_trans (by simp) g2.size, fun k hk hne => (g2.block k (by simp; omega) hne).trans (Below.heap_alloc W _ k hk)⟩ (by simpa using g3)
theorem wpList_app (hgd : o.guard = none) (s x : Operand) {t e : TypeId} {size bytes : Nat} (ST : SliceTy P t e size bytes)
    (ho : o.op = .call { callee := .builtin .append, args := #[s, x], argTypes := #[t, t] })
    {base : Nat} {v : Value} {n : Nat} {xs : List Value} (hs : a.eval s = v) (hown : W.ownsRow base e size v n xs)
    {g m c : Nat} (hx : a.eval x = .slice (some ⟨g, 0, none⟩) m c) (hgq : g = W.heap.size) (hl : cs.size = m * size) (h1 : ∀ u ∈ cs.toList, u.oneCell' = true)
    (hbytes : (n + m) * bytes ≤ 140737488355328) (hbase : base ≤ W.heap.size)
    (h : ∀ v' w', w'.ownsRow base e size v' (n + m) (xs ++ cs.toList) → W.grownBy w' v.ownBlock → (v'.ownBlock = v.ownBlock ∨ v'.ownBlock = some (W.heap.size + 1)) → wpList P ops Q rest (a.put o.dst v') w') :
    wpList P ops Q (o :: rest) a (W.alloc (.cells cs te)) :=
  wpList_plain hgd fun _ hK => wp_app s x ST ho hs hown hx hgq hl h1 hbytes hbase fun v' w' h2 h3 h4 => hK _ _ (h v' w' h2 h3 h4)
theorem step_app {K : Act → World → Prop} {E : Prop} (hgd : o.guard = none) (s x : Operand) {t e : TypeId} {size bytes : Nat} (ST : SliceTy P t e size bytes)
    (ho : o.op = .call { callee := .builtin .append, args := #[s, x], argTypes := #[t, t] })
    {base : Nat} {v : Value} {n : Nat} {xs : List Value} (hs : a.eval s = v) (hown : W.ownsRow base e size v n xs)
    {g m c : Nat} (hx : a.eval x = .slice (some ⟨g, 0, none⟩) m c) (hgq : g = W.heap.size) (hl : cs.size = m * size) (h1 : ∀ u ∈ cs.toList, u.oneCell' = true)
    (hbytes : (n + m) * bytes ≤ 140737488355328) (hbase : base ≤ W.heap.size)
    (h : ∀ v' w', w'.ownsRow base e size v' (n + m) (xs ++ cs.toList) → W.grownBy w' v.ownBlock → (v'.ownBlock = v.ownBlock ∨ v'.ownBlock = some (W.heap.size + 1)) → K (a.put o.dst v') w') :
    if Region.wanted o (yielded ops a.tmps) = true then Oper.wp P o a (W.alloc (.cells cs te)) K Q else E := by
  have hw : Region.wanted o (yielded ops a.tmps) = true := by simp [Region.wanted, hgd]
  rw [if_pos hw]
  exact wp_app s x ST ho hs hown hx hgq hl h1 hbytes hbase h
/-- The same behind the region's draw. -/
theorem step_appD {K : Act → World → Prop} {E : Prop} (hgd : o.guard = none) (s x : Operand) {t e : TypeId} {size bytes : Nat} (ST : SliceTy P t e size bytes)
    (ho : o.op = .call { callee := .builtin .append, args := #[s, x], argTypes := #[t, t] })
    {base : Nat} {v : Value} {n : Nat} {xs : List Value} (hs : a.eval s = v) (hown : W.ownsRow base e size v n xs)
    {g m c : Nat} (hx : a.eval x = .slice (some ⟨g, 0, none⟩) m c) (hgq : g = W.heap.size) (hl : cs.size = m * size) (h1 : ∀ u ∈ cs.toList, u.oneCell' = true)
    (hbytes : (n + m) * bytes ≤ 140737488355328) (hbase : base ≤ W.heap.size)
    (h : ∀ v' w', w'.ownsRow base e size v' (n + m) (xs ++ cs.toList) → W.grownBy w' v.ownBlock → (v'.ownBlock = v.ownBlock ∨ v'.ownBlock = some (W.heap.size + 1)) → K (a.put o.dst v') w') :
    if Region.wanted o (yielded ops a.tmps) = true then Oper.wp P o a (W.alloc (.cells cs te)).drew K Q else E :=
  step_app (W := W.drew) hgd s x ST ho hs hown hx hgq hl h1 hbytes hbase fun v' w' h2 h3 h4 => h v' w' h2 ⟨h3.os, h3.tape, h3.output, h3.size, h3.block⟩ h4
end
/-- Behind an append onto a row from base on, what lies below base is as it was. -/
theorem below_app {base B : Nat} {e : TypeId} {size n : Nat} {v : Value} {xs : List Value} {a W w' : World} (h : Below B a W) (hown : W.ownsRow base e size v n xs) (hg : W.grownBy w' v.ownBlock) (hB : B ≤ base) (hW : B ≤ W.heap.size) : Below B a w' :=
  h.grown hg hW fun k hk => Nat.le_trans hB (hown.lt k hk).1

/-- For a region that draws its order: every world on the way only adds to the one at its head. -/
theorem ext_refl (W : World) : Below W.heap.size W W.drew ∧ ∀ b o, b < W.heap.size → W.drew.cell? ⟨b, o, none⟩ = W.cell? ⟨b, o, none⟩ := ⟨(Below.refl _ _).drew, fun _ _ _ => rfl⟩
theorem ext_step {W w w1 : World} (hb : Below w.heap.size w w1) (h : Below W.heap.size W w ∧ ∀ b o, b < W.heap.size → w.cell? ⟨b, o, none⟩ = W.cell? ⟨b, o, none⟩) :
    Below W.heap.size W w1 ∧ ∀ b o, b < W.heap.size → w1.cell? ⟨b, o, none⟩ = W.cell? ⟨b, o, none⟩ := by
  have h1 := below_step hb h.1 (Nat.le_refl _)
  exact ⟨h1, fun b o hb => h1.cell (p := ⟨b, o, none⟩) hb⟩
theorem ext_drew {W w : World} (h : Below W.heap.size W w ∧ ∀ b o, b < W.heap.size → w.cell? ⟨b, o, none⟩ = W.cell? ⟨b, o, none⟩) :
    Below W.heap.size W w.drew ∧ ∀ b o, b < W.heap.size → w.drew.cell? ⟨b, o, none⟩ = W.cell? ⟨b, o, none⟩ := ⟨h.1.drew, h.2⟩
theorem ext_alloc {W w : World} (h : Below W.heap.size W w ∧ ∀ b o, b < W.heap.size → w.cell? ⟨b, o, none⟩ = W.cell? ⟨b, o, none⟩) (o : Obj) :
    Below W.heap.size W (w.alloc o) ∧ ∀ b o', b < W.heap.size → (w.alloc o).cell? ⟨b, o', none⟩ = W.cell? ⟨b, o', none⟩ := by
  have h1 := h.1.alloc h.1.size o
  exact ⟨h1, fun b o hb => h1.cell (p := ⟨b, o, none⟩) hb⟩
end Go.Proofs.YtojcabnjodfdmaaGreatDoor

namespace Go.Proofs.YtojcabnjodfdmaaGreatDoor
open Go.RowKit

def bcells (l : List UInt8) : List Value := l.map fun c => .int .u8 c.toNat
theorem bcells_len (l : List UInt8) : (bcells l).length = l.length := by simp [bcells]
theorem bcells_append (a b : List UInt8) : bcells (a ++ b) = bcells a ++ bcells b := by simp [bcells]
theorem bcells_at {l : List UInt8} {k : Nat} {c : UInt8} (h : l[k]? = some c) : (bcells l)[k]? = some (.int .u8 c.toNat) := by simp [bcells, h]
theorem bcells_one (l : List UInt8) : ∀ u ∈ bcells l, u.oneCell' = true := by
  intro u hu
  obtain ⟨c, _, rfl⟩ := List.mem_map.1 hu
  rfl

theorem own_new (w : World) (cs : Array Value) (e : TypeId) (size n : Nat) (hn : n ≤ maxLen) (hs : cs.size = n * size) : (w.alloc (.cells cs e)).ownsRow w.heap.size e size (.slice (some ⟨w.heap.size, 0, none⟩) n n) n cs.toList :=
  ⟨by simpa using hs, .inr ⟨w.heap.size, n, cs, rfl, Nat.le_refl _, heap_alloc_new w _, Nat.le_refl _, hn, hs, by rw [← hs, ← Array.length_toList, List.take_length]⟩⟩
theorem grown_bytes (W : World) (e : TypeId) (s : ByteArray) (row : Option Nat) : W.grownBy (Lib.bytesWorld W e s) row :=
  ⟨rfl, rfl, rfl, by rw [Lib.bytesWorld_size]; omega, fun k hk _ => Lib.bytesWorld_at_old W e s k hk⟩
theorem below_bytes {B : Nat} {a W : World} (h : Below B a W) (hB : B ≤ W.heap.size) (e : TypeId) (s : ByteArray) : Below B a (Lib.bytesWorld W e s) :=
  h.grown (grown_bytes W e s none) hB (fun k hk => by cases hk)
theorem own_bytes {W : World} {base : Nat} {t : TypeId} {size n : Nat} {v : Value} {xs : List Value} (h : W.ownsRow base t size v n xs) (e : TypeId) (s : ByteArray) : (Lib.bytesWorld W e s).ownsRow base t size v n xs :=
  h.kept (grown_bytes W e s none) (by cases v.ownBlock <;> simp)
theorem rd_bytes (W : World) (e : TypeId) (s : ByteArray) : Rd (Lib.bytesWorld W e s) (W.heap.size + 1) (some ⟨W.heap.size, 0, none⟩) (bcells s.data.toList) := fun _ => by
  refine ⟨W.heap.size, 0, rfl, by omega, fun j u hu => ?_⟩
  have hj : j < s.data.toList.length := by
    have := (List.getElem?_eq_some_iff.1 hu).1
    rwa [bcells_len] at this
  rw [Nat.zero_add, Lib.bytesWorld_cell W e s j (by rw [Lib.size_eq]; exact hj), ← hu, bcells_at (List.getElem?_eq_getElem hj), List.getD, List.getElem?_eq_getElem hj]
  rfl
theorem Rd.grownAt {w w' : World} {B g off : Nat} {row : Option Nat} {xs : List Value} (h : Rd w B (some ⟨g, off, none⟩) xs) (hg : w.grownBy w' row) (hl : g < w.heap.size) (hne : some g ≠ row) : Rd w' B (some ⟨g, off, none⟩) xs := fun hx => by
  obtain ⟨b, o, e, hb, hc⟩ := h hx
  injection e with e
  injection e with e1 e2 _
  subst e1
  subst e2
  exact ⟨g, off, rfl, hb, fun j u hu => (World.cell?_of_block (hg.block g hl hne)).trans (hc j u hu)⟩
/-- One byte of a row of bytes. -/
theorem Rd.byte {w : World} {B g off : Nat} {l : List UInt8} {k : Nat} {c : UInt8} (h : Rd w B (some ⟨g, off, none⟩) (bcells l)) (hc : l[k]? = some c) : w.cell? ⟨g, off + k, none⟩ = some (.int .u8 c.toNat) := by
  have hk := bcells_at hc
  have hne : bcells l ≠ [] := by intro h0; rw [h0] at hk; simp at hk
  obtain ⟨b, o, e, hb, hcell⟩ := h hne
  injection e with e
  injection e with e1 e2 _
  subst e1
  subst e2
  exact hcell k _ hk
/-- string(b), b a row of the call's own. -/
theorem run_toStr {w : World} {base n : Nat} {v : Value} {l : List UInt8} (h : w.ownsRow base 5 1 v n (bcells l)) : (convert 115 9 v).run Tryz.prog w = .ok (.string ⟨l.toArray⟩) w := by
  have hl : l.length = n := by have := h.1; rw [bcells_len] at this; omega
  rcases h.2 with ⟨rfl, rfl⟩ | ⟨g, cap, cur, rfl, _, hg, _⟩
  · have : l = [] := List.eq_nil_of_length_eq_zero hl
    subst this
    exact run_convert_bytes_nil w 115 5 Tryz.underlying115 Tryz.underlying5 0 0 9 Tryz.underlying9
  · have hc := h.cells (g := g) (by simp [Value.ownBlock])
    have hr := run_convert_bytes_arg (P := Tryz.prog) w 115 5 Tryz.underlying115 Tryz.underlying5 g 0 n cap (l.map fun c => (c.toNat : Int)) (by simpa using hl) (fun i hi => by
      have hil : i < l.length := by omega
      have := hc i _ (bcells_at (List.getElem?_eq_getElem hil))
      have h8 : (⟨g, 0, none⟩ : Addr).add i = ⟨g, 0 + i, none⟩ := by
        unfold Addr.add
        split
        · subst_vars; rfl
        · simp
      rw [h8] at this
      rw [this]
      simp [List.getD, hil]) 9 Tryz.underlying9
    have he : strOfNums (l.map fun c => (c.toNat : Int)) = ⟨l.toArray⟩ := by simp [strOfNums, Function.comp_def]
    rw [hr, he]
theorem run_toBytes (w : World) (s : ByteArray) : (convert 9 115 (.string s)).run Tryz.prog w = .ok (.slice (some ⟨w.heap.size, 0, none⟩) s.size (grownCap w s.size 0 5)) (Lib.bytesWorld w 5 s) :=
  Lib.run_convert_string_bytes (P := Tryz.prog) w 9 115 5 s Tryz.underlying9 Tryz.underlying115 Tryz.underlying5
theorem stB : SliceTy Tryz.prog 115 5 1 1 := SliceTy.mk' Tryz.underlying115 (z := .int .u8 0) (by kernel_rfl) rfl (by decide) (by decide)

/-- A row of bytes of the call's own. -/
def OwnB (w : World) (base : Nat) (o : Value) (l : List UInt8) : Prop := w.ownsRow base 5 1 o l.length (bcells l)
theorem OwnB.nil_ (w : World) (base : Nat) : OwnB w base (.slice none 0 0) [] := World.ownsRow_nil _ _ _ _
/-- The row behind an append, in the words of bytes. -/
theorem own_more {w : World} {base : Nat} {v : Value} {l m : List UInt8} {cs : List Value} {k : Nat} (h : w.ownsRow base 5 1 v (l.length + k) (bcells l ++ cs)) (hc : cs = bcells m) (hk : m.length = k) : OwnB w base v (l ++ m) := by
  subst hc
  subst hk
  unfold OwnB
  rw [List.length_append, bcells_append]
  exact h
theorem OwnB.below {w w' : World} {base : Nat} {o : Value} {l : List UInt8} (h : OwnB w base o l) (hb : Below w.heap.size w w') : OwnB w' base o l := own_below h hb
theorem OwnB.base {w : World} {base base' : Nat} {o : Value} {l : List UInt8} (h : OwnB w base o l) (hb : base' ≤ base) : OwnB w base' o l := own_base h hb
theorem OwnB.alloc {w : World} {base : Nat} {o : Value} {l : List UInt8} (h : OwnB w base o l) (x : Obj) : OwnB (w.alloc x) base o l := World.ownsRow.alloc h x

def hexd (n : Nat) : UInt8 := (#[48, 49, 50, 51, 52, 53, 54, 55, 56, 57, 97, 98, 99, 100, 101, 102] : Array UInt8).getD n 0
set_option maxRecDepth 10000 in
theorem run_hex (n : Int) (h0 : 0 ≤ n) (h1 : n < 16) (w : World) : (Instr.index 9 (.string { data := #[48, 49, 50, 51, 52, 53, 54, 55, 56, 57, 97, 98, 99, 100, 101, 102] }) (.int .u8 n)).run Tryz.prog w = .ok (.int .u8 (hexd n.toNat).toNat) w := by
  have hx : ∀ k : Fin 16, (Instr.index 9 (.string { data := #[48, 49, 50, 51, 52, 53, 54, 55, 56, 57, 97, 98, 99, 100, 101, 102] }) (.int .u8 (k.val : Int))).run Tryz.prog w = .ok (.int .u8 (hexd k.val).toNat) w := by
    intro k
    have h2 : (k.val : Int) < 16 := by omega
    have h3 := k.isLt
    simp [go_sem, h2, hexd]
    congr 1
  obtain ⟨m, rfl⟩ := Int.eq_ofNat_of_zero_le h0
  exact hx ⟨m, by omega⟩
theorem hi4 (c : UInt8) : (0:Int) ≤ (c.toNat:Int) / 16 ∧ (c.toNat:Int) / 16 < 16 := by have := c.toNat_lt; omega
theorem lo4 (c : UInt8) : (0:Int) ≤ (c.toNat:Int) % 16 ∧ (c.toNat:Int) % 16 < 16 := by omega
theorem and15 (c : UInt8) : bits .and .u8 (c.toNat : Int) 15 = (c.toNat : Int) % 16 := by
  have h : ∀ k : Fin 256, bits .and .u8 (k.val : Int) 15 = (k.val : Int) % 16 := by decide +kernel
  exact h ⟨c.toNat, c.toNat_lt⟩
theorem wrap16 (c : UInt8) : IntKind.u8.wrap ((c.toNat : Int) / 16) = (c.toNat : Int) / 16 := by
  have h : ∀ k : Fin 256, IntKind.u8.wrap ((k.val : Int) / 16) = (k.val : Int) / 16 := by decide +kernel
  exact h ⟨c.toNat, c.toNat_lt⟩
end Go.Proofs.YtojcabnjodfdmaaGreatDoor

namespace Go.Proofs.YtojcabnjodfdmaaGreatDoor
def plainB (c : UInt8) : Bool := decide (32 ≤ c.toNat) && (decide (c.toNat ≤ 126) && ((c.toNat != 34) && (c.toNat != 92)))
def qbyte (c : UInt8) : List UInt8 := if plainB c then [c] else [92, hexd (c.toNat / 16), hexd (c.toNat % 16)]
def quoteL (l : List UInt8) : List UInt8 := 34 :: l.flatMap qbyte ++ [34]
theorem qbyte_len (c : UInt8) : (qbyte c).length ≤ 3 := by unfold qbyte; split <;> simp
theorem flat_len : ∀ l : List UInt8, (l.flatMap qbyte).length ≤ 3 * l.length := by
  intro l
  induction l with
  | nil => simp
  | cons c l ih => have := qbyte_len c; simp only [List.flatMap_cons, List.length_append, List.length_cons]; omega
end Go.Proofs.YtojcabnjodfdmaaGreatDoor

namespace Go.Proofs.YtojcabnjodfdmaaGreatDoor
open Go.RowKit

abbrev Row := @RowOf V V.cells
theorem Row.at3 {w : World} {B n : Nat} {A : Option Addr} {vs : List V} (h : Row w B A n vs) {k : Nat} (hk : k < n) :
   ∃ b off v, A = some ⟨b, off, none⟩ ∧ b < B ∧ vs[k]? = some v ∧ w.cell? ⟨b, off + k * 3, none⟩ = some (.int .i64 v.k) ∧ w.cell? ⟨b, off + k * 3 + 1, none⟩ = some (.int .i64 v.n) ∧ w.cell? ⟨b, off + k * 3 + 2, none⟩ = some (.string v.s) := by
  obtain ⟨b, off, v, h1, h2, h3, h4⟩ := h.at_ 3 (fun _ => rfl) (by omega) hk
  exact ⟨b, off, v, h1, h2, h3, h4 0 _ rfl, h4 1 _ rfl, h4 2 _ rfl⟩
theorem stV : SliceTy Tryz.prog 31 38 3 32 := SliceTy.mk' Tryz.underlying31 (z := .agg #[.int .i64 0, .int .i64 0, .string ⟨#[]⟩]) (by kernel_rfl) rfl (by decide) (by decide)

set_option maxHeartbeats 400000 in
theorem vvalid (v : V) (w : World) : Calls Tryz.prog 64 #[.agg #[.int .i64 v.k, .int .i64 v.n, .string v.s]] w fun e w' => e = .returned (.bool v.ok) ∧ Below w.heap.size w w' := by
  go_enter Tryz.func64, Tryz.ntmps64
  go_wp2
  all_goals go_ret
  all_goals refine ⟨ret_bool ?_, (Below.refl _ _).alloc (Nat.le_refl _) _⟩
  all_goals simp_all [V.ok, toList_isEmpty]
  all_goals omega
set_option maxHeartbeats 400000 in
theorem rvalid (v : V) (w : World) : Calls Tryz.prog 74 #[.agg #[.int .i64 v.k, .int .i64 v.n, .string v.s]] w fun e w' => e = .returned (.bool v.ok) ∧ Below w.heap.size w w' := by
  go_enter Tryz.func74, Tryz.ntmps74
  go_wp2
  all_goals go_ret
  all_goals refine ⟨ret_bool ?_, (Below.refl _ _).alloc (Nat.le_refl _) _⟩
  all_goals simp_all [V.ok, toList_isEmpty]
  all_goals omega
set_option maxHeartbeats 400000 in
theorem vclean (v : V) (w : World) : Calls Tryz.prog 65 #[.agg #[.int .i64 v.k, .int .i64 v.n, .string v.s]] w fun e w' => e = .returned (.agg #[.int .i64 v.cl.k, .int .i64 v.cl.n, .string v.cl.s]) ∧ Below w.heap.size w w' := by
  generalize hv : v.ok = b
  have HV := Lib.hid hv
  cases b
  · rw [V.cl_not hv]
    clear hv
    go_enter Tryz.func65, Tryz.ntmps65
    go_wp2_with (go_at_call 64; refine (vvalid v _).mono ?_; rintro e w1 ⟨rfl, hb⟩; rw [HV.out]; obtain ⟨hc1, hf1⟩ := bcell hb; have hz1 := (hb).size; try simp at hz1)
    refine bodyPost_ret (by simp [results, Tryz.results65, go_sem, hc1]; rfl) rfl ?_
    exact ⟨rfl, by (repeat (first | (with_reducible exact Below.refl _ _) | (with_reducible assumption) | (with_reducible refine Below.drew ?_) | (with_reducible refine below_drewN ?_ _) | ((with_reducible refine Below.setCell ?_ ?_ _); rotate_left; (focus (first | (simp; done) | (simp; omega) | omega))) | ((with_reducible refine Below.alloc ?_ ?_ _); rotate_left; (focus (first | (simp; done) | (simp; omega) | omega))) | ((with_reducible apply below_step1); (focus (with_reducible assumption)))))⟩
  · rw [V.cl_of hv]
    clear hv
    go_enter Tryz.func65, Tryz.ntmps65
    go_wp2_with (go_at_call 64; refine (vvalid v _).mono ?_; rintro e w1 ⟨rfl, hb⟩; rw [HV.out]; obtain ⟨hc1, hf1⟩ := bcell hb; have hz1 := (hb).size; try simp at hz1)
    refine bodyPost_ret (by simp [results, Tryz.results65, go_sem, hc1]; rfl) rfl ?_
    exact ⟨rfl, by (repeat (first | (with_reducible exact Below.refl _ _) | (with_reducible assumption) | (with_reducible refine Below.drew ?_) | (with_reducible refine below_drewN ?_ _) | ((with_reducible refine Below.setCell ?_ ?_ _); rotate_left; (focus (first | (simp; done) | (simp; omega) | omega))) | ((with_reducible refine Below.alloc ?_ ?_ _); rotate_left; (focus (first | (simp; done) | (simp; omega) | omega))) | ((with_reducible apply below_step1); (focus (with_reducible assumption)))))⟩
set_option maxHeartbeats 400000 in
theorem rclean (v : V) (w : World) : Calls Tryz.prog 53 #[.agg #[.int .i64 v.k, .int .i64 v.n, .string v.s]] w fun e w' => e = .returned (.agg #[.int .i64 v.cl.k, .int .i64 v.cl.n, .string v.cl.s]) ∧ Below w.heap.size w w' := by
  generalize hv : v.ok = b
  have HV := Lib.hid hv
  cases b
  · rw [V.cl_not hv]
    clear hv
    go_enter Tryz.func53, Tryz.ntmps53
    go_wp2_with (go_at_call 74; refine (rvalid v _).mono ?_; rintro e w1 ⟨rfl, hb⟩; rw [HV.out]; obtain ⟨hc1, hf1⟩ := bcell hb; have hz1 := (hb).size; try simp at hz1)
    refine bodyPost_ret (by simp [results, Tryz.results53, go_sem, hc1]; rfl) rfl ?_
    exact ⟨rfl, by (repeat (first | (with_reducible exact Below.refl _ _) | (with_reducible assumption) | (with_reducible refine Below.drew ?_) | (with_reducible refine below_drewN ?_ _) | ((with_reducible refine Below.setCell ?_ ?_ _); rotate_left; (focus (first | (simp; done) | (simp; omega) | omega))) | ((with_reducible refine Below.alloc ?_ ?_ _); rotate_left; (focus (first | (simp; done) | (simp; omega) | omega))) | ((with_reducible apply below_step1); (focus (with_reducible assumption)))))⟩
  · rw [V.cl_of hv]
    clear hv
    go_enter Tryz.func53, Tryz.ntmps53
    go_wp2_with (go_at_call 74; refine (rvalid v _).mono ?_; rintro e w1 ⟨rfl, hb⟩; rw [HV.out]; obtain ⟨hc1, hf1⟩ := bcell hb; have hz1 := (hb).size; try simp at hz1)
    refine bodyPost_ret (by simp [results, Tryz.results53, go_sem, hc1]; rfl) rfl ?_
    exact ⟨rfl, by (repeat (first | (with_reducible exact Below.refl _ _) | (with_reducible assumption) | (with_reducible refine Below.drew ?_) | (with_reducible refine below_drewN ?_ _) | ((with_reducible refine Below.setCell ?_ ?_ _); rotate_left; (focus (first | (simp; done) | (simp; omega) | omega))) | ((with_reducible refine Below.alloc ?_ ?_ _); rotate_left; (focus (first | (simp; done) | (simp; omega) | omega))) | ((with_reducible apply below_step1); (focus (with_reducible assumption)))))⟩
end Go.Proofs.YtojcabnjodfdmaaGreatDoor

namespace Go.Proofs.YtojcabnjodfdmaaGreatDoor
open Go.RowKit

/-- Two appends one behind the other: what is no row of the call's own stays. -/
theorem grown_two {w w1 w2 : World} {r r1 : Option Nat} {m : Nat} (h : w.grownBy w1 r) (hr : r1 = r ∨ r1 = some m) (hm : w.heap.size ≤ m) (h1 : w1.grownBy w2 r1) : w.grownBy w2 r :=
  ⟨h1.os.trans h.os, h1.tape.trans h.tape, h1.output.trans h.output, Nat.le_trans h.size h1.size, fun k hk hne => (h1.block k (Nat.lt_of_lt_of_le hk h.size) (by
    rcases hr with e | e
    · rw [e]; exact hne
    · rw [e]; intro h0; injection h0 with h0; omega)).trans (h.block k hk hne)⟩
theorem grown_at {w w1 w2 : World} {r r1 : Option Nat} (h : w.grownBy w1 r) (hr : r1 = r ∨ ∃ g, r1 = some g ∧ w.heap.size ≤ g) (h1 : w1.grownBy w2 r1) : w.grownBy w2 r := by
  rcases hr with e | ⟨g, e, hg⟩
  · exact grown_two h (.inl e) (Nat.le_refl _) h1
  · exact grown_two h (.inr e) hg h1
theorem grown_alloc {w w1 : World} {r : Option Nat} {o : Obj} (h : (w.alloc o).grownBy w1 r) : w.grownBy w1 r :=
  ⟨h.os, h.tape, h.output, Nat.le_trans (by simp) h.size, fun k hk hne => (h.block k (by simp; omega) hne).trans (Below.heap_alloc w o k hk)⟩
theorem take_any_succ {α : Type} (p : α → Bool) (l : List α) (k : Nat) (v : α) (h : l[k]? = some v) : (l.take (k + 1)).any p = ((l.take k).any p || p v) := by
  rw [List.take_add_one, h]; simp
theorem take_all_succ {α : Type} (p : α → Bool) (l : List α) (k : Nat) (v : α) (h : l[k]? = some v) : (l.take (k + 1)).all p = ((l.take k).all p && p v) := by
  rw [List.take_add_one, h]; simp
theorem any_of_at {α : Type} (p : α → Bool) (l : List α) (k : Nat) (v : α) (h : l[k]? = some v) (hp : p v = true) : l.any p = true :=
  List.any_eq_true.2 ⟨v, List.mem_of_getElem? h, hp⟩
theorem all_not_at {α : Type} (p : α → Bool) (l : List α) (k : Nat) (v : α) (h : l[k]? = some v) (hp : p v = false) : l.all p = false := by
  rw [Bool.eq_false_iff]
  intro h1
  have := List.all_eq_true.1 h1 v (List.mem_of_getElem? h)
  rw [hp] at this
  cases this
theorem row_new (w : World) (cs : Array Value) (t : TypeId) (n : Nat) (vs : List V) (hn : vs.length = n) (hc : cs.toList = vs.flatMap V.cells) : Row (w.alloc (.cells cs t)) (w.heap.size + 1) (some ⟨w.heap.size, 0, none⟩) n vs := by
  refine ⟨hn, fun _ => ⟨w.heap.size, 0, rfl, by omega, fun j u hu => ?_⟩⟩
  rw [← hc] at hu
  have := new_cells w cs t j u hu
  have h8 : (⟨w.heap.size, 0, none⟩ : Addr).add j = ⟨w.heap.size, 0 + j, none⟩ := by
    unfold Addr.add
    split
    · subst_vars; rfl
    · simp
  rwa [h8] at this
end Go.Proofs.YtojcabnjodfdmaaGreatDoor

namespace Go.Proofs.YtojcabnjodfdmaaGreatDoor
open Go.RowKit

theorem standV : Tryz.prog.stoodInHeld 38 = false := by kernel_rfl
def eqB (k n : Int) (s : ByteArray) (k' n' : Int) (s' : ByteArray) : Bool := k == k' && (n == n' && s.data.toList == s'.data.toList)
theorem run_eqV (k n : Int) (s : ByteArray) (k' n' : Int) (s' : ByteArray) (w : World) : (binOp .eql 38 (.agg #[.int .i64 k, .int .i64 n, .string s]) (.agg #[.int .i64 k', .int .i64 n', .string s'])).run Tryz.prog w = .ok (.bool (eqB k n s k' n' s')) w := by
  have hu := Tryz.underlying38
  have := standV
  simp [go_sem, this, hu, Lib.toList_data]
  unfold eqB
  by_cases h1 : k = k' <;> by_cases h2 : n = n' <;> by_cases h3 : s.data = s'.data <;> simp [h1, h2, h3]
theorem run_neqV (k n : Int) (s : ByteArray) (k' n' : Int) (s' : ByteArray) (w : World) : (binOp .neq 38 (.agg #[.int .i64 k, .int .i64 n, .string s]) (.agg #[.int .i64 k', .int .i64 n', .string s'])).run Tryz.prog w = .ok (.bool (!eqB k n s k' n' s')) w := by
  have hu := Tryz.underlying38
  have := standV
  simp [go_sem, this, hu, Lib.toList_data]
  unfold eqB
  by_cases h1 : k = k' <;> by_cases h2 : n = n' <;> by_cases h3 : s.data = s'.data <;> simp [h1, h2, h3]

end Go.Proofs.YtojcabnjodfdmaaGreatDoor

namespace Go.Proofs.YtojcabnjodfdmaaGreatDoor
open Go.RowKit
theorem leave_idle {P : Program} {fn : Func} {f : FuncId} {tmps : Array Value} {R : Ending → World → Prop} {w : World} {v : Value}
    (idle : ∀ w, CallsD P f #[] .returning w fun e u' w' => e = .returned (.tuple #[]) ∧ u' = .returning ∧ w' = w)
    (hi : (invoke (.fn (.func f) #[]) #[]).run P w = .ok (.enter f #[]) w) (hr : (results fn tmps).run P w = .ok v w) (h : R (.returned v) w) :
    bodyPostD P fn R .ret { tmps := tmps, defers := [{ target := .fn (.func f) #[], args := #[] }] } w := by
  show Leaves P fn tmps R [{ target := .fn (.func f) #[], args := #[] }] .returning w
  refine leaves_cons (f := f) (args := #[]) (by simp) hi ?_
  refine (idle w).mono ?_
  rintro e u' w'' ⟨rfl, rfl, rfl⟩
  exact ⟨v, hr, h⟩
end Go.Proofs.YtojcabnjodfdmaaGreatDoor

namespace Go.Proofs.YtojcabnjodfdmaaGreatDoor
open Go.RowKit
section
variable {P : Program} {ops : Array Oper} {rest : List Oper} {o : Oper} {a : Act} {Q : Exit → Act → World → Prop} {w : World}
theorem addr_add0 (b off j : Nat) : (⟨b, off, none⟩ : Addr).add j = ⟨b, off + j, none⟩ := by
  unfold Addr.add
  split
  · subst_vars; rfl
  · simp
theorem run_appAny {t e : TypeId} {size bytes : Nat} (ST : SliceTy P t e size bytes) (ty : TypeId) {base : Nat} {v : Value} {n : Nat} {xs : List Value} (hown : w.ownsRow base e size v n xs)
    {A : Option Addr} {m c B : Nat} {news : List Value} (hl : news.length = m * size) (hr : Rd w B A news) (hnone : A = none → c = 0) (h1 : ∀ u ∈ news, u.oneCell' = true)
    (hbytes : (n + m) * bytes ≤ 140737488355328) (hbase : base ≤ w.heap.size) :
    ∃ v' w', (Builtin.append_ #[t, t] ty #[v, .slice A m c]).run P w = .ok v' w' ∧ w'.ownsRow base e size v' (n + m) (xs ++ news) ∧ w.grownBy w' v.ownBlock ∧ (v'.ownBlock = v.ownBlock ∨ v'.ownBlock = some w.heap.size) := by
  obtain ⟨i, z, h2, h3, h4, h5, h6, h7, h8, h9⟩ := ST
  have h63 : n + m ≤ maxLen := by
    have : (n + m) * 1 ≤ (n + m) * bytes := Nat.mul_le_mul_left _ h9
    unfold maxLen
    omega
  rcases A with _ | ad
  · have hc := hnone rfl
    subst hc
    have hnews : news = [] := by
      rcases news with _ | ⟨x, l⟩
      · rfl
      · obtain ⟨b, off, e', _⟩ := hr (by simp)
        cases e'
    subst hnews
    have hm : m = 0 := by
      rcases Nat.eq_zero_or_pos m with h0 | h0
      · exact h0
      · have : 1 * 1 ≤ m * size := Nat.mul_le_mul h0 h8
        simp at hl
        omega
    subst hm
    have hrun := run_append_owned_none (P := P) (w := w) base t ty e i size h2 h3 v n xs hown
    exact ⟨v, w, hrun, by simpa using hown, ⟨rfl, rfl, rfl, Nat.le_refl _, fun _ _ _ => rfl⟩, .inl rfl⟩
  · have hcells : ∀ j u, news[j]? = some u → w.cell? (ad.add j) = some u := by
      intro j u hu
      obtain ⟨b, off, e', _, hc⟩ := hr (by rintro rfl; simp at hu)
      injection e' with e'
      subst e'
      rw [addr_add0]
      exact hc j u hu
    obtain ⟨v', w', hrun, g1, g2, _, g3⟩ := run_append_own_at (P := P) w base t ty e i z size bytes h2 h3 h4 h5 h6 h7 h8 v n xs hown ad m c news hl hcells h1 h63 hbytes hbase
    exact ⟨v', w', hrun, g1, g2, g3⟩
theorem wp_appAny {K : Act → World → Prop} (s x : Operand) {t e : TypeId} {size bytes : Nat} (ST : SliceTy P t e size bytes)
    (ho : o.op = .call { callee := .builtin .append, args := #[s, x], argTypes := #[t, t] })
    {base : Nat} {v : Value} {n : Nat} {xs : List Value} (hs : a.eval s = v) (hown : w.ownsRow base e size v n xs)
    {A : Option Addr} {m c B : Nat} {news : List Value} (hx : a.eval x = .slice A m c) (hl : news.length = m * size) (hr : Rd w B A news) (hnone : A = none → c = 0) (h1 : ∀ u ∈ news, u.oneCell' = true)
    (hbytes : (n + m) * bytes ≤ 140737488355328) (hbase : base ≤ w.heap.size)
    (h : ∀ v' w', w'.ownsRow base e size v' (n + m) (xs ++ news) → w.grownBy w' v.ownBlock → (v'.ownBlock = v.ownBlock ∨ v'.ownBlock = some w.heap.size) → K (a.put o.dst v') w') :
    o.wp P a w K Q := by
  obtain ⟨v', w', hrun, g1, g2, g3⟩ := run_appAny ST o.type hown hl hr hnone h1 hbytes hbase
  unfold Oper.wp execOp
  simp only [ho, resolve, invoke, builtin, Sem.run_bind, Sem.run_pure, Result.andThen_ok, List.map_toArray, List.map_cons, List.map_nil, hs, hx, hrun]
  exact h v' w' g1 g2 g3
theorem wpList_appAny (hgd : o.guard = none) (s x : Operand) {t e : TypeId} {size bytes : Nat} (ST : SliceTy P t e size bytes)
    (ho : o.op = .call { callee := .builtin .append, args := #[s, x], argTypes := #[t, t] })
    {base : Nat} {v : Value} {n : Nat} {xs : List Value} (hs : a.eval s = v) (hown : w.ownsRow base e size v n xs)
    {A : Option Addr} {m c B : Nat} {news : List Value} (hx : a.eval x = .slice A m c) (hl : news.length = m * size) (hr : Rd w B A news) (hnone : A = none → c = 0) (h1 : ∀ u ∈ news, u.oneCell' = true)
    (hbytes : (n + m) * bytes ≤ 140737488355328) (hbase : base ≤ w.heap.size)
    (h : ∀ v' w', w'.ownsRow base e size v' (n + m) (xs ++ news) → w.grownBy w' v.ownBlock → (v'.ownBlock = v.ownBlock ∨ v'.ownBlock = some w.heap.size) → wpList P ops Q rest (a.put o.dst v') w') :
    wpList P ops Q (o :: rest) a w :=
  wpList_plain hgd fun _ hK => wp_appAny s x ST ho hs hown hx hl hr hnone h1 hbytes hbase fun v' w' h2 h3 h4 => hK _ _ (h v' w' h2 h3 h4)
end
end Go.Proofs.YtojcabnjodfdmaaGreatDoor

namespace Go.Proofs.YtojcabnjodfdmaaGreatDoor
open Go.RowKit

set_option maxHeartbeats 400000 in
theorem plain_c (c : UInt8) (w : World) : Calls Tryz.prog 111 #[.int .u8 c.toNat] w fun e w' => e = .returned (.bool (plainB c)) ∧ w = w' := by
  go_enter Tryz.func111, Tryz.ntmps111
  go_wp2
  all_goals go_ret
  all_goals refine ⟨ret_bool ?_, rfl⟩
  · have h1 : (c.toNat : Int) = 34 := by assumption
    have h2 : c.toNat = 34 := by omega
    simp [plainB, h2]
  · have h1 : 32 ≤ (c.toNat : Int) := by assumption
    have h2 : (c.toNat : Int) ≤ 126 := by assumption
    have h3 : 32 ≤ c.toNat := by omega
    have h4 : c.toNat ≤ 126 := by omega
    have e1 : ((c.toNat : Int) != 34) = (c.toNat != 34) := by rw [Bool.eq_iff_iff]; simp; omega
    have e2 : ((c.toNat : Int) != 92) = (c.toNat != 92) := by rw [Bool.eq_iff_iff]; simp; omega
    show ((c.toNat : Int) != 34 && (c.toNat : Int) != 92) = plainB c
    rw [e1, e2]
    simp [plainB, h3, h4]
  · have h1 : 126 < (c.toNat : Int) := by assumption
    have h2 : ¬ c.toNat ≤ 126 := by omega
    simp [plainB, h2]
  · have h1 : (c.toNat : Int) < 32 := by assumption
    have h2 : ¬ 32 ≤ c.toNat := by omega
    simp [plainB, h2]

/-- What a round of quoting leaves: the row grows by the byte's text. -/
theorem quote_step {l : List UInt8} {k : Nat} {c : UInt8} (h : l[k]? = some c) : (34 :: (l.take (k + 1)).flatMap qbyte : List UInt8) = (34 :: (l.take k).flatMap qbyte) ++ qbyte c := by
  rw [List.take_add_one, h]; simp
theorem qcells (c : UInt8) (h : plainB c = false) : bcells (qbyte c) = [.int .u8 92, .int .u8 (hexd ((c.toNat : Int) / 16).toNat).toNat, .int .u8 (hexd ((c.toNat : Int) % 16).toNat).toNat] := by
  have h1 : ((c.toNat : Int) / 16).toNat = c.toNat / 16 := by omega
  have h2 : ((c.toNat : Int) % 16).toNat = c.toNat % 16 := by omega
  simp [qbyte, h, bcells, h1, h2]
theorem qcells1 (c : UInt8) (h : plainB c = true) : bcells (qbyte c) = [.int .u8 c.toNat] := by simp [qbyte, h, bcells]

set_option maxRecDepth 100000 in
set_option maxHeartbeats 1000000 in
theorem quote_c (s : ByteArray) (w : World) (hs : s.size ≤ 1000000) : Calls Tryz.prog 96 #[.string s] w fun e w' => e = .returned (.string ⟨(quoteL s.data.toList).toArray⟩) ∧ Below w.heap.size w w' := by
  have hcv := run_toBytes
  go_enter Tryz.func96, Tryz.ntmps96
  go_wp2
  clear hcv
  go_loopw [3, 10] (fun v i wr => ∃ k : Nat, k ≤ s.size ∧ i = .int .i64 k ∧ wr.ownsRow w.heap.size 5 1 v (34 :: (s.data.toList.take k).flatMap qbyte).length (bcells (34 :: (s.data.toList.take k).flatMap qbyte)) ∧ Below w.heap.size w wr ∧ Rd wr (w.heap.size + 2) (some ⟨w.heap.size + 1, 0, none⟩) (bcells s.data.toList) ∧ v.ownBlock ≠ some (w.heap.size + 1) ∧ w.heap.size + 2 ≤ wr.heap.size) (fun _ i _ => s.size - (intOf i).toNat)
  case atStart =>
    refine ⟨0, Nat.zero_le _, rfl, own_bytes (own_new w #[.int .u8 34] 5 1 1 (by decide) rfl) _ _, below_bytes ((Below.refl _ _).alloc (Nat.le_refl _) _) (by simp) _ _, ?_, by simp [Value.ownBlock], by rw [Lib.bytesWorld_size]; simp⟩
    have := rd_bytes (w.alloc (.cells #[.int .u8 34] 5)) 5 s
    simpa using this
  case round =>
    obtain ⟨k, hk, rfl, hown, hbel, hrd, hne, hz⟩ := hrel
    have hzz := hbel.size
    have hlen := flat_len (s.data.toList.take k)
    have hlt2 : (s.data.toList.take k).length ≤ k := List.length_take_le _ _
    have hL : (34 :: (s.data.toList.take k).flatMap qbyte).length ≤ 3000001 := by simp only [List.length_cons]; omega
    generalize hN : (34 :: (s.data.toList.take k).flatMap qbyte).length = N at hown hL
    have HN := Lib.hid hN
    clear hlen hlt2 hN
    by_cases hlt : k < s.size
    · have hl : k < s.data.toList.length := by rw [← Lib.size_eq]; exact hlt
      obtain ⟨c, hc⟩ : ∃ c, s.data.toList[k]? = some c := ⟨_, List.getElem?_eq_getElem hl⟩
      have hx := hrd.byte hc
      simp only [Nat.zero_add] at hx
      have HC := Lib.hid hc
      clear hc hl
      cases hp : plainB c
      · have HP := Lib.hid hp
        clear hp
        have i1 := run_hex ((c.toNat : Int) / 16) (hi4 c).1 (hi4 c).2
        have i2 := run_hex ((c.toNat : Int) % 16) (lo4 c).1 (lo4 c).2
        have a1 := and15 c
        go_wp2_with (go_at_call 111; refine (plain_c c _).mono ?_; rintro e w1 ⟨rfl, rfl⟩; rw [HP.out])
        go_region_law (first | (refine step_appD rfl _ _ stB rfl rfl hown rfl (by simp) rfl (by simp [Value.oneCell']) (by omega) (by omega) ?_; intro v' w2 hown' hg' hat'))
        all_goals have hbel' : Below w.heap.size w w2 := below_app hbel hown hg' (Nat.le_refl _) (by omega)
        all_goals have hrd' := hrd.grownAt hg' (by omega) (Ne.symm hne)
        all_goals have hz' := hg'.size
        all_goals go_wp2
        all_goals go_roundw
        all_goals (try (case measure => simp [intOf]; omega))
        all_goals refine ⟨k + 1, by omega, by go_num, ?_, hbel', hrd', ?_, by omega⟩
        all_goals (try (rw [quote_step HC.out, bcells_append, qcells c HP.out, List.length_append, HN.out, show (qbyte c).length = 3 from by simp [qbyte, HP.out]]; exact hown'))
        all_goals (rcases hat' with e | e <;> rw [e] <;> first | exact hne | (intro h; injection h with h; omega))
      · have HP := Lib.hid hp
        clear hp
        go_wp2_with (first
          | (go_at_call 111; refine (plain_c c _).mono ?_; rintro e w1 ⟨rfl, rfl⟩; rw [HP.out])
          | (at_builtin; refine wpList_app rfl _ _ stB rfl rfl hown rfl (by simp) rfl (by simp [Value.oneCell']) (by omega) (by omega) ?_; intro v' w2 hown' hg' hat'))
        all_goals have hbel' : Below w.heap.size w w2 := below_app hbel hown hg' (Nat.le_refl _) (by omega)
        all_goals have hrd' := hrd.grownAt hg' (by omega) (Ne.symm hne)
        all_goals have hz' := hg'.size
        all_goals go_wp2
        all_goals go_roundw
        all_goals (try (case measure => simp [intOf]; omega))
        all_goals refine ⟨k + 1, by omega, by go_num, ?_, hbel', hrd', ?_, by omega⟩
        all_goals (try (rw [quote_step HC.out, bcells_append, qcells1 c HP.out, List.length_append, HN.out, show (qbyte c).length = 1 from by simp [qbyte, HP.out]]; exact hown'))
        all_goals (rcases hat' with e | e <;> rw [e] <;> first | exact hne | (intro h; injection h with h; omega))
    · have hfin : s.data.toList.take k = s.data.toList := List.take_of_length_le (by rw [← Lib.size_eq]; omega)
      rw [hfin] at hown
      clear hfin
      go_wp2_with (at_builtin; refine wpList_app rfl _ _ stB rfl rfl hown rfl (by simp) rfl (by simp [Value.oneCell']) (by omega) (by omega) ?_; intro v' w2 hown' hg' hat'; have hts := run_toStr (l := quoteL s.data.toList) (by simpa [quoteL, bcells] using hown'))
      go_ret
      exact ⟨rfl, below_app hbel hown hg' (Nat.le_refl _) (by omega)⟩
end Go.Proofs.YtojcabnjodfdmaaGreatDoor

namespace Go.Proofs.YtojcabnjodfdmaaGreatDoor
open Go.RowKit

/-- s[k]. -/
theorem run_idx {s : ByteArray} {k : Nat} {c : UInt8} (h : s.data.toList[k]? = some c) (w : World) : (Instr.index 9 (.string s) (.int .i64 (k : Int))).run Tryz.prog w = .ok (.int .u8 c.toNat) w := by
  have hk : k < s.data.toList.length := (List.getElem?_eq_some_iff.1 h).1
  have hk2 : k < s.size := by rw [Lib.size_eq]; exact hk
  have he := (List.getElem?_eq_some_iff.1 h).2
  simp [go_sem, hk2]
  show (s.data[k].toNat : Int) = c.toNat
  rw [← he]
  simp

end Go.Proofs.YtojcabnjodfdmaaGreatDoor

namespace Go.Proofs.YtojcabnjodfdmaaGreatDoor
open Go.RowKit

/-- string([]byte{d}), wherever the byte lies. -/
theorem run_toStr1 (d : UInt8) (W : World) (g : Nat) (h : W.cell? ⟨g, 0, none⟩ = some (.int .u8 d.toNat)) : (convert 115 9 (.slice (some ⟨g, 0, none⟩) 1 1)).run Tryz.prog W = .ok (.string ⟨#[d]⟩) W := by
  have hr := run_convert_bytes_arg (P := Tryz.prog) W 115 5 Tryz.underlying115 Tryz.underlying5 g 0 1 1 [(d.toNat : Int)] rfl (fun i hi => by
    obtain rfl : i = 0 := by omega
    simpa using h) 9 Tryz.underlying9
  rw [hr]
  simp [strOfNums]

def dig (u : Nat) : UInt8 := UInt8.ofNat (48 + u % 10)
theorem dig_nat (u : Nat) : ((dig u).toNat : Int) = 48 + (u : Int) % 10 := by
  unfold dig
  rw [UInt8.toNat_ofNat', Nat.mod_eq_of_lt (by omega)]
  omega

end Go.Proofs.YtojcabnjodfdmaaGreatDoor

namespace Go.Proofs.YtojcabnjodfdmaaGreatDoor
open Go.RowKit

/-- The library's table of powers of ten is as it is laid. -/
structure G (w : World) : Prop where
  tab : Lib.TabIs Tryz.prog w "internal/strconv.uint64pow10" .u64 Lib.pow10Tab
theorem G.below {w w' : World} (h : G w) (hb : Below w.heap.size w w') : G w' := ⟨Lib.tabBelow_of_tabIs h.tab w' hb⟩
theorem below_grow {w w' : World} (h : ∃ k os, w' = Sort.grow (w.drewN k) os) : Below w.heap.size w w' := by
  obtain ⟨k, os, rfl⟩ := h
  refine ⟨rfl, rfl, rfl, ?_, fun i hi => ?_⟩
  · show w.heap.size ≤ (w.heap ++ os).size
    simp
  · show (w.heap ++ os)[i]? = _
    rw [Array.getElem?_append_left hi]

def fmtV (v : V) : List UInt8 := if v.cl.k = 1 then Lib.itoa v.cl.n else if v.cl.k = 2 then quoteL v.cl.s.data.toList else [110, 117, 108, 108]
theorem cl_bounds (v : V) : -4294967296 ≤ v.cl.n ∧ v.cl.n ≤ 4294967296 ∧ v.cl.s.size ≤ 32 := by
  have h := V.ok_cases v.cl_ok
  rw [Lib.size_eq]
  rcases h with ⟨_, h2, h3⟩ | ⟨_, h2, h2', h3⟩ | ⟨_, h2, h3⟩
  · rw [h3]; simp; omega
  · rw [h3]; simp; omega
  · omega

set_option maxRecDepth 100000 in
set_option maxHeartbeats 1000000 in
theorem vformat (v : V) (w : World) (hG : G w) : Calls Tryz.prog 75 #[.agg #[.int .i64 v.k, .int .i64 v.n, .string v.s]] w fun e w' => e = .returned (.string ⟨(fmtV v).toArray⟩) ∧ Below w.heap.size w w' := by
  obtain ⟨b1, b2, b3⟩ := cl_bounds v
  by_cases h1 : v.cl.k = 1
  · have H1 := Lib.hid h1
    have t1 : (v.cl.k == 1) = true := by simpa using h1
    clear h1
    go_enter Tryz.func75, Tryz.ntmps75
    go_wp2_with (first
      | (go_at_call 65; refine (vclean v _).mono ?_; rintro e w1 ⟨rfl, hb1⟩; obtain ⟨hc1, hf1⟩ := bcell hb1; have hz1 := (hb1).size; try simp at hz1; have hl10 : w.heap.size < w1.heap.size := (by omega))
      | (go_at_call 95; refine (Tryz.strconv_FormatInt_10 _ (by omega) (by omega) _ (by exact (hG.below (by (repeat (first | (with_reducible exact Below.refl _ _) | (with_reducible assumption) | (with_reducible refine Below.drew ?_) | (with_reducible refine below_drewN ?_ _) | ((with_reducible refine Below.setCell ?_ ?_ _); rotate_left; (focus (first | (simp; done) | (simp; omega) | omega))) | ((with_reducible refine Below.alloc ?_ ?_ _); rotate_left; (focus (first | (simp; done) | (simp; omega) | omega))) | ((with_reducible apply below_step1); (focus (with_reducible assumption))))))).tab)).mono ?_; rintro e w2 ⟨rfl, hb2'⟩; have hb2 := below_grow hb2'; clear hb2'))
    go_ret
    exact ⟨by rw [fmtV, if_pos H1.out]; rfl, by (repeat (first | (with_reducible exact Below.refl _ _) | (with_reducible assumption) | (with_reducible refine Below.drew ?_) | (with_reducible refine below_drewN ?_ _) | ((with_reducible refine Below.setCell ?_ ?_ _); rotate_left; (focus (first | (simp; done) | (simp; omega) | omega))) | ((with_reducible refine Below.alloc ?_ ?_ _); rotate_left; (focus (first | (simp; done) | (simp; omega) | omega))) | ((with_reducible apply below_step1); (focus (with_reducible assumption)))))⟩
  · have H1 := Lib.hid h1
    have t1 : (v.cl.k == 1) = false := by simpa using h1
    clear h1
    by_cases h2 : v.cl.k = 2
    · have H2 := Lib.hid h2
      have t2 : (v.cl.k == 2) = true := by simpa using h2
      clear h2
      go_enter Tryz.func75, Tryz.ntmps75
      go_wp2_with (first
        | (go_at_call 65; refine (vclean v _).mono ?_; rintro e w1 ⟨rfl, hb1⟩; obtain ⟨hc1, hf1⟩ := bcell hb1; have hz1 := (hb1).size; try simp at hz1; have hl10 : w.heap.size < w1.heap.size := (by omega))
        | (go_at_call 96; refine (quote_c _ _ (by omega)).mono ?_; rintro e w2 ⟨rfl, hb2⟩))
      go_ret
      exact ⟨by rw [fmtV, if_neg H1.out, if_pos H2.out]; rfl, by (repeat (first | (with_reducible exact Below.refl _ _) | (with_reducible assumption) | (with_reducible refine Below.drew ?_) | (with_reducible refine below_drewN ?_ _) | ((with_reducible refine Below.setCell ?_ ?_ _); rotate_left; (focus (first | (simp; done) | (simp; omega) | omega))) | ((with_reducible refine Below.alloc ?_ ?_ _); rotate_left; (focus (first | (simp; done) | (simp; omega) | omega))) | ((with_reducible apply below_step1); (focus (with_reducible assumption)))))⟩
    · have H2 := Lib.hid h2
      have t2 : (v.cl.k == 2) = false := by simpa using h2
      clear h2
      go_enter Tryz.func75, Tryz.ntmps75
      go_wp2_with (first
        | (go_at_call 65; refine (vclean v _).mono ?_; rintro e w1 ⟨rfl, hb1⟩; obtain ⟨hc1, hf1⟩ := bcell hb1; have hz1 := (hb1).size; try simp at hz1; have hl10 : w.heap.size < w1.heap.size := (by omega)))
      go_ret
      exact ⟨by rw [fmtV, if_neg H1.out, if_neg H2.out]; rfl, by (repeat (first | (with_reducible exact Below.refl _ _) | (with_reducible assumption) | (with_reducible refine Below.drew ?_) | (with_reducible refine below_drewN ?_ _) | ((with_reducible refine Below.setCell ?_ ?_ _); rotate_left; (focus (first | (simp; done) | (simp; omega) | omega))) | ((with_reducible refine Below.alloc ?_ ?_ _); rotate_left; (focus (first | (simp; done) | (simp; omega) | omega))) | ((with_reducible apply below_step1); (focus (with_reducible assumption)))))⟩

end Go.Proofs.YtojcabnjodfdmaaGreatDoor

namespace Go.Proofs.YtojcabnjodfdmaaGreatDoor
open Go.RowKit

set_option maxHeartbeats 400000 in
theorem cmp64 (x y : Int) (w : World) : Calls Tryz.prog 93 #[.int .i64 x, .int .i64 y] w fun e w' => e = .returned (.int .i64 (Lib.compareInt x y)) ∧ w = w' := by
  go_enter Tryz.func93, Tryz.ntmps93
  go_wp2
  all_goals go_ret
  all_goals refine ⟨ret_int ?_, rfl⟩
  all_goals unfold Lib.compareInt
  · have h : x < y := by assumption
    rw [if_pos h]
  · have h : y ≤ x := by assumption
    have h' : y < x := by assumption
    rw [if_neg (by omega), if_pos (by omega)]
  · have h : y ≤ x := by assumption
    have h' : x ≤ y := by assumption
    rw [if_neg (by omega), if_neg (by omega)]

/-- What a statement 'a, b = Clean(a), Clean(b)' leaves. -/
def Cleaned (w wx : World) (a b : V) : Prop := Below w.heap.size w wx ∧ w.heap.size + 2 ≤ wx.heap.size ∧ wx.cell? ⟨w.heap.size, 0, none⟩ = some (.int .i64 a.cl.k) ∧ wx.cell? ⟨w.heap.size, 1, none⟩ = some (.int .i64 a.cl.n) ∧ wx.cell? ⟨w.heap.size, 2, none⟩ = some (.string a.cl.s)
   ∧ wx.cell? ⟨w.heap.size + 1, 0, none⟩ = some (.int .i64 b.cl.k) ∧ wx.cell? ⟨w.heap.size + 1, 1, none⟩ = some (.int .i64 b.cl.n) ∧ wx.cell? ⟨w.heap.size + 1, 2, none⟩ = some (.string b.cl.s)

set_option maxHeartbeats 2000000 in
set_option maxRecDepth 100000 in
theorem vcompare (a b : V) (w : World) : Calls Tryz.prog 71 #[.agg #[.int .i64 a.k, .int .i64 a.n, .string a.s], .agg #[.int .i64 b.k, .int .i64 b.n, .string b.s]] w fun e w' => e = .returned (.int .i64 (cmpV a b)) ∧ Below w.heap.size w w' := by
  have hp1 : w.heap.size < w.heap.size + 1 + 1 := by omega
  go_enter Tryz.func71, Tryz.ntmps71
  go_upto_region 1 with fail
  go_cut [] (fun wx => Cleaned w wx a b)
  case first =>
    go_region_with (first
     | (go_at_call_of 65 (Value.agg #[.int .i64 a.k, .int .i64 a.n, .string a.s]); refine (vclean a _).mono ?_; rintro e w1 ⟨rfl, hb⟩; obtain ⟨hc1, hf1⟩ := bcell hb; have hz1 := (hb).size; (try simp at hz1); have hl10 : w.heap.size < w1.heap.size := (by omega); have hl11 : w.heap.size + 1 < w1.heap.size := (by omega))
     | (go_at_call_of 65 (Value.agg #[.int .i64 b.k, .int .i64 b.n, .string b.s]); refine (vclean b _).mono ?_; rintro e w2 ⟨rfl, hb'⟩; obtain ⟨hc2, hf2⟩ := bcell hb'; have hz2 := (hb').size; (try simp at hz2); have hl20 : w.heap.size < w2.heap.size := (by omega); have hl21 : w.heap.size + 1 < w2.heap.size := (by omega)))
    all_goals go_wp2_with fail
    all_goals go_meet
    all_goals go_light
    all_goals unfold Cleaned
    all_goals refine ⟨?_, by simp; omega, by go_simp, by go_simp, by go_simp, by go_simp, by go_simp, by go_simp⟩
    all_goals (repeat (first | (with_reducible exact Below.refl _ _) | (with_reducible assumption) | (with_reducible refine Below.drew ?_) | (with_reducible refine below_drewN ?_ _) | ((with_reducible refine Below.setCell ?_ ?_ _); rotate_left; (focus (first | (simp; done) | (simp; omega) | omega))) | ((with_reducible refine Below.alloc ?_ ?_ _); rotate_left; (focus (first | (simp; done) | (simp; omega) | omega))) | ((with_reducible apply below_step1); (focus (with_reducible assumption)))))
  case rest =>
    obtain ⟨h1, h2, h3, h4, h5, h6, h7, h8⟩ := hcut
    by_cases hk : a.cl.k = b.cl.k
    · have HK := Lib.hid hk
      have hk' : (a.cl.k != b.cl.k) = false := by simpa using hk
      clear hk
      by_cases e1 : a.cl.k = 1
      · have E1 := Lib.hid e1
        have e1' : (a.cl.k == 1) = true := by simpa using e1
        clear e1
        go_wp2_with (go_at_call 93; refine (cmp64 _ _ _).mono ?_; rintro e w3 ⟨rfl, rfl⟩)
        go_ret
        exact ⟨ret_int (by unfold cmpV cmpC; rw [if_neg (by rw [HK.out]; simp), if_pos E1.out]), h1⟩
      · have E1 := Lib.hid e1
        have e1' : (a.cl.k == 1) = false := by simpa using e1
        clear e1
        by_cases e2 : a.cl.k = 2
        · have E2 := Lib.hid e2
          have e2' : (a.cl.k == 2) = true := by simpa using e2
          clear e2
          go_wp2_with (go_at_call 94; refine (Tryz.strings_Compare _ _ _).mono ?_; rintro e w3 ⟨rfl, rfl⟩)
          go_ret
          exact ⟨ret_int (by unfold cmpV cmpC; rw [if_neg (by rw [HK.out]; simp), if_neg E1.out, if_pos E2.out]), h1⟩
        · have E2 := Lib.hid e2
          have e2' : (a.cl.k == 2) = false := by simpa using e2
          clear e2
          go_wp2
          go_ret
          exact ⟨ret_int (by unfold cmpV cmpC; rw [if_neg (by rw [HK.out]; simp), if_neg E1.out, if_neg E2.out]), h1⟩
    · have HK := Lib.hid hk
      have hk' : (a.cl.k != b.cl.k) = true := by simpa using hk
      clear hk
      go_wp2_with (go_at_call 92; refine (Tryz.cmp_Compare_int _ _ _).mono ?_; rintro e w3 ⟨rfl, rfl⟩)
      go_ret
      exact ⟨ret_int (by unfold cmpV cmpC; rw [if_pos HK.out]), h1⟩

set_option maxHeartbeats 2000000 in
set_option maxRecDepth 100000 in
theorem rcompare (a b : V) (w : World) : Calls Tryz.prog 90 #[.agg #[.int .i64 a.k, .int .i64 a.n, .string a.s], .agg #[.int .i64 b.k, .int .i64 b.n, .string b.s]] w fun e w' => e = .returned (.int .i64 (cmpV a b)) ∧ Below w.heap.size w w' := by
  unfold cmpV
  rw [← cmpR_eq a.cl_ok b.cl_ok]
  have hp1 : w.heap.size < w.heap.size + 1 + 1 := by omega
  go_enter Tryz.func90, Tryz.ntmps90
  go_upto_region 1 with fail
  go_cut [] (fun wx => Cleaned w wx a b)
  case first =>
    go_region_with (first
     | (go_at_call_of 53 (Value.agg #[.int .i64 a.k, .int .i64 a.n, .string a.s]); refine (rclean a _).mono ?_; rintro e w1 ⟨rfl, hb⟩; obtain ⟨hc1, hf1⟩ := bcell hb; have hz1 := (hb).size; (try simp at hz1); have hl10 : w.heap.size < w1.heap.size := (by omega); have hl11 : w.heap.size + 1 < w1.heap.size := (by omega))
     | (go_at_call_of 53 (Value.agg #[.int .i64 b.k, .int .i64 b.n, .string b.s]); refine (rclean b _).mono ?_; rintro e w2 ⟨rfl, hb'⟩; obtain ⟨hc2, hf2⟩ := bcell hb'; have hz2 := (hb').size; (try simp at hz2); have hl20 : w.heap.size < w2.heap.size := (by omega); have hl21 : w.heap.size + 1 < w2.heap.size := (by omega)))
    all_goals go_wp2_with fail
    all_goals go_meet
    all_goals go_light
    all_goals unfold Cleaned
    all_goals refine ⟨?_, by simp; omega, by go_simp, by go_simp, by go_simp, by go_simp, by go_simp, by go_simp⟩
    all_goals (repeat (first | (with_reducible exact Below.refl _ _) | (with_reducible assumption) | (with_reducible refine Below.drew ?_) | (with_reducible refine below_drewN ?_ _) | ((with_reducible refine Below.setCell ?_ ?_ _); rotate_left; (focus (first | (simp; done) | (simp; omega) | omega))) | ((with_reducible refine Below.alloc ?_ ?_ _); rotate_left; (focus (first | (simp; done) | (simp; omega) | omega))) | ((with_reducible apply below_step1); (focus (with_reducible assumption)))))
  case rest =>
    obtain ⟨h1, h2, h3, h4, h5, h6, h7, h8⟩ := hcut
    have he := run_eqV a.cl.k a.cl.n a.cl.s b.cl.k b.cl.n b.cl.s
    by_cases hq : a.cl.beq b.cl = true
    · have he' : ∀ w, _ := fun w => (he w).trans (by rw [show eqB a.cl.k a.cl.n a.cl.s b.cl.k b.cl.n b.cl.s = true from hq])
      have HQ := Lib.hid hq
      clear hq he
      go_wp2
      go_ret
      exact ⟨ret_int (by rw [cmpR, if_pos HQ.out]), h1⟩
    · have he' : ∀ w, _ := fun w => (he w).trans (by rw [show eqB a.cl.k a.cl.n a.cl.s b.cl.k b.cl.n b.cl.s = false from eq_false_of_ne_true hq])
      have HQ := Lib.hid hq
      clear hq he
      go_wp2
      all_goals go_ret
      all_goals refine ⟨ret_int ?_, h1⟩
      all_goals rw [cmpR, if_neg HQ.out]
      · have g0 : a.cl.k = b.cl.k := by assumption
        have g1 : a.cl.n < b.cl.n ∨ Op.bytesLess a.cl.s.toList b.cl.s.toList = true := by assumption
        rw [Lib.toList_data, Lib.toList_data] at g1
        rw [if_pos (.inr ⟨g0, g1⟩)]
      · have g0 : b.cl.k ≤ a.cl.k := by assumption
        have g1 : b.cl.n ≤ a.cl.n ∧ Op.bytesLess a.cl.s.toList b.cl.s.toList = false := by assumption
        rw [Lib.toList_data, Lib.toList_data] at g1
        rw [if_neg]
        rintro (g | ⟨_, g | g⟩)
        · omega
        · omega
        · rw [g1.2] at g; cases g
      · have g0 : a.cl.k = b.cl.k := by assumption
        have g1 : a.cl.n < b.cl.n := by assumption
        rw [if_pos (.inr ⟨g0, .inl g1⟩)]
      · have g0 : b.cl.k ≤ a.cl.k := by assumption
        have g1 : ¬ a.cl.k = b.cl.k := by assumption
        rw [if_neg]
        rintro (g | ⟨g, _⟩)
        · omega
        · exact g1 g
      · have g0 : a.cl.k < b.cl.k := by assumption
        rw [if_pos (.inl g0)]
end Go.Proofs.YtojcabnjodfdmaaGreatDoor

namespace Go.Proofs.YtojcabnjodfdmaaGreatDoor
open Go.RowKit

/-- A tape at block b: its numbers lie in block g, its place is within bounds. -/
structure Tp (w : World) (b g : Nat) : Prop where
  ne : b ≠ g
  lt : b < w.heap.size
  ltg : g < w.heap.size
  ex : ∃ (A : Option Addr) (n c a off : Nat), w.heap[b]? = some (.cells #[.slice A n c, .int .i64 (a : Int)] 46 (0, 0)) ∧ n ≤ 17592186044416 ∧ a ≤ 4 * n ∧ (0 < n → A = some ⟨g, off, none⟩ ∧ ∀ j, j < n → ∃ z : Int, w.cell? ⟨g, off + j, none⟩ = some (.int .i64 z))
theorem Tp.grown {w w' : World} {b g : Nat} {row : Option Nat} (h : Tp w b g) (hg : w.grownBy w' row) (h1 : row ≠ some b) (h2 : row ≠ some g) : Tp w' b g := by
  obtain ⟨hne, hlt, hltg, A, n, c, a, off, e1, e2, e3, e4⟩ := h
  refine ⟨hne, Nat.lt_of_lt_of_le hlt hg.size, Nat.lt_of_lt_of_le hltg hg.size, A, n, c, a, off, (hg.block b hlt (Ne.symm h1)).trans e1, e2, e3, fun hn => ⟨(e4 hn).1, fun j hj => ?_⟩⟩
  obtain ⟨z, hz⟩ := (e4 hn).2 j hj
  exact ⟨z, (World.cell?_of_block (hg.block g hltg (Ne.symm h2))).trans hz⟩
theorem Tp.below {w w' : World} {b g B : Nat} (h : Tp w b g) (hb : Below B w w') (h1 : b < B) (h2 : g < B) : Tp w' b g := by
  obtain ⟨hne, hlt, hltg, A, n, c, a, off, e1, e2, e3, e4⟩ := h
  refine ⟨hne, Nat.lt_of_lt_of_le hlt hb.size, Nat.lt_of_lt_of_le hltg hb.size, A, n, c, a, off, (hb.block b h1).trans e1, e2, e3, fun hn => ⟨(e4 hn).1, fun j hj => ?_⟩⟩
  obtain ⟨z, hz⟩ := (e4 hn).2 j hj
  exact ⟨z, (World.cell?_of_block (hb.block g h2)).trans hz⟩
theorem Tp.alloc {w : World} {b g : Nat} (h : Tp w b g) (o : Obj) : Tp (w.alloc o) b g :=
  h.below ((Below.refl w.heap.size w).alloc (Nat.le_refl _) o) h.lt h.ltg

theorem blk_rules {w : World} {b : Nat} {cs : Array Value} {t : TypeId} (h : w.heap[b]? = some (.cells cs t (0, 0))) : (∀ i, w.cell? ⟨b, i, none⟩ = cs[i]?) ∧ (∀ i, w.frozen? ⟨b, i, none⟩ = false) :=
  ⟨fun i => cell_of_row w b i cs t (0, 0) h, fun i => by simp [World.frozen?, h]⟩

/-- What Next leaves. -/
def NextPost (w : World) (b g : Nat) (n : Int) (e : Ending) (w' : World) : Prop :=
  ∃ r : Nat, e = .returned (.int .i64 (r : Int)) ∧ (r : Int) < max n 1 ∧ Tp w' b g ∧ w.grownBy w' (some b) ∧ w'.heap.size = w.heap.size
theorem grown_refl (w : World) (r : Option Nat) : w.grownBy w r := ⟨rfl, rfl, rfl, Nat.le_refl _, fun _ _ _ => rfl⟩
theorem grown_drewN (w : World) (r : Option Nat) (k : Nat) : w.grownBy (w.drewN k) r := ⟨rfl, rfl, rfl, Nat.le_refl _, fun _ _ _ => rfl⟩
theorem Tp.drewN {w : World} {b g : Nat} (h : Tp w b g) (k : Nat) : Tp (w.drewN k) b g := ⟨h.ne, h.lt, h.ltg, h.ex⟩

theorem next_num (X n : Int) (h2 : 2 ≤ n) (hn : n ≤ 1099511627776) : ∃ r : Nat, (wrap64 (X.tmod n + n)).tmod n = (r : Int) ∧ (r : Int) < n := by
  have h3 := Int.tmod_lt_of_pos X (show 0 < n by omega)
  have h4 := Int.lt_tmod_of_pos X (show 0 < n by omega)
  rw [IntWalk.wrap64_in _ ⟨by omega, by omega⟩, Int.tmod_eq_emod_of_nonneg (by omega)]
  have h5 := Int.emod_nonneg (X.tmod n + n) (show n ≠ 0 by omega)
  have h6 := Int.emod_lt_of_pos (X.tmod n + n) (show 0 < n by omega)
  obtain ⟨r, hr⟩ := Int.eq_ofNat_of_zero_le h5
  exact ⟨r, hr, by omega⟩
theorem next_end {w : World} {b g l c a off : Nat} {A : Option Addr} (hne : b ≠ g) (hlt : b < w.heap.size) (hltg : g < w.heap.size) (e1 : w.heap[b]? = some (.cells #[.slice A l c, .int .i64 (a : Int)] 46 (0, 0))) (e2 : l ≤ 17592186044416) (ha : a + 1 ≤ 4 * l)
    (e4 : 0 < l → A = some ⟨g, off, none⟩ ∧ ∀ j, j < l → ∃ z : Int, w.cell? ⟨g, off + j, none⟩ = some (.int .i64 z)) (k : Nat) (n X : Int) (h2 : 2 ≤ n) (hn : n ≤ 1099511627776) :
    NextPost w b g n (.returned (.int .i64 ((wrap64 (X.tmod n + n)).tmod n))) ((w.drewN k).setCell ⟨b, 1, none⟩ (.int .i64 ((a : Int) + 1))) := by
  obtain ⟨r, hr, hr2⟩ := next_num X n h2 hn
  have hz : ((w.drewN k).setCell ⟨b, 1, none⟩ (.int .i64 ((a : Int) + 1))).heap.size = w.heap.size := by simp [World.setCell]
  refine ⟨r, by rw [hr], by omega, ⟨hne, by rw [hz]; exact hlt, by rw [hz]; exact hltg, A, l, c, a + 1, off, ?_, e2, ha, fun hl => ⟨(e4 hl).1, fun j hj => ?_⟩⟩, ⟨rfl, rfl, rfl, by rw [hz]; exact Nat.le_refl _, fun i hi hni => ?_⟩, hz⟩
  · have e1' : (w.drewN k).heap[b]? = some (.cells #[.slice A l c, .int .i64 (a : Int)] 46 (0, 0)) := e1
    simp only [World.setCell, Array.getElem?_modify, e1']
    simp
  · obtain ⟨z, hz⟩ := (e4 hl).2 j hj
    exact ⟨z, (World.cell?_setCell_other (w.drewN k) ⟨b, 1, none⟩ ⟨g, off + j, none⟩ _ (fun e => hne (congrArg Addr.block e))).trans hz⟩
  · exact Below.heap_setCell (w.drewN k) ⟨b, 1, none⟩ _ i (fun e => hni (by rw [e]))

set_option maxRecDepth 100000 in
set_option maxHeartbeats 1000000 in
theorem next_c (b g : Nat) (n : Int) (w : World) (hn : n ≤ 1099511627776) (h : Tp w b g) : Calls Tryz.prog 13 #[.pointer (some ⟨b, 0, none⟩), .int .i64 n] w (NextPost w b g n) := by
  have HT := Lib.hid h
  obtain ⟨hne, hlt, hltg, A, l, c, a, off, e1, e2, e3, e4⟩ := h
  obtain ⟨hc, hf⟩ := blk_rules e1
  have c0 : w.cell? ⟨b, 0, none⟩ = some (.slice A l c) := hc 0
  have c1 : w.cell? ⟨b, 1, none⟩ = some (.int .i64 (a : Int)) := hc 1
  have f1 := hf 1
  clear hc hf
  have E1 := Lib.hid e1
  have E4 := Lib.hid e4
  clear e1 e4
  by_cases h2 : n < 2
  · have t0 : decide (n < 2) = true := by simpa using h2
    go_enter Tryz.func13, Tryz.ntmps13
    go_wp2_with fail
    go_quiet (fail)
    go_wp2
    go_ret
    exact ⟨0, rfl, by omega, HT.out.drewN _, grown_drewN _ _ _, rfl⟩
  · have t0 : decide (n < 2) = false := by simpa using h2
    by_cases hl : l = 0
    · have t1 : ((l : Int) == 0) = true := by simpa using hl
      clear hl
      go_enter Tryz.func13, Tryz.ntmps13
      go_wp2_with fail
      go_quiet (fail)
      go_wp2
      go_ret
      exact ⟨0, rfl, by omega, HT.out.drewN _, grown_drewN _ _ _, rfl⟩
    · have t1 : ((l : Int) == 0) = false := by simpa using hl
      have e0 : IntKind.i64.wrap (4 * (l : Int)) = 4 * (l : Int) := IntWalk.i64_in _ (by omega)
      by_cases ha : 4 * l ≤ a
      · have t2 : 4 * (l : Int) ≤ (a : Int) := by omega
        have t3 : decide (4 * (l : Int) ≤ (a : Int)) = true := by simpa using t2
        go_enter Tryz.func13, Tryz.ntmps13
        go_wp2_with fail
        go_quiet (fail)
        go_wp2
        go_ret
        exact ⟨0, rfl, by omega, HT.out.drewN _, grown_drewN _ _ _, rfl⟩
      · have t2 : ¬ 4 * (l : Int) ≤ (a : Int) := by omega
        have t3 : decide (4 * (l : Int) ≤ (a : Int)) = false := by simpa using t2
        have hl1 : 1 ≤ l := by omega
        obtain ⟨hA, hz⟩ := E4.out (by omega)
        obtain ⟨q, hq⟩ : ∃ q, a / l = q := ⟨_, rfl⟩
        obtain ⟨r, hr⟩ : ∃ r, a % l = r := ⟨_, rfl⟩
        have hq4 : q < 4 := by rw [← hq]; exact (Nat.div_lt_iff_lt_mul (by omega)).2 (by omega)
        have hrl : r < l := by rw [← hr]; exact Nat.mod_lt _ (by omega)
        obtain ⟨z, hz⟩ := hz r hrl
        obtain rfl := hA
        have m0 : (a : Int).tmod (l : Int) = (r : Int) := by rw [Int.tmod_eq_emod_of_nonneg (by omega), ← hr, Int.natCast_emod]
        have d0 : (a : Int).tdiv (l : Int) = (q : Int) := by rw [Int.tdiv_eq_ediv_of_nonneg (by omega), ← hq, Int.natCast_ediv]
        clear hq hr
        have b0 : (0 : Int) ≤ (r : Int) := by omega
        have b1 : (r : Int) < (l : Int) := by omega
        have w0 : IntKind.i64.wrap (r : Int) = (r : Int) := IntWalk.i64_in _ (by omega)
        have w1 : IntKind.i64.wrap (q : Int) = (q : Int) := IntWalk.i64_in _ (by omega)
        have w2 : (0 : Int) ≤ (q : Int) := by omega
        have z0 : ((l : Int) == 0) = false := t1
        go_enter Tryz.func13, Tryz.ntmps13
        go_wp2_with fail
        go_quiet (fail)
        go_wp2_with fail
        go_quiet (fail)
        go_wp2_with fail
        go_quiet (fail)
        obtain rfl | rfl | rfl | rfl : q = 0 ∨ q = 1 ∨ q = 2 ∨ q = 3 := by omega
        all_goals go_wp2_with fail
        all_goals go_ret
        all_goals exact next_end hne hlt hltg E1.out e2 (by omega) (fun h => ⟨rfl, (E4.out h).2⟩) _ n _ (by omega) hn
end Go.Proofs.YtojcabnjodfdmaaGreatDoor

namespace Go.Proofs.YtojcabnjodfdmaaGreatDoor
open Go.RowKit

/-- What a function that takes from the tape leaves: a valid value. -/
def ValPost (w : World) (b g : Nat) (e : Ending) (w' : World) : Prop :=
  ∃ v : V, e = .returned (.agg #[.int .i64 v.k, .int .i64 v.n, .string v.s]) ∧ v.ok = true ∧ Tp w' b g ∧ w.grownBy w' (some b)
theorem grown_trans {a b c : World} {r : Option Nat} (h : a.grownBy b r) (k : b.grownBy c r) : a.grownBy c r := grown_two h (.inl rfl) (Nat.le_refl _) k
theorem grown_of_below {a w : World} (h : Below a.heap.size a w) (r : Option Nat) : a.grownBy w r := ⟨h.os, h.tape, h.output, h.size, fun i hi _ => h.block i hi⟩

theorem only_drew {a w : World} {row : Option Nat} (h : a.grownBy w row) : a.grownBy w.drew row := ⟨h.os, h.tape, h.output, h.size, h.block⟩
theorem only_drewN {a w : World} {row : Option Nat} (h : a.grownBy w row) (n : Nat) : a.grownBy (w.drewN n) row := ⟨h.os, h.tape, h.output, h.size, h.block⟩
theorem only_alloc {a w : World} {row : Option Nat} (h : a.grownBy w row) (o : Obj) : a.grownBy (w.alloc o) row :=
  ⟨h.os, h.tape, h.output, Nat.le_trans h.size (by simp), fun i hi hne => (Below.heap_alloc w o i (Nat.lt_of_lt_of_le hi h.size)).trans (h.block i hi hne)⟩
theorem only_setCell {a w : World} {g : Nat} {p : Addr} (h : a.grownBy w (some g)) (hp : p.block = g ∨ a.heap.size ≤ p.block) (u : Value) : a.grownBy (w.setCell p u) (some g) :=
  ⟨h.os, h.tape, h.output, by simpa [World.setCell] using h.size, fun i hi hne => (Below.heap_setCell w p u i (by
    rintro rfl
    rcases hp with hp | hp
    · exact hne (by rw [hp])
    · omega)).trans (h.block i hi hne)⟩
theorem only_step {a W w1 : World} {row : Option Nat} (hb : Below W.heap.size W w1) (h : a.grownBy W row) : a.grownBy w1 row := grown_trans h (grown_of_below hb row)
theorem only_trans {a W w1 : World} {row : Option Nat} (hb : W.grownBy w1 row) (h : a.grownBy W row) : a.grownBy w1 row := grown_trans h hb
theorem Tp.drew {w : World} {b g : Nat} (h : Tp w b g) : Tp w.drew b g := ⟨h.ne, h.lt, h.ltg, h.ex⟩
theorem Tp.step {W w1 : World} {b g : Nat} (hb : Below W.heap.size W w1) (h : Tp W b g) : Tp w1 b g := h.below hb h.lt h.ltg
theorem Tp.setFar {w : World} {b g : Nat} {p : Addr} (h : Tp w b g) (h1 : p.block ≠ b) (h2 : p.block ≠ g) (u : Value) : Tp (w.setCell p u) b g :=
  h.grown (row := some p.block) ⟨rfl, rfl, rfl, by simp [World.setCell], fun i _ hne => Below.heap_setCell w p u i (fun e => hne (by rw [e]))⟩ (fun e => h1 (by injection e)) (fun e => h2 (by injection e))
theorem heap_two (w : World) (o o' : Obj) : ((w.alloc o).alloc o').heap[w.heap.size + 1]? = some o' := by
  have := heap_alloc_new (w.alloc o) o'
  rwa [show (w.alloc o).heap.size = w.heap.size + 1 by simp] at this
theorem heap_one (w : World) (o o' : Obj) : ((w.alloc o).alloc o').heap[w.heap.size]? = some o := by
  rw [Below.heap_alloc _ _ _ (by simp)]
  exact heap_alloc_new w o
def isStr : Value → Bool | .string _ => true | _ => false
theorem strs_at (cs : Array Value) (h : cs.toList.all isStr = true) (r : Nat) (hr : r < cs.size) : ∃ s, cs[r]? = some (.string s) := by
  have h1 := List.all_eq_true.1 h cs[r] (by simp)
  have h2 : cs[r]? = some cs[r] := Array.getElem?_eq_getElem hr
  cases hv : cs[r] with
  | string s => exact ⟨s, by rw [h2, hv]⟩
  | _ => rw [hv] at h1; cases h1
def isI64 : Value → Bool | .int .i64 _ => true | _ => false
theorem ints_at' (cs : Array Value) (h : cs.toList.all isI64 = true) (r : Nat) (hr : r < cs.size) : ∃ n, cs[r]? = some (.int .i64 n) := by
  have h1 := List.all_eq_true.1 h cs[r] (by simp)
  have h2 : cs[r]? = some cs[r] := Array.getElem?_eq_getElem hr
  cases hv : cs[r] with
  | int k n =>
    cases k <;> first | (exfalso; rw [hv] at h1; cases h1; done) | exact ⟨n, by rw [h2, hv]⟩
  | _ => rw [hv] at h1; cases h1

theorem strs_cell {w : World} {b : Nat} {cs : Array Value} (hc : ∀ i, w.cell? ⟨b, i, none⟩ = cs[i]?) (h : cs.toList.all isStr = true) (r : Nat) (hr : r < cs.size) : ∃ s, w.cell? ⟨b, r, none⟩ = some (.string s) := by
  obtain ⟨s, hs⟩ := strs_at cs h r hr
  exact ⟨s, (hc r).trans hs⟩
theorem ints_cell {w : World} {b : Nat} {cs : Array Value} (hc : ∀ i, w.cell? ⟨b, i, none⟩ = cs[i]?) (h : cs.toList.all isI64 = true) (r : Nat) (hr : r < cs.size) : ∃ n, w.cell? ⟨b, r, none⟩ = some (.int .i64 n) := by
  obtain ⟨s, hs⟩ := ints_at' cs h r hr
  exact ⟨s, (hc r).trans hs⟩
set_option maxHeartbeats 400000 in
theorem rtext (s : ByteArray) (w : World) : Calls Tryz.prog 58 #[.string s] w fun e w' => e = .returned (.agg #[.int .i64 ((V.mk 2 0 s).cl).k, .int .i64 ((V.mk 2 0 s).cl).n, .string ((V.mk 2 0 s).cl).s]) ∧ Below w.heap.size w w' := by
  go_enter Tryz.func58, Tryz.ntmps58
  go_wp2_with (go_at_call 53; refine (rclean ⟨2, 0, s⟩ _).mono ?_; rintro e w1 ⟨rfl, hb1⟩; obtain ⟨hc1, hf1⟩ := bcell hb1; have hz1 := (hb1).size; try simp at hz1)
  refine bodyPost_ret (by simp [results, Tryz.results58, go_sem, hc1]; rfl) rfl ?_
  exact ⟨rfl, by (repeat (first | (with_reducible exact Below.refl _ _) | (with_reducible assumption) | (with_reducible refine Below.drew ?_) | (with_reducible refine below_drewN ?_ _) | ((with_reducible refine Below.setCell ?_ ?_ _); rotate_left; (focus (first | (simp; done) | (simp; omega) | omega))) | ((with_reducible refine Below.alloc ?_ ?_ _); rotate_left; (focus (first | (simp; done) | (simp; omega) | omega))) | ((with_reducible apply below_step1); (focus (with_reducible assumption)))))⟩
set_option maxHeartbeats 400000 in
theorem rint (n : Int) (w : World) : Calls Tryz.prog 34 #[.int .i64 n] w fun e w' => e = .returned (.agg #[.int .i64 ((V.mk 1 n ⟨#[]⟩).cl).k, .int .i64 ((V.mk 1 n ⟨#[]⟩).cl).n, .string ((V.mk 1 n ⟨#[]⟩).cl).s]) ∧ Below w.heap.size w w' := by
  go_enter Tryz.func34, Tryz.ntmps34
  go_wp2_with (go_at_call 53; refine (rclean ⟨1, n, ⟨#[]⟩⟩ _).mono ?_; rintro e w1 ⟨rfl, hb1⟩; obtain ⟨hc1, hf1⟩ := bcell hb1; have hz1 := (hb1).size; try simp at hz1)
  refine bodyPost_ret (by simp [results, Tryz.results34, go_sem, hc1]; rfl) rfl ?_
  exact ⟨rfl, by (repeat (first | (with_reducible exact Below.refl _ _) | (with_reducible assumption) | (with_reducible refine Below.drew ?_) | (with_reducible refine below_drewN ?_ _) | ((with_reducible refine Below.setCell ?_ ?_ _); rotate_left; (focus (first | (simp; done) | (simp; omega) | omega))) | ((with_reducible refine Below.alloc ?_ ?_ _); rotate_left; (focus (first | (simp; done) | (simp; omega) | omega))) | ((with_reducible apply below_step1); (focus (with_reducible assumption)))))⟩

set_option maxRecDepth 100000 in
set_option maxHeartbeats 1000000 in
theorem ttext (b g : Nat) (w : World) (h : Tp w b g) : Calls Tryz.prog 40 #[.pointer (some ⟨b, 0, none⟩)] w (ValPost w b g) := by
  have HT := Lib.hid h
  have hlt := h.lt
  have hltg := h.ltg
  go_enter Tryz.func40, Tryz.ntmps40
  go_wp2_with fail
  refine (next_c b g 10 _ (by omega) ((HT.out.alloc _).alloc _)).mono ?_
  rintro e w1 ⟨r, rfl, hr, ht1, hg1, hz1⟩
  have q1 := (hg1.block (w.heap.size + 1) (by simp) (by simp; omega)).trans (heap_two _ _ _)
  have q0 := (hg1.block w.heap.size (by simp; omega) (by simp; omega)).trans (heap_one _ _ _)
  obtain ⟨c1, f1⟩ := blk_rules q1
  obtain ⟨c0, f0⟩ := blk_rules q0
  obtain ⟨s, cs1⟩ := strs_cell c1 rfl r (show r < 10 by omega)
  have c00 := c0 0
  have c01 := c0 1
  have c02 := c0 2
  have f00 := f0 0
  have f01 := f0 1
  have f02 := f0 2
  have hz : w.heap.size < w1.heap.size := by rw [hz1]; simp; omega
  have hr0 : (0 : Int) ≤ (r : Int) := by omega
  have hr10 : (r : Int) < 10 := by omega
  clear c1 f1 c0 f0 q0 q1 hr hz1
  go_wp2_with (go_at_call 58; refine (rtext s _).mono ?_; rintro e w2 ⟨rfl, hb2⟩; obtain ⟨hc2, hf2⟩ := bcell hb2; have hz2 := (hb2).size; try simp at hz2)
  refine bodyPost_ret (by simp [results, Tryz.results40, go_sem, hc2, hz, c00, c01, c02]; rfl) rfl ?_
  refine ⟨_, rfl, V.cl_ok _, ?_, ?_⟩
  · (repeat (first | (with_reducible assumption) | (with_reducible refine Tp.drew ?_) | (with_reducible refine Tp.drewN ?_ _) | (with_reducible refine Tp.alloc ?_ _) | ((with_reducible refine Tp.setFar ?_ ?_ ?_ _); rotate_left; (focus (first | (simp; done) | (simp; omega) | omega)); (focus (first | (simp; done) | (simp; omega) | omega))) | ((with_reducible apply Tp.step); (focus (with_reducible assumption)))))
  · (repeat (first | (with_reducible exact grown_refl _ _) | (with_reducible assumption) | (with_reducible refine only_drew ?_) | (with_reducible refine only_drewN ?_ _) | ((with_reducible refine only_setCell ?_ ?_ _); rotate_left; (focus (first | (simp; done) | (simp; omega) | omega | (right; simp; done) | (right; simp; omega) | (right; omega)))) | (with_reducible refine only_alloc ?_ _) | ((with_reducible apply only_step); (focus (with_reducible assumption))) | ((with_reducible apply only_trans); (focus (with_reducible assumption)))))
set_option maxRecDepth 100000 in
set_option maxHeartbeats 1000000 in
theorem tint (b g : Nat) (w : World) (h : Tp w b g) : Calls Tryz.prog 41 #[.pointer (some ⟨b, 0, none⟩)] w (ValPost w b g) := by
  have HT := Lib.hid h
  have hlt := h.lt
  have hltg := h.ltg
  go_enter Tryz.func41, Tryz.ntmps41
  go_wp2_with fail
  refine (next_c b g 12 _ (by omega) ((HT.out.alloc _).alloc _)).mono ?_
  rintro e w1 ⟨r, rfl, hr, ht1, hg1, hz1⟩
  have q1 := (hg1.block (w.heap.size + 1) (by simp) (by simp; omega)).trans (heap_two _ _ _)
  have q0 := (hg1.block w.heap.size (by simp; omega) (by simp; omega)).trans (heap_one _ _ _)
  obtain ⟨c1, f1⟩ := blk_rules q1
  obtain ⟨c0, f0⟩ := blk_rules q0
  obtain ⟨s, cs1⟩ := ints_cell c1 rfl r (show r < 12 by omega)
  have c00 := c0 0
  have c01 := c0 1
  have c02 := c0 2
  have f00 := f0 0
  have f01 := f0 1
  have f02 := f0 2
  have hz : w.heap.size < w1.heap.size := by rw [hz1]; simp; omega
  have hr0 : (0 : Int) ≤ (r : Int) := by omega
  have hr12 : (r : Int) < 12 := by omega
  clear c1 f1 c0 f0 q0 q1 hr hz1
  go_wp2_with (go_at_call 34; refine (rint s _).mono ?_; rintro e w2 ⟨rfl, hb2⟩; obtain ⟨hc2, hf2⟩ := bcell hb2; have hz2 := (hb2).size; try simp at hz2)
  refine bodyPost_ret (by simp [results, Tryz.results41, go_sem, hc2, hz, c00, c01, c02]; rfl) rfl ?_
  refine ⟨_, rfl, V.cl_ok _, ?_, ?_⟩
  · (repeat (first | (with_reducible assumption) | (with_reducible refine Tp.drew ?_) | (with_reducible refine Tp.drewN ?_ _) | (with_reducible refine Tp.alloc ?_ _) | ((with_reducible refine Tp.setFar ?_ ?_ ?_ _); rotate_left; (focus (first | (simp; done) | (simp; omega) | omega)); (focus (first | (simp; done) | (simp; omega) | omega))) | ((with_reducible apply Tp.step); (focus (with_reducible assumption)))))
  · (repeat (first | (with_reducible exact grown_refl _ _) | (with_reducible assumption) | (with_reducible refine only_drew ?_) | (with_reducible refine only_drewN ?_ _) | ((with_reducible refine only_setCell ?_ ?_ _); rotate_left; (focus (first | (simp; done) | (simp; omega) | omega | (right; simp; done) | (right; simp; omega) | (right; omega)))) | (with_reducible refine only_alloc ?_ _) | ((with_reducible apply only_step); (focus (with_reducible assumption))) | ((with_reducible apply only_trans); (focus (with_reducible assumption)))))

set_option maxRecDepth 100000 in
set_option maxHeartbeats 1000000 in
theorem tvalue (b g : Nat) (w : World) (h : Tp w b g) : Calls Tryz.prog 20 #[.pointer (some ⟨b, 0, none⟩)] w (ValPost w b g) := by
  have HT := Lib.hid h
  have hlt := h.lt
  have hltg := h.ltg
  go_enter Tryz.func20, Tryz.ntmps20
  go_wp2_with fail
  refine (next_c b g 5 _ (by omega) (HT.out.alloc _)).mono ?_
  rintro e w1 ⟨r, rfl, hr, ht1, hg1, hz1⟩
  have q0 := (hg1.block w.heap.size (by simp) (by simp; omega)).trans (heap_alloc_new _ _)
  obtain ⟨c0, f0⟩ := blk_rules q0
  have c00 := c0 0
  have c01 := c0 1
  have c02 := c0 2
  have f00 := f0 0
  have f01 := f0 1
  have f02 := f0 2
  have hz : w.heap.size < w1.heap.size := by rw [hz1]; simp
  clear c0 f0 q0 hz1
  have fin : ∀ (v : V) (w2 : World), v.ok = true → Tp w2 b g → w1.grownBy w2 (some b) → Tp (((w2.setCell ⟨w.heap.size, 0, none⟩ (.int .i64 v.k)).setCell ⟨w.heap.size, 1, none⟩ (.int .i64 v.n)).setCell ⟨w.heap.size, 2, none⟩ (.string v.s)) b g ∧ w.grownBy (((w2.setCell ⟨w.heap.size, 0, none⟩ (.int .i64 v.k)).setCell ⟨w.heap.size, 1, none⟩ (.int .i64 v.n)).setCell ⟨w.heap.size, 2, none⟩ (.string v.s)) (some b) := by
    intro v w2 _ ht2 hg2
    exact ⟨by (repeat (first | (with_reducible assumption) | (with_reducible refine Tp.drew ?_) | (with_reducible refine Tp.drewN ?_ _) | (with_reducible refine Tp.alloc ?_ _) | ((with_reducible refine Tp.setFar ?_ ?_ ?_ _); rotate_left; (focus (first | (simp; done) | (simp; omega) | omega)); (focus (first | (simp; done) | (simp; omega) | omega))) | ((with_reducible apply Tp.step); (focus (with_reducible assumption))))), by (repeat (first | (with_reducible exact grown_refl _ _) | (with_reducible assumption) | (with_reducible refine only_drew ?_) | (with_reducible refine only_drewN ?_ _) | ((with_reducible refine only_setCell ?_ ?_ _); rotate_left; (focus (first | (simp; done) | (simp; omega) | omega | (right; simp; done) | (right; simp; omega) | (right; omega)))) | (with_reducible refine only_alloc ?_ _) | ((with_reducible apply only_step); (focus (with_reducible assumption))) | ((with_reducible apply only_trans); (focus (with_reducible assumption)))))⟩
  have FIN := Lib.hid fin
  clear fin
  by_cases d0 : r = 0
  · have t0 : ((r : Int) == 0) = true := by simpa using d0
    clear d0
    go_wp2_with fail
    refine bodyPost_ret (by simp [results, Tryz.results20, go_sem, c00, c01, c02]; rfl) rfl ?_
    obtain ⟨h1, h2⟩ := FIN.out V.null w1 V.null_ok ht1 (grown_refl _ _)
    exact ⟨V.null, rfl, V.null_ok, h1, h2⟩
  · have t0 : ((r : Int) == 0) = false := by simpa using d0
    clear d0
    by_cases d1 : r = 1 ∨ r = 2
    · by_cases d2 : r = 1
      · have t1 : ((r : Int) == 1) = true := by simp; omega
        clear d1 d2
        go_wp2_with (go_at_call 40; refine (ttext b g _ ht1).mono ?_; rintro e w2 ⟨v, rfl, hv, ht2, hg2⟩; have hB := (fun i => (World.cell?_of_block (a := ⟨w.heap.size, i, none⟩) (hg2.block w.heap.size hz (by simp; omega)))); have hF : ∀ i, w2.frozen? ⟨w.heap.size, i, none⟩ = w1.frozen? ⟨w.heap.size, i, none⟩ := (fun i => by simp only [World.frozen?, hg2.block w.heap.size hz (by simp; omega)]))
        refine bodyPost_ret (by simp [results, Tryz.results20, go_sem, hB, c00, c01, c02]; rfl) rfl ?_
        obtain ⟨h1, h2⟩ := FIN.out v w2 hv ht2 hg2
        exact ⟨v, rfl, hv, h1, h2⟩
      · have t1 : ((r : Int) == 1) = false := by simp; omega
        have t2 : ((r : Int) == 2) = true := by simp; omega
        clear d1 d2
        go_wp2_with (go_at_call 40; refine (ttext b g _ ht1).mono ?_; rintro e w2 ⟨v, rfl, hv, ht2, hg2⟩; have hB := (fun i => (World.cell?_of_block (a := ⟨w.heap.size, i, none⟩) (hg2.block w.heap.size hz (by simp; omega)))); have hF : ∀ i, w2.frozen? ⟨w.heap.size, i, none⟩ = w1.frozen? ⟨w.heap.size, i, none⟩ := (fun i => by simp only [World.frozen?, hg2.block w.heap.size hz (by simp; omega)]))
        refine bodyPost_ret (by simp [results, Tryz.results20, go_sem, hB, c00, c01, c02]; rfl) rfl ?_
        obtain ⟨h1, h2⟩ := FIN.out v w2 hv ht2 hg2
        exact ⟨v, rfl, hv, h1, h2⟩
    · have t1 : ((r : Int) == 1) = false := by simp; omega
      have t2 : ((r : Int) == 2) = false := by simp; omega
      clear d1
      go_wp2_with (go_at_call 41; refine (tint b g _ ht1).mono ?_; rintro e w2 ⟨v, rfl, hv, ht2, hg2⟩; have hB := (fun i => (World.cell?_of_block (a := ⟨w.heap.size, i, none⟩) (hg2.block w.heap.size hz (by simp; omega)))); have hF : ∀ i, w2.frozen? ⟨w.heap.size, i, none⟩ = w1.frozen? ⟨w.heap.size, i, none⟩ := (fun i => by simp only [World.frozen?, hg2.block w.heap.size hz (by simp; omega)]))
      refine bodyPost_ret (by simp [results, Tryz.results20, go_sem, hB, c00, c01, c02]; rfl) rfl ?_
      obtain ⟨h1, h2⟩ := FIN.out v w2 hv ht2 hg2
      exact ⟨v, rfl, hv, h1, h2⟩
end Go.Proofs.YtojcabnjodfdmaaGreatDoor

namespace Go.Proofs.YtojcabnjodfdmaaGreatDoor
open Go.RowKit

theorem stI : SliceTy Tryz.prog 22 3 1 8 := SliceTy.mk' Tryz.underlying22 (z := .int .i64 0) (by kernel_rfl) rfl (by decide) (by decide)
def icells (l : List Int) : List Value := l.map fun n => .int .i64 n
theorem icells_one (l : List Int) : ∀ u ∈ icells l, u.oneCell' = true := by
  intro u hu
  obtain ⟨c, _, rfl⟩ := List.mem_map.1 hu
  rfl
/-- A slice of ints that came in. -/
structure IntsR (w : World) (A : Option Addr) (n c : Nat) (zs : List Int) : Prop where
  len : zs.length = n
  none_ : A = none → n = 0 ∧ c = 0
  size : n ≤ 17592186044416
  rd : Rd w w.heap.size A (icells zs)

def NewPost (w : World) (e : Ending) (w' : World) : Prop := ∃ b g, e = .returned (.pointer (some ⟨b, 0, none⟩)) ∧ Tp w' b g ∧ w.heap.size ≤ b ∧ w.heap.size ≤ g ∧ Below w.heap.size w w'
set_option maxRecDepth 100000 in
set_option maxHeartbeats 1000000 in
theorem new_c (A : Option Addr) (n c : Nat) (zs : List Int) (w : World) (h : IntsR w A n c zs) :
    Calls Tryz.prog 5 #[.slice A n c] w (NewPost w) := by
  obtain ⟨h1, h2, h3, h4⟩ := h
  have H2 := Lib.hid (fun e => (h2 e).2)
  clear h2
  go_enter Tryz.func5, Tryz.ntmps5
  go_wp2_with (at_builtin; refine wpList_appAny (v := .slice (some ⟨w.heap.size, 0, none⟩) 0 0) rfl _ _ stI rfl rfl (own_new w #[] 3 1 0 (by decide) rfl) rfl (news := icells zs) (by simp [icells, h1]) (h4.keep fun p hp => World.cell?_alloc_lt w _ p hp) H2.out (icells_one _) (by omega) (by simp) ?_; intro v2 w2 own2 hg2 hat2; obtain ⟨A2, c2, hv2, _, _⟩ := own_slice own2; rw [hv2] at own2 ⊢)
  go_ret
  have hz2 := hg2.size
  simp at hz2
  have hb : Below w.heap.size w w2 := ⟨hg2.os, hg2.tape, hg2.output, by omega, fun k hk => (hg2.block k (by simp; omega) (by simp [Value.ownBlock]; omega)).trans (Below.heap_alloc w _ k hk)⟩
  have tp : ∃ g, w.heap.size ≤ g ∧ Tp (w2.alloc (.cells #[.slice A2 (0 + n) c2, .int .i64 0] 46)) w2.heap.size g := by
    rcases own2.2 with ⟨e1, e2⟩ | ⟨g, cap, cur, e1, e2, e3, _⟩
    · refine ⟨w.heap.size, Nat.le_refl _, by omega, by simp, by simp; omega, A2, 0 + n, c2, 0, 0, heap_alloc_new _ _, by omega, by omega, fun h0 => absurd e2 (by omega)⟩
    · injection e1 with e1 _ _
      subst e1
      have hgl : g < w2.heap.size := by
        rcases Nat.lt_or_ge g w2.heap.size with hl | hl
        · exact hl
        · rw [Array.getElem?_eq_none hl] at e3; cases e3
      refine ⟨g, e2, by omega, by simp, by simp; omega, _, 0 + n, c2, 0, 0, heap_alloc_new _ _, by omega, by omega, fun h0 => ⟨rfl, fun j hj => ?_⟩⟩
      have hjl : j < zs.length := by omega
      have hc := own2.cells (g := g) (by simp [Value.ownBlock]) j (.int .i64 zs[j]) (by simp [icells, hjl])
      rw [addr_add0] at hc
      exact ⟨zs[j], (World.cell?_alloc_lt w2 _ ⟨g, 0 + j, none⟩ hgl).trans hc⟩
  obtain ⟨g, hg, tp⟩ := tp
  rw [Nat.zero_add] at tp
  exact ⟨w2.heap.size, g, rfl, tp, by omega, hg, hb.alloc (by omega) _⟩

/-- What Row leaves: a new row of at most n valid values. -/
def RowPost (w : World) (b g n : Nat) (e : Ending) (w' : World) : Prop :=
  ∃ (o : Value) (vs : List V), e = .returned o ∧ w'.ownsRow w.heap.size 38 3 o vs.length (vs.flatMap V.cells) ∧ (∀ v ∈ vs, v.ok = true) ∧ vs.length ≤ n ∧ Tp w' b g ∧ w.grownBy w' (some b)
set_option maxRecDepth 100000 in
set_option maxHeartbeats 1000000 in
theorem trow (b g n : Nat) (w : World) (hn : n ≤ 1000) (h : Tp w b g) : Calls Tryz.prog 12 #[.pointer (some ⟨b, 0, none⟩), .int .i64 (n : Int)] w (RowPost w b g n) := by
  have hlt := h.lt
  have hltg := h.ltg
  go_enter Tryz.func12, Tryz.ntmps12
  go_wp2_with (go_at_call 13; refine (next_c b g _ _ (by omega) h).mono ?_; rintro e w1 ⟨r, rfl, hr, ht1, hg1, hz1⟩)
  go_loopw [5, 6] (fun u i wr => ∃ (k : Nat) (vs : List V), i = .int .i64 k ∧ vs.length + k ≤ n ∧ wr.ownsRow w.heap.size 38 3 u vs.length (vs.flatMap V.cells) ∧ (∀ v ∈ vs, v.ok = true) ∧ Tp wr b g ∧ w.grownBy wr (some b)) (fun _ i _ => (intOf i).toNat)
  case atStart => exact ⟨r, [], rfl, by simp; omega, World.ownsRow_nil _ _ _ _, by simp, ht1, hg1⟩
  case round =>
    obtain ⟨k, vs, rfl, hk, hown, hok, htr, hgr⟩ := hrel
    have hzz := hgr.size
    have HO := Lib.hid hok
    clear hok
    by_cases hk0 : 0 < k
    · have hk1 : (0 : Int) < (k : Int) := by omega
      have hne : u5.ownBlock ≠ some b := fun e => by have := (hown.lt _ e).1; omega
      go_wp2_with (first
        | (go_at_call 20; refine (tvalue b g _ htr).mono ?_; rintro e w2 ⟨v, rfl, hv, ht2, hg2⟩; have hz2 := hg2.size; have own2 := hown.kept hg2 (.inr hne))
        | (at_builtin; refine wpList_app (v := u5) rfl _ _ stV rfl rfl (own2) rfl (by simp) rfl (by simp [Value.oneCell']) (by omega) (by omega) ?_; intro v' w3 own3 hg3 hat3))
      have ht3 : Tp w3 b g := ht2.grown hg3 hne (fun e => by have := (hown.lt _ e).1; omega)
      have hg3' : w.grownBy w3 (some b) := by
        refine ⟨hg3.os.trans (hg2.os.trans hgr.os), hg3.tape.trans (hg2.tape.trans hgr.tape), hg3.output.trans (hg2.output.trans hgr.output), by have := hg3.size; omega, fun i hi hib => ?_⟩
        refine (hg3.block i (by omega) (fun e => ?_)).trans ((hg2.block i (by omega) hib).trans (hgr.block i hi hib))
        have := (hown.lt i e.symm).1
        omega
      go_roundw
      case rel =>
        refine ⟨k - 1, vs ++ [v], by go_num, by simp; omega, by simpa [V.cells] using own3, ?_, ht3, hg3'⟩
        intro x hx
        rcases List.mem_append.1 hx with h' | h'
        · exact HO.out x h'
        · simp at h'; subst h'; exact hv
      case measure => simp [intOf]; omega
    · obtain rfl : k = 0 := by omega
      go_wp2
      go_ret
      exact ⟨_, vs, rfl, hown, HO.out, by omega, htr, hgr⟩
end Go.Proofs.YtojcabnjodfdmaaGreatDoor
