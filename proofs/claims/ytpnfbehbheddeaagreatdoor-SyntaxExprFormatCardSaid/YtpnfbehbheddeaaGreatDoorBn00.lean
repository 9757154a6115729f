/- What the values of layer 1 are, in plain Lean: validity, cleaning, order. No program in sight, no condition. The order of values and rows, in plain Lean. No program in sight, no condition. Small general lemmas that the walks of this seat use: readings of slices, owned rows, worlds that only grew. No condition. Small lemmas on bytes: a string turned to bytes and back, a row of bytes of the call's own. No condition. The text form of texts, in plain Lean. No program in sight, no condition. Contracts of Valid and Clean, of the program and of the reference. No condition. -/
import Derived.Lib.Hide
import Derived.Lib.Strings
import Derived.Laws.Sem
import Derived.Lib.Small
import Derived.Lib.Bytealg
import Derived.WalkKit
import Derived.WalkSpells
import Derived.WalkLawsBesides
import Derived.Below
import Derived.Laws.ResultCell
import Derived.Laws.OwnMore
import Derived.Maps.AppendAt
import Derived.Deep.AppendLies
import Derived.Deep.Draws
import Derived.Deep.RegionHeld3
import Derived.Deep.QuietTactic
import Derived.BigQuiet
import Derived.Deep.LoopGhost
import Derived.Deep.DeepFit
import Derived.OwnWalk
import Derived.Defers
import Derived.Recover
import Derived.Test.YtpnfbehbheddeaaGreatDoorProg
import Derived.Lib.ConvBytes
import Derived.Laws.BytesArg
import Derived.Deep.Light
namespace Go.Proofs.YtpnfbehbheddeaaGreatDoor
set_option maxRecDepth 100000
set_option maxHeartbeats 8000000
set_option linter.unusedVariables false
set_option linter.unusedSimpArgs false
structure V where
  k : Int
  n : Int
  s : ByteArray
def V.cells (v : V) : List Value := [.int .i64 v.k, .int .i64 v.n, .string v.s]
def V.ok (v : V) : Bool :=
  (v.k == 0 && v.n == 0 && decide (v.s.size = 0)) || (v.k == 1 && decide (-4294967296 ≤ v.n) && decide (v.n ≤ 4294967296) && decide (v.s.size = 0)) || (v.k == 2 && v.n == 0 && decide (v.s.size ≤ 32))
def V.null : V := ⟨0, 0, ⟨#[]⟩⟩
def V.cl (v : V) : V := if v.ok then v else V.null
theorem V.cl_of {v : V} (h : v.ok = true) : v.cl = v := by simp [V.cl, h]
theorem V.cl_not {v : V} (h : v.ok = false) : v.cl = V.null := by simp [V.cl, h]
theorem toList_isEmpty (s : ByteArray) : s.toList.isEmpty = decide (s.size = 0) := by
  rw [Lib.toList_data, Lib.size_eq]
  cases s.data.toList <;> simp
theorem V.null_ok : V.null.ok = true := by decide
theorem V.cl_ok (v : V) : v.cl.ok = true := by
  unfold V.cl
  split
  · assumption
  · exact V.null_ok
def V.beq (a b : V) : Bool := a.k == b.k && (a.n == b.n && a.s.data.toList == b.s.data.toList)
theorem bytes_ext {a b : ByteArray} (h : a.data.toList = b.data.toList) : a = b := by
  rw [← Lib.mk_data a, ← Lib.mk_data b, h]
theorem V.beq_iff (a b : V) : a.beq b = true ↔ a = b := by
  obtain ⟨k, n, s⟩ := a
  obtain ⟨k', n', s'⟩ := b
  simp only [V.beq, Bool.and_eq_true, beq_iff_eq, V.mk.injEq]
  constructor
  · rintro ⟨h1, h2, h3⟩; exact ⟨h1, h2, bytes_ext h3⟩
  · rintro ⟨h1, h2, h3⟩; exact ⟨h1, h2, by rw [h3]⟩
theorem V.ok_cases {v : V} (h : v.ok = true) : (v.k = 0 ∧ v.n = 0 ∧ v.s.data.toList = []) ∨ (v.k = 1 ∧ -4294967296 ≤ v.n ∧ v.n ≤ 4294967296 ∧ v.s.data.toList = []) ∨ (v.k = 2 ∧ v.n = 0 ∧ v.s.data.toList.length ≤ 32) := by
  simp only [V.ok, Lib.size_eq, Bool.or_eq_true, Bool.and_eq_true, beq_iff_eq, decide_eq_true_eq] at h
  rcases h with (⟨⟨h1, h2⟩, h3⟩ | ⟨⟨⟨h1, h2⟩, h3⟩, h4⟩) | ⟨⟨h1, h2⟩, h3⟩
  · exact .inl ⟨h1, h2, List.eq_nil_of_length_eq_zero h3⟩
  · exact .inr (.inl ⟨h1, h2, h3, List.eq_nil_of_length_eq_zero h4⟩)
  · exact .inr (.inr ⟨h1, h2, h3⟩)
open Go.RowKit
theorem ret_bool {a b : Bool} (h : a = b) : Ending.returned (.bool a) = .returned (.bool b) := by rw [h]
theorem ret_int {k : IntKind} {a b : Int} (h : a = b) : Ending.returned (.int k a) = .returned (.int k b) := by rw [h]
theorem ret_str {a b : ByteArray} (h : a = b) : Ending.returned (.string a) = .returned (.string b) := by rw [h]
theorem val_int {k : IntKind} {a b : Int} (h : a = b) : Value.int k a = .int k b := by rw [h]
theorem bcell {W w1 : World} (hb : Below W.heap.size W w1) : (∀ b o, b < W.heap.size → w1.cell? ⟨b, o, none⟩ = W.cell? ⟨b, o, none⟩) ∧ (∀ b o, b < W.heap.size → w1.frozen? ⟨b, o, none⟩ = W.frozen? ⟨b, o, none⟩) :=
  ⟨fun b o h => hb.cell (p := ⟨b, o, none⟩) h, fun b o h => hb.frozen (p := ⟨b, o, none⟩) h⟩
theorem below_drewN {B : Nat} {a w : World} (h : Below B a w) (n : Nat) : Below B a (w.drewN n) := ⟨h.os, h.tape, h.output, h.size, h.block⟩
theorem below_step {B : Nat} {a W w1 : World} (hb : Below W.heap.size W w1) (h : Below B a W) (hB : B ≤ a.heap.size) : Below B a w1 :=
  h.trans (hb.mono (Nat.le_trans hB h.size))
theorem below_step1 {a W w1 : World} (hb : Below W.heap.size W w1) (h : Below a.heap.size a W) : Below a.heap.size a w1 := below_step hb h (Nat.le_refl _)
theorem own_below {w w' : World} {base : Nat} {e : TypeId} {size : Nat} {v : Value} {n : Nat} {xs : List Value} (h : w.ownsRow base e size v n xs) (hb : Below w.heap.size w w') : w'.ownsRow base e size v n xs :=
  h.kept (row := none) ⟨hb.os, hb.tape, hb.output, hb.size, fun k hk _ => hb.block k hk⟩ (by cases h0 : v.ownBlock <;> simp)
theorem own_base {w : World} {base base' : Nat} {e : TypeId} {size : Nat} {v : Value} {n : Nat} {xs : List Value} (h : w.ownsRow base e size v n xs) (hb : base' ≤ base) : w.ownsRow base' e size v n xs := by
  refine ⟨h.1, ?_⟩
  rcases h.2 with h2 | ⟨g, cap, cur, h3, h4, h5⟩
  · exact .inl h2
  · exact .inr ⟨g, cap, cur, h3, Nat.le_trans hb h4, h5⟩
theorem own_slice {w : World} {base : Nat} {e : TypeId} {size : Nat} {v : Value} {n : Nat} {xs : List Value} (h : w.ownsRow base e size v n xs) : ∃ A c, v = .slice A n c ∧ n ≤ c ∧ c ≤ maxLen := by
  rcases h.2 with ⟨rfl, rfl⟩ | ⟨g, cap, cur, rfl, _, _, h5, h6, _⟩
  · exact ⟨_, _, rfl, Nat.le_refl _, Nat.zero_le _⟩
  · exact ⟨_, _, rfl, h5, h6⟩
def Rd (w : World) (B : Nat) (A : Option Addr) (xs : List Value) : Prop :=
  xs ≠ [] → ∃ b off, A = some ⟨b, off, none⟩ ∧ b < B ∧ ∀ j u, xs[j]? = some u → w.cell? ⟨b, off + j, none⟩ = some u
section
variable {w w' : World} {B B' : Nat} {A : Option Addr} {xs : List Value}
theorem Rd.keep (h : Rd w B A xs) (hk : ∀ p : Addr, p.block < B → w'.cell? p = w.cell? p) : Rd w' B A xs := fun hx => by
  obtain ⟨b, off, e, hb, hc⟩ := h hx
  exact ⟨b, off, e, hb, fun j u hu => (hk ⟨b, off + j, none⟩ hb).trans (hc j u hu)⟩
theorem Rd.more (h : Rd w B A xs) (hB : B ≤ B') : Rd w B' A xs := fun hx => by
  obtain ⟨b, off, e, hb, hc⟩ := h hx
  exact ⟨b, off, e, by omega, hc⟩
theorem Rd.below (h : Rd w B A xs) (hb : Below B w w') : Rd w' B A xs := h.keep fun _ hp => hb.cell hp
theorem Rd.of_own {base : Nat} {e : TypeId} {size n c : Nat} (h : w.ownsRow base e size (.slice A n c) n xs) : Rd w w.heap.size A xs := fun hx => by
  rcases h.2 with ⟨h1, rfl⟩ | ⟨g, cap, cur, h1, h2, h3, h4, h5, h6, h7⟩
  · exact absurd (List.eq_nil_of_length_eq_zero (by simpa using h.1)) hx
  · injection h1 with h1 _ _
    subst h1
    refine ⟨g, 0, rfl, ?_, fun j u hu => ?_⟩
    · rcases Nat.lt_or_ge g w.heap.size with hl | hl
      · exact hl
      · rw [Array.getElem?_eq_none hl] at h3; cases h3
    · have := h.cells (g := g) (by simp [Value.ownBlock]) j u hu
      rw [Nat.zero_add]
      have h8 : (⟨g, 0, none⟩ : Addr).add j = ⟨g, j, none⟩ := by
        unfold Addr.add
        split
        · subst_vars; rfl
        · simp
      rw [h8] at this
      exact this
end
structure RowOf {α : Type} (cells : α → List Value) (w : World) (B : Nat) (A : Option Addr) (n : Nat) (xs : List α) : Prop where
  len : xs.length = n
  rd : Rd w B A (xs.flatMap cells)
section
variable {α : Type} {cells : α → List Value} {w w' : World} {B B' n : Nat} {A : Option Addr} {xs : List α}
theorem flatMap_at (sz : Nat) (hsz : ∀ x, (cells x).length = sz) : ∀ (xs : List α) (k j : Nat) (x : α) (u : Value), xs[k]? = some x → (cells x)[j]? = some u → (xs.flatMap cells)[k * sz + j]? = some u := by
  intro xs
  induction xs with
  | nil => intro k j x u h; simp at h
  | cons y ys ih =>
    intro k j x u h1 h2
    cases k with
    | zero =>
      simp at h1
      subst h1
      have hj : j < (cells y).length := (List.getElem?_eq_some_iff.1 h2).1
      simp only [List.flatMap_cons, Nat.zero_mul, Nat.zero_add]
      rw [List.getElem?_append_left hj]
      exact h2
    | succ k =>
      simp at h1
      have := ih k j x u h1 h2
      simp only [List.flatMap_cons]
      rw [List.getElem?_append_right (by rw [hsz, Nat.succ_mul]; omega), hsz]
      rw [← this]
      congr 1
      rw [Nat.succ_mul]
      omega
theorem flatMap_len (sz : Nat) (hsz : ∀ x, (cells x).length = sz) : ∀ (xs : List α), (xs.flatMap cells).length = xs.length * sz := by
  intro xs
  induction xs with
  | nil => simp
  | cons y ys ih => simp only [List.flatMap_cons, List.length_append, List.length_cons, ih, hsz, Nat.succ_mul]; omega
theorem RowOf.at_ (sz : Nat) (hsz : ∀ x, (cells x).length = sz) (hp : 0 < sz) (h : RowOf cells w B A n xs) {k : Nat} (hk : k < n) :
    ∃ b off x, A = some ⟨b, off, none⟩ ∧ b < B ∧ xs[k]? = some x ∧ ∀ j u, (cells x)[j]? = some u → w.cell? ⟨b, off + k * sz + j, none⟩ = some u := by
  have hl : k < xs.length := by have := h.len; omega
  have hne : xs.flatMap cells ≠ [] := by
    intro h0
    have := congrArg List.length h0
    rw [flatMap_len sz hsz] at this
    have h2 : 1 * 1 ≤ xs.length * sz := Nat.mul_le_mul (by omega) (by omega)
    simp only [List.length_nil] at this
    omega
  obtain ⟨b, off, e, hb, hc⟩ := h.rd hne
  refine ⟨b, off, xs[k], e, hb, List.getElem?_eq_getElem hl, fun j u hu => ?_⟩
  have := hc (k * sz + j) u (flatMap_at sz hsz xs k j _ u (List.getElem?_eq_getElem hl) hu)
  rw [← Nat.add_assoc] at this
  exact this
theorem RowOf.below (h : RowOf cells w B A n xs) (hb : Below B w w') : RowOf cells w' B A n xs := ⟨h.len, h.rd.below hb⟩
theorem RowOf.more (h : RowOf cells w B A n xs) (hB : B ≤ B') : RowOf cells w B' A n xs := ⟨h.len, h.rd.more hB⟩
theorem RowOf.keep (h : RowOf cells w B A n xs) (hk : ∀ p : Addr, p.block < B → w'.cell? p = w.cell? p) : RowOf cells w' B A n xs := ⟨h.len, h.rd.keep hk⟩
theorem RowOf.drew (h : RowOf cells w B A n xs) : RowOf cells w.drew B A n xs := ⟨h.len, h.rd⟩
theorem RowOf.alloc (h : RowOf cells w B A n xs) (hB : B ≤ w.heap.size) (o : Obj) : RowOf cells (w.alloc o) B A n xs :=
  h.keep fun p hp => World.cell?_alloc_lt w o p (by omega)
theorem RowOf.nil_ : RowOf cells w B A 0 [] := ⟨rfl, fun h => absurd rfl h⟩
theorem RowOf.of_own {base : Nat} {e : TypeId} {size c : Nat} (h : w.ownsRow base e size (.slice A n c) n (xs.flatMap cells)) (hn : xs.length = n) : RowOf cells w w.heap.size A n xs := ⟨hn, Rd.of_own h⟩
end
def SliceTy (P : Program) (t e : TypeId) (size bytes : Nat) : Prop :=
  ∃ i z, P.underlying t = some (.slice e) ∧ P.info? e = some i ∧ i.zero = some z ∧ i.size = size ∧ i.bytes = bytes ∧ z.cells.size = size ∧ 0 < size ∧ 0 < bytes
theorem SliceTy.mk' {P : Program} {t e : TypeId} {size bytes : Nat} {z : Value} (hu : P.underlying t = some (.slice e))
    (h : (P.info? e).map (fun i => (i.zero, i.size, i.bytes)) = some (some z, size, bytes)) (hz : z.cells.size = size) (hs : 0 < size) (hb : 0 < bytes) : SliceTy P t e size bytes := by
  obtain ⟨i, h0, h1, h2, h3⟩ := info_parts h
  exact ⟨i, z, hu, h0, h1, h2, h3, hz, hs, hb⟩
section
variable {P : Program} {ops : Array Oper} {rest : List Oper} {o : Oper} {a : Act} {Q : Exit → Act → World → Prop} {W : World} {cs : Array Value} {te : TypeId}
theorem new_cells (W : World) (cs : Array Value) (te : TypeId) : ∀ j u, cs.toList[j]? = some u → (W.alloc (.cells cs te)).cell? ((⟨W.heap.size, 0, none⟩ : Addr).add j) = some u := by
  intro j u hu
  have h := cell_of_row (W.alloc (.cells cs te)) W.heap.size j cs te (0, 0) (heap_alloc_new W _)
  simp only [Addr.add]
  split
  · subst_vars; rw [h]; simpa using hu
  · rw [Nat.zero_add, h]; simpa using hu
theorem wp_app {K : Act → World → Prop} (s x : Operand) {t e : TypeId} {size bytes : Nat} (ST : SliceTy P t e size bytes)
    (ho : o.op = .call { callee := .builtin .append, args := #[s, x], argTypes := #[t, t] })
    {base : Nat} {v : Value} {n : Nat} {xs : List Value} (hs : a.eval s = v) (hown : W.ownsRow base e size v n xs)
    {g m c : Nat} (hx : a.eval x = .slice (some ⟨g, 0, none⟩) m c) (hgq : g = W.heap.size) (hl : cs.size = m * size) (h1 : ∀ u ∈ cs.toList, u.oneCell' = true)
    (hbytes : (n + m) * bytes ≤ 140737488355328) (hbase : base ≤ W.heap.size)
    (h : ∀ v' w', w'.ownsRow base e size v' (n + m) (xs ++ cs.toList) → W.grownBy w' v.ownBlock → (v'.ownBlock = v.ownBlock ∨ v'.ownBlock = some (W.heap.size + 1)) → K (a.put o.dst v') w') :
    o.wp P a (W.alloc (.cells cs te)) K Q := by
  subst hgq
  obtain ⟨i, z, h2, h3, h4, h5, h6, h7, h8, h9⟩ := ST
  have h63 : n + m ≤ maxLen := by
    have : (n + m) * 1 ≤ (n + m) * bytes := Nat.mul_le_mul_left _ h9
    unfold maxLen
    omega
  obtain ⟨v', w', hrun, g1, g2, _, g3⟩ := run_append_own_at (P := P) (W.alloc (.cells cs te)) base t o.type e i z size bytes h2 h3 h4 h5 h6 h7 h8 v n xs (hown.alloc _) ⟨W.heap.size, 0, none⟩ m c cs.toList (by simpa using hl) (new_cells W cs te) h1 h63 hbytes (by simp; omega)
  unfold Oper.wp execOp
  simp only [ho, resolve, invoke, builtin, Sem.run_bind, Sem.run_pure, Result.andThen_ok, List.map_toArray, List.map_cons, List.map_nil, hs, hx, hrun]
  refine h v' w' g1 ⟨g2.os, g2.tape, g2.output, Nat.le_trans (by simp) g2.size, fun k hk hne => (g2.block k (by simp; omega) hne).trans (Below.heap_alloc W _ k hk)⟩ (by simpa using g3)
theorem wpList_app (hgd : o.guard = none) (s x : Operand) {t e : TypeId} {size bytes : Nat} (ST : SliceTy P t e size bytes)
    (ho : o.op = .call { callee := .builtin .append, args := #[s, x], argTypes := #[t, t] })
    {base : Nat} {v : Value} {n : Nat} {xs : List Value} (hs : a.eval s = v) (hown : W.ownsRow base e size v n xs)
    {g m c : Nat} (hx : a.eval x = .slice (some ⟨g, 0, none⟩) m c) (hgq : g = W.heap.size) (hl : cs.size = m * size) (h1 : ∀ u ∈ cs.toList, u.oneCell' = true)
    (hbytes : (n + m) * bytes ≤ 140737488355328) (hbase : base ≤ W.heap.size)
    (h : ∀ v' w', w'.ownsRow base e size v' (n + m) (xs ++ cs.toList) → W.grownBy w' v.ownBlock → (v'.ownBlock = v.ownBlock ∨ v'.ownBlock = some (W.heap.size + 1)) → wpList P ops Q rest (a.put o.dst v') w') :
    wpList P ops Q (o :: rest) a (W.alloc (.cells cs te)) :=
  wpList_plain hgd fun _ hK => wp_app s x ST ho hs hown hx hgq hl h1 hbytes hbase fun v' w' h2 h3 h4 => hK _ _ (h v' w' h2 h3 h4)
theorem step_app {K : Act → World → Prop} {E : Prop} (hgd : o.guard = none) (s x : Operand) {t e : TypeId} {size bytes : Nat} (ST : SliceTy P t e size bytes)
    (ho : o.op = .call { callee := .builtin .append, args := #[s, x], argTypes := #[t, t] })
    {base : Nat} {v : Value} {n : Nat} {xs : List Value} (hs : a.eval s = v) (hown : W.ownsRow base e size v n xs)
    {g m c : Nat} (hx : a.eval x = .slice (some ⟨g, 0, none⟩) m c) (hgq : g = W.heap.size) (hl : cs.size = m * size) (h1 : ∀ u ∈ cs.toList, u.oneCell' = true)
    (hbytes : (n + m) * bytes ≤ 140737488355328) (hbase : base ≤ W.heap.size)
    (h : ∀ v' w', w'.ownsRow base e size v' (n + m) (xs ++ cs.toList) → W.grownBy w' v.ownBlock → (v'.ownBlock = v.ownBlock ∨ v'.ownBlock = some (W.heap.size + 1)) → K (a.put o.dst v') w') :
    if Region.wanted o (yielded ops a.tmps) = true then Oper.wp P o a (W.alloc (.cells cs te)) K Q else E := by
  have hw : Region.wanted o (yielded ops a.tmps) = true := by simp [Region.wanted, hgd]
  rw [if_pos hw]
  exact wp_app s x ST ho hs hown hx hgq hl h1 hbytes hbase h
theorem step_appD {K : Act → World → Prop} {E : Prop} (hgd : o.guard = none) (s x : Operand) {t e : TypeId} {size bytes : Nat} (ST : SliceTy P t e size bytes)
    (ho : o.op = .call { callee := .builtin .append, args := #[s, x], argTypes := #[t, t] })
    {base : Nat} {v : Value} {n : Nat} {xs : List Value} (hs : a.eval s = v) (hown : W.ownsRow base e size v n xs)
    {g m c : Nat} (hx : a.eval x = .slice (some ⟨g, 0, none⟩) m c) (hgq : g = W.heap.size) (hl : cs.size = m * size) (h1 : ∀ u ∈ cs.toList, u.oneCell' = true)
    (hbytes : (n + m) * bytes ≤ 140737488355328) (hbase : base ≤ W.heap.size)
    (h : ∀ v' w', w'.ownsRow base e size v' (n + m) (xs ++ cs.toList) → W.grownBy w' v.ownBlock → (v'.ownBlock = v.ownBlock ∨ v'.ownBlock = some (W.heap.size + 1)) → K (a.put o.dst v') w') :
    if Region.wanted o (yielded ops a.tmps) = true then Oper.wp P o a (W.alloc (.cells cs te)).drew K Q else E :=
  step_app (W := W.drew) hgd s x ST ho hs hown hx hgq hl h1 hbytes hbase fun v' w' h2 h3 h4 => h v' w' h2 ⟨h3.os, h3.tape, h3.output, h3.size, h3.block⟩ h4
end
theorem below_app {base B : Nat} {e : TypeId} {size n : Nat} {v : Value} {xs : List Value} {a W w' : World} (h : Below B a W) (hown : W.ownsRow base e size v n xs) (hg : W.grownBy w' v.ownBlock) (hB : B ≤ base) (hW : B ≤ W.heap.size) : Below B a w' :=
  h.grown hg hW fun k hk => Nat.le_trans hB (hown.lt k hk).1
theorem ext_refl (W : World) : Below W.heap.size W W.drew ∧ ∀ b o, b < W.heap.size → W.drew.cell? ⟨b, o, none⟩ = W.cell? ⟨b, o, none⟩ := ⟨(Below.refl _ _).drew, fun _ _ _ => rfl⟩
theorem ext_step {W w w1 : World} (hb : Below w.heap.size w w1) (h : Below W.heap.size W w ∧ ∀ b o, b < W.heap.size → w.cell? ⟨b, o, none⟩ = W.cell? ⟨b, o, none⟩) :
    Below W.heap.size W w1 ∧ ∀ b o, b < W.heap.size → w1.cell? ⟨b, o, none⟩ = W.cell? ⟨b, o, none⟩ := by
  have h1 := below_step hb h.1 (Nat.le_refl _)
  exact ⟨h1, fun b o hb => h1.cell (p := ⟨b, o, none⟩) hb⟩
theorem ext_drew {W w : World} (h : Below W.heap.size W w ∧ ∀ b o, b < W.heap.size → w.cell? ⟨b, o, none⟩ = W.cell? ⟨b, o, none⟩) :
    Below W.heap.size W w.drew ∧ ∀ b o, b < W.heap.size → w.drew.cell? ⟨b, o, none⟩ = W.cell? ⟨b, o, none⟩ := ⟨h.1.drew, h.2⟩
theorem ext_alloc {W w : World} (h : Below W.heap.size W w ∧ ∀ b o, b < W.heap.size → w.cell? ⟨b, o, none⟩ = W.cell? ⟨b, o, none⟩) (o : Obj) :
    Below W.heap.size W (w.alloc o) ∧ ∀ b o', b < W.heap.size → (w.alloc o).cell? ⟨b, o', none⟩ = W.cell? ⟨b, o', none⟩ := by
  have h1 := h.1.alloc h.1.size o
  exact ⟨h1, fun b o hb => h1.cell (p := ⟨b, o, none⟩) hb⟩
theorem belQ {P : Prop} (h : P := by (repeat (first | (with_reducible exact Below.refl _ _) | (with_reducible assumption) | (with_reducible refine Below.drew ?_) | (with_reducible refine below_drewN ?_ _) | ((with_reducible refine Below.setCell ?_ ?_ _); rotate_left; (focus (first | (simp; done) | (simp; omega) | omega))) | ((with_reducible refine Below.alloc ?_ ?_ _); rotate_left; (focus (first | (simp; done) | (simp; omega) | omega))) | ((with_reducible apply below_step1); (focus (with_reducible assumption)))))) : P := h
def bcells (l : List UInt8) : List Value := l.map fun c => .int .u8 c.toNat
theorem bcells_len (l : List UInt8) : (bcells l).length = l.length := by simp [bcells]
theorem bcells_append (a b : List UInt8) : bcells (a ++ b) = bcells a ++ bcells b := by simp [bcells]
theorem bcells_at {l : List UInt8} {k : Nat} {c : UInt8} (h : l[k]? = some c) : (bcells l)[k]? = some (.int .u8 c.toNat) := by simp [bcells, h]
theorem own_new (w : World) (cs : Array Value) (e : TypeId) (size n : Nat) (hn : n ≤ maxLen) (hs : cs.size = n * size) : (w.alloc (.cells cs e)).ownsRow w.heap.size e size (.slice (some ⟨w.heap.size, 0, none⟩) n n) n cs.toList :=
  ⟨by simpa using hs, .inr ⟨w.heap.size, n, cs, rfl, Nat.le_refl _, heap_alloc_new w _, Nat.le_refl _, hn, hs, by rw [← hs, ← Array.length_toList, List.take_length]⟩⟩
theorem grown_bytes (W : World) (e : TypeId) (s : ByteArray) (row : Option Nat) : W.grownBy (Lib.bytesWorld W e s) row :=
  ⟨rfl, rfl, rfl, by rw [Lib.bytesWorld_size]; omega, fun k hk _ => Lib.bytesWorld_at_old W e s k hk⟩
theorem below_bytes {B : Nat} {a W : World} (h : Below B a W) (hB : B ≤ W.heap.size) (e : TypeId) (s : ByteArray) : Below B a (Lib.bytesWorld W e s) :=
  h.grown (grown_bytes W e s none) hB (fun k hk => by cases hk)
theorem own_bytes {W : World} {base : Nat} {t : TypeId} {size n : Nat} {v : Value} {xs : List Value} (h : W.ownsRow base t size v n xs) (e : TypeId) (s : ByteArray) : (Lib.bytesWorld W e s).ownsRow base t size v n xs :=
  h.kept (grown_bytes W e s none) (by cases v.ownBlock <;> simp)
theorem rd_bytes (W : World) (e : TypeId) (s : ByteArray) : Rd (Lib.bytesWorld W e s) (W.heap.size + 1) (some ⟨W.heap.size, 0, none⟩) (bcells s.data.toList) := fun _ => by
  refine ⟨W.heap.size, 0, rfl, by omega, fun j u hu => ?_⟩
  have hj : j < s.data.toList.length := by
    have := (List.getElem?_eq_some_iff.1 hu).1
    rwa [bcells_len] at this
  rw [Nat.zero_add, Lib.bytesWorld_cell W e s j (by rw [Lib.size_eq]; exact hj), ← hu, bcells_at (List.getElem?_eq_getElem hj), List.getD, List.getElem?_eq_getElem hj]
  rfl
theorem Rd.grownAt {w w' : World} {B g off : Nat} {row : Option Nat} {xs : List Value} (h : Rd w B (some ⟨g, off, none⟩) xs) (hg : w.grownBy w' row) (hl : g < w.heap.size) (hne : some g ≠ row) : Rd w' B (some ⟨g, off, none⟩) xs := fun hx => by
  obtain ⟨b, o, e, hb, hc⟩ := h hx
  injection e with e
  injection e with e1 e2 _
  subst e1
  subst e2
  exact ⟨g, off, rfl, hb, fun j u hu => (World.cell?_of_block (hg.block g hl hne)).trans (hc j u hu)⟩
theorem Rd.byte {w : World} {B g off : Nat} {l : List UInt8} {k : Nat} {c : UInt8} (h : Rd w B (some ⟨g, off, none⟩) (bcells l)) (hc : l[k]? = some c) : w.cell? ⟨g, off + k, none⟩ = some (.int .u8 c.toNat) := by
  have hk := bcells_at hc
  have hne : bcells l ≠ [] := by intro h0; rw [h0] at hk; simp at hk
  obtain ⟨b, o, e, hb, hcell⟩ := h hne
  injection e with e
  injection e with e1 e2 _
  subst e1
  subst e2
  exact hcell k _ hk
theorem run_toStr {w : World} {base n : Nat} {v : Value} {l : List UInt8} (h : w.ownsRow base 5 1 v n (bcells l)) : (convert 180 9 v).run Tryz.prog w = .ok (.string ⟨l.toArray⟩) w := by
  have hl : l.length = n := by have := h.1; rw [bcells_len] at this; omega
  rcases h.2 with ⟨rfl, rfl⟩ | ⟨g, cap, cur, rfl, _, hg, _⟩
  · have : l = [] := List.eq_nil_of_length_eq_zero hl
    subst this
    exact run_convert_bytes_nil w 180 5 Tryz.underlying180 Tryz.underlying5 0 0 9 Tryz.underlying9
  · have hc := h.cells (g := g) (by simp [Value.ownBlock])
    have hr := run_convert_bytes_arg (P := Tryz.prog) w 180 5 Tryz.underlying180 Tryz.underlying5 g 0 n cap (l.map fun c => (c.toNat : Int)) (by simpa using hl) (fun i hi => by
      have hil : i < l.length := by omega
      have := hc i _ (bcells_at (List.getElem?_eq_getElem hil))
      have h8 : (⟨g, 0, none⟩ : Addr).add i = ⟨g, 0 + i, none⟩ := by
        unfold Addr.add
        split
        · subst_vars; rfl
        · simp
      rw [h8] at this
      rw [this]
      simp [List.getD, hil]) 9 Tryz.underlying9
    have he : strOfNums (l.map fun c => (c.toNat : Int)) = ⟨l.toArray⟩ := by simp [strOfNums, Function.comp_def]
    rw [hr, he]
theorem run_toBytes (w : World) (s : ByteArray) : (convert 9 180 (.string s)).run Tryz.prog w = .ok (.slice (some ⟨w.heap.size, 0, none⟩) s.size (grownCap w s.size 0 5)) (Lib.bytesWorld w 5 s) :=
  Lib.run_convert_string_bytes (P := Tryz.prog) w 9 180 5 s Tryz.underlying9 Tryz.underlying180 Tryz.underlying5
theorem stB : SliceTy Tryz.prog 180 5 1 1 := SliceTy.mk' Tryz.underlying180 (z := .int .u8 0) (by kernel_rfl) rfl (by decide) (by decide)
def OwnB (w : World) (base : Nat) (o : Value) (l : List UInt8) : Prop := w.ownsRow base 5 1 o l.length (bcells l)
theorem OwnB.nil_ (w : World) (base : Nat) : OwnB w base (.slice none 0 0) [] := World.ownsRow_nil _ _ _ _
theorem own_more {w : World} {base : Nat} {v : Value} {l m : List UInt8} {cs : List Value} {k : Nat} (h : w.ownsRow base 5 1 v (l.length + k) (bcells l ++ cs)) (hc : cs = bcells m) (hk : m.length = k) : OwnB w base v (l ++ m) := by
  subst hc
  subst hk
  unfold OwnB
  rw [List.length_append, bcells_append]
  exact h
theorem OwnB.below {w w' : World} {base : Nat} {o : Value} {l : List UInt8} (h : OwnB w base o l) (hb : Below w.heap.size w w') : OwnB w' base o l := own_below h hb
def hexd (n : Nat) : UInt8 := (#[48, 49, 50, 51, 52, 53, 54, 55, 56, 57, 97, 98, 99, 100, 101, 102] : Array UInt8).getD n 0
theorem run_hex (n : Int) (h0 : 0 ≤ n) (h1 : n < 16) (w : World) : (Instr.index 9 (.string { data := #[48, 49, 50, 51, 52, 53, 54, 55, 56, 57, 97, 98, 99, 100, 101, 102] }) (.int .u8 n)).run Tryz.prog w = .ok (.int .u8 (hexd n.toNat).toNat) w := by
  have hx : ∀ k : Fin 16, (Instr.index 9 (.string { data := #[48, 49, 50, 51, 52, 53, 54, 55, 56, 57, 97, 98, 99, 100, 101, 102] }) (.int .u8 (k.val : Int))).run Tryz.prog w = .ok (.int .u8 (hexd k.val).toNat) w := by
    intro k
    have h2 : (k.val : Int) < 16 := by omega
    have h3 := k.isLt
    simp [go_sem, h2, hexd]
    congr 1
  obtain ⟨m, rfl⟩ := Int.eq_ofNat_of_zero_le h0
  exact hx ⟨m, by omega⟩
theorem hi4 (c : UInt8) : (0:Int) ≤ (c.toNat:Int) / 16 ∧ (c.toNat:Int) / 16 < 16 := by have := c.toNat_lt; omega
theorem lo4 (c : UInt8) : (0:Int) ≤ (c.toNat:Int) % 16 ∧ (c.toNat:Int) % 16 < 16 := by omega
theorem and15 (c : UInt8) : bits .and .u8 (c.toNat : Int) 15 = (c.toNat : Int) % 16 := by
  have h : ∀ k : Fin 256, bits .and .u8 (k.val : Int) 15 = (k.val : Int) % 16 := by decide +kernel
  exact h ⟨c.toNat, c.toNat_lt⟩
theorem wrap16 (c : UInt8) : IntKind.u8.wrap ((c.toNat : Int) / 16) = (c.toNat : Int) / 16 := by
  have h : ∀ k : Fin 256, IntKind.u8.wrap ((k.val : Int) / 16) = (k.val : Int) / 16 := by decide +kernel
  exact h ⟨c.toNat, c.toNat_lt⟩
def plainB (c : UInt8) : Bool := decide (32 ≤ c.toNat) && (decide (c.toNat ≤ 126) && ((c.toNat != 34) && (c.toNat != 92)))
def qbyte (c : UInt8) : List UInt8 := if plainB c then [c] else [92, hexd (c.toNat / 16), hexd (c.toNat % 16)]
def quoteL (l : List UInt8) : List UInt8 := 34 :: l.flatMap qbyte ++ [34]
theorem qbyte_len (c : UInt8) : (qbyte c).length ≤ 3 := by unfold qbyte; split <;> simp
theorem flat_len : ∀ l : List UInt8, (l.flatMap qbyte).length ≤ 3 * l.length := by
  intro l
  induction l with
  | nil => simp
  | cons c l ih => have := qbyte_len c; simp only [List.flatMap_cons, List.length_append, List.length_cons]; omega
abbrev Row := @RowOf V V.cells
theorem vvalid (v : V) (w : World) : Calls Tryz.prog 156 #[.agg #[.int .i64 v.k, .int .i64 v.n, .string v.s]] w fun e w' => e = .returned (.bool v.ok) ∧ Below w.heap.size w w' := by
  go_enter Tryz.func156, Tryz.ntmps156
  go_wp2
  all_goals go_ret
  all_goals refine ⟨ret_bool ?_, (Below.refl _ _).alloc (Nat.le_refl _) _⟩
  all_goals simp_all [V.ok, toList_isEmpty]
  all_goals omega
theorem rvalid (v : V) (w : World) : Calls Tryz.prog 178 #[.agg #[.int .i64 v.k, .int .i64 v.n, .string v.s]] w fun e w' => e = .returned (.bool v.ok) ∧ Below w.heap.size w w' := by
  go_enter Tryz.func178, Tryz.ntmps178
  go_wp2
  all_goals go_ret
  all_goals refine ⟨ret_bool ?_, (Below.refl _ _).alloc (Nat.le_refl _) _⟩
  all_goals simp_all [V.ok, toList_isEmpty]
  all_goals omega
theorem vclean (v : V) (w : World) : Calls Tryz.prog 97 #[.agg #[.int .i64 v.k, .int .i64 v.n, .string v.s]] w fun e w' => e = .returned (.agg #[.int .i64 v.cl.k, .int .i64 v.cl.n, .string v.cl.s]) ∧ Below w.heap.size w w' := by
  generalize hv : v.ok = b
  have HV := Lib.hid hv
  cases b
  · rw [V.cl_not hv]
    clear hv
    go_enter Tryz.func97, Tryz.ntmps97
    go_wp2_with (go_at_call 156; refine (vvalid v _).mono ?_; rintro e w1 ⟨rfl, hb⟩; rw [HV.out]; obtain ⟨hc1, hf1⟩ := bcell hb; have hz1 := (hb).size; try simp at hz1)
    refine bodyPost_ret (by simp [results, Tryz.results97, go_sem, hc1]; rfl) rfl ?_
    exact ⟨rfl, by (exact belQ)⟩
  · rw [V.cl_of hv]
    clear hv
    go_enter Tryz.func97, Tryz.ntmps97
    go_wp2_with (go_at_call 156; refine (vvalid v _).mono ?_; rintro e w1 ⟨rfl, hb⟩; rw [HV.out]; obtain ⟨hc1, hf1⟩ := bcell hb; have hz1 := (hb).size; try simp at hz1)
    refine bodyPost_ret (by simp [results, Tryz.results97, go_sem, hc1]; rfl) rfl ?_
    exact ⟨rfl, by (exact belQ)⟩
theorem rclean (v : V) (w : World) : Calls Tryz.prog 155 #[.agg #[.int .i64 v.k, .int .i64 v.n, .string v.s]] w fun e w' => e = .returned (.agg #[.int .i64 v.cl.k, .int .i64 v.cl.n, .string v.cl.s]) ∧ Below w.heap.size w w' := by
  generalize hv : v.ok = b
  have HV := Lib.hid hv
  cases b
  · rw [V.cl_not hv]
    clear hv
    go_enter Tryz.func155, Tryz.ntmps155
    go_wp2_with (go_at_call 178; refine (rvalid v _).mono ?_; rintro e w1 ⟨rfl, hb⟩; rw [HV.out]; obtain ⟨hc1, hf1⟩ := bcell hb; have hz1 := (hb).size; try simp at hz1)
    refine bodyPost_ret (by simp [results, Tryz.results155, go_sem, hc1]; rfl) rfl ?_
    exact ⟨rfl, by (exact belQ)⟩
  · rw [V.cl_of hv]
    clear hv
    go_enter Tryz.func155, Tryz.ntmps155
    go_wp2_with (go_at_call 178; refine (rvalid v _).mono ?_; rintro e w1 ⟨rfl, hb⟩; rw [HV.out]; obtain ⟨hc1, hf1⟩ := bcell hb; have hz1 := (hb).size; try simp at hz1)
    refine bodyPost_ret (by simp [results, Tryz.results155, go_sem, hc1]; rfl) rfl ?_
    exact ⟨rfl, by (exact belQ)⟩
end Go.Proofs.YtpnfbehbheddeaaGreatDoor
