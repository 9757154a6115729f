/- Small general lemmas that the walks of this seat use: readings of slices, owned rows, worlds that only grew. No condition. -/
import Derived.WalkKit
import Derived.WalkSpells
import Derived.WalkLawsBesides
import Derived.Below
import Derived.Lib.Hide
import Derived.Laws.ResultCell
import Derived.Laws.OwnMore
import Derived.Maps.AppendAt
import Derived.Deep.AppendLies
import Derived.Deep.Draws
import Derived.Deep.RegionHeld3
import Derived.Deep.QuietTactic
import Derived.BigQuiet
import Derived.Deep.LoopGhost
import Derived.Deep.DeepFit
import Derived.OwnWalk
import Derived.Defers
import Derived.Recover
namespace Go.Proofs.YtmbegmhgiekofaaDoor
open Go.RowKit

theorem ret_bool {a b : Bool} (h : a = b) : Ending.returned (.bool a) = .returned (.bool b) := by rw [h]
theorem ret_int {k : IntKind} {a b : Int} (h : a = b) : Ending.returned (.int k a) = .returned (.int k b) := by rw [h]
theorem ret_str {a b : ByteArray} (h : a = b) : Ending.returned (.string a) = .returned (.string b) := by rw [h]
theorem val_str {a b : ByteArray} (h : a = b) : Value.string a = .string b := by rw [h]
theorem val_int {k : IntKind} {a b : Int} (h : a = b) : Value.int k a = .int k b := by rw [h]
theorem val_bool {a b : Bool} (h : a = b) : Value.bool a = .bool b := by rw [h]

theorem bcell {W w1 : World} (hb : Below W.heap.size W w1) : (∀ b o, b < W.heap.size → w1.cell? ⟨b, o, none⟩ = W.cell? ⟨b, o, none⟩) ∧ (∀ b o, b < W.heap.size → w1.frozen? ⟨b, o, none⟩ = W.frozen? ⟨b, o, none⟩) :=
  ⟨fun b o h => hb.cell (p := ⟨b, o, none⟩) h, fun b o h => hb.frozen (p := ⟨b, o, none⟩) h⟩
theorem below_drewN {B : Nat} {a w : World} (h : Below B a w) (n : Nat) : Below B a (w.drewN n) := ⟨h.os, h.tape, h.output, h.size, h.block⟩
/-- One call further: what the call left as it was below its own start stays below an earlier one. -/
theorem below_step {B : Nat} {a W w1 : World} (hb : Below W.heap.size W w1) (h : Below B a W) (hB : B ≤ a.heap.size) : Below B a w1 :=
  h.trans (hb.mono (Nat.le_trans hB h.size))
theorem below_step1 {a W w1 : World} (hb : Below W.heap.size W w1) (h : Below a.heap.size a W) : Below a.heap.size a w1 := below_step hb h (Nat.le_refl _)
theorem below_up {B : Nat} {a W w1 : World} (hb : Below W.heap.size W w1) (h : Below B a W) (hB : B ≤ W.heap.size) : Below B a w1 :=
  h.trans (hb.mono hB)

/-- An owned row stays as it is where a call has only made new memory. -/
theorem own_below {w w' : World} {base : Nat} {e : TypeId} {size : Nat} {v : Value} {n : Nat} {xs : List Value} (h : w.ownsRow base e size v n xs) (hb : Below w.heap.size w w') : w'.ownsRow base e size v n xs :=
  h.kept (row := none) ⟨hb.os, hb.tape, hb.output, hb.size, fun k hk _ => hb.block k hk⟩ (by cases h0 : v.ownBlock <;> simp)
theorem own_drewN {w : World} {base : Nat} {e : TypeId} {size : Nat} {v : Value} {n : Nat} {xs : List Value} (h : w.ownsRow base e size v n xs) (k : Nat) : (w.drewN k).ownsRow base e size v n xs := h
theorem own_base {w : World} {base base' : Nat} {e : TypeId} {size : Nat} {v : Value} {n : Nat} {xs : List Value} (h : w.ownsRow base e size v n xs) (hb : base' ≤ base) : w.ownsRow base' e size v n xs := by
  refine ⟨h.1, ?_⟩
  rcases h.2 with h2 | ⟨g, cap, cur, h3, h4, h5⟩
  · exact .inl h2
  · exact .inr ⟨g, cap, cur, h3, Nat.le_trans hb h4, h5⟩
theorem own_slice {w : World} {base : Nat} {e : TypeId} {size : Nat} {v : Value} {n : Nat} {xs : List Value} (h : w.ownsRow base e size v n xs) : ∃ A c, v = .slice A n c ∧ n ≤ c ∧ c ≤ maxLen := by
  rcases h.2 with ⟨rfl, rfl⟩ | ⟨g, cap, cur, rfl, _, _, h5, h6, _⟩
  · exact ⟨_, _, rfl, Nat.le_refl _, Nat.zero_le _⟩
  · exact ⟨_, _, rfl, h5, h6⟩

/-- The cells from an address on read as xs; nothing is asked where there are none. -/
def Rd (w : World) (B : Nat) (A : Option Addr) (xs : List Value) : Prop :=
  xs ≠ [] → ∃ b off, A = some ⟨b, off, none⟩ ∧ b < B ∧ ∀ j u, xs[j]? = some u → w.cell? ⟨b, off + j, none⟩ = some u
section
variable {w w' : World} {B B' : Nat} {A : Option Addr} {xs : List Value}
theorem Rd.keep (h : Rd w B A xs) (hk : ∀ p : Addr, p.block < B → w'.cell? p = w.cell? p) : Rd w' B A xs := fun hx => by
  obtain ⟨b, off, e, hb, hc⟩ := h hx
  exact ⟨b, off, e, hb, fun j u hu => (hk ⟨b, off + j, none⟩ hb).trans (hc j u hu)⟩
theorem Rd.more (h : Rd w B A xs) (hB : B ≤ B') : Rd w B' A xs := fun hx => by
  obtain ⟨b, off, e, hb, hc⟩ := h hx
  exact ⟨b, off, e, by omega, hc⟩
theorem Rd.below (h : Rd w B A xs) (hb : Below B w w') : Rd w' B A xs := h.keep fun _ hp => hb.cell hp
theorem Rd.of_own {base : Nat} {e : TypeId} {size n c : Nat} (h : w.ownsRow base e size (.slice A n c) n xs) : Rd w w.heap.size A xs := fun hx => by
  rcases h.2 with ⟨h1, rfl⟩ | ⟨g, cap, cur, h1, h2, h3, h4, h5, h6, h7⟩
  · exact absurd (List.eq_nil_of_length_eq_zero (by simpa using h.1)) hx
  · injection h1 with h1 _ _
    subst h1
    refine ⟨g, 0, rfl, ?_, fun j u hu => ?_⟩
    · rcases Nat.lt_or_ge g w.heap.size with hl | hl
      · exact hl
      · rw [Array.getElem?_eq_none hl] at h3; cases h3
    · have := h.cells (g := g) (by simp [Value.ownBlock]) j u hu
      rw [Nat.zero_add]
      have h8 : (⟨g, 0, none⟩ : Addr).add j = ⟨g, j, none⟩ := by
        unfold Addr.add
        split
        · subst_vars; rfl
        · simp
      rw [h8] at this
      exact this
end

/-- A slice of elements of sz cells each reads as the list xs. -/
structure RowOf {α : Type} (cells : α → List Value) (w : World) (B : Nat) (A : Option Addr) (n : Nat) (xs : List α) : Prop where
  len : xs.length = n
  rd : Rd w B A (xs.flatMap cells)
section
variable {α : Type} {cells : α → List Value} {w w' : World} {B B' n : Nat} {A : Option Addr} {xs : List α}
theorem flatMap_at (sz : Nat) (hsz : ∀ x, (cells x).length = sz) : ∀ (xs : List α) (k j : Nat) (x : α) (u : Value), xs[k]? = some x → (cells x)[j]? = some u → (xs.flatMap cells)[k * sz + j]? = some u := by
  intro xs
  induction xs with
  | nil => intro k j x u h; simp at h
  | cons y ys ih =>
    intro k j x u h1 h2
    cases k with
    | zero =>
      simp at h1
      subst h1
      have hj : j < (cells y).length := (List.getElem?_eq_some_iff.1 h2).1
      simp only [List.flatMap_cons, Nat.zero_mul, Nat.zero_add]
      rw [List.getElem?_append_left hj]
      exact h2
    | succ k =>
      simp at h1
      have := ih k j x u h1 h2
      simp only [List.flatMap_cons]
      rw [List.getElem?_append_right (by rw [hsz, Nat.succ_mul]; omega), hsz]
      rw [← this]
      congr 1
      rw [Nat.succ_mul]
      omega
theorem flatMap_len (sz : Nat) (hsz : ∀ x, (cells x).length = sz) : ∀ (xs : List α), (xs.flatMap cells).length = xs.length * sz := by
  intro xs
  induction xs with
  | nil => simp
  | cons y ys ih => simp only [List.flatMap_cons, List.length_append, List.length_cons, ih, hsz, Nat.succ_mul]; omega
theorem RowOf.at_ (sz : Nat) (hsz : ∀ x, (cells x).length = sz) (hp : 0 < sz) (h : RowOf cells w B A n xs) {k : Nat} (hk : k < n) :
    ∃ b off x, A = some ⟨b, off, none⟩ ∧ b < B ∧ xs[k]? = some x ∧ ∀ j u, (cells x)[j]? = some u → w.cell? ⟨b, off + k * sz + j, none⟩ = some u := by
  have hl : k < xs.length := by have := h.len; omega
  have hne : xs.flatMap cells ≠ [] := by
    intro h0
    have := congrArg List.length h0
    rw [flatMap_len sz hsz] at this
    have h2 : 1 * 1 ≤ xs.length * sz := Nat.mul_le_mul (by omega) (by omega)
    simp only [List.length_nil] at this
    omega
  obtain ⟨b, off, e, hb, hc⟩ := h.rd hne
  refine ⟨b, off, xs[k], e, hb, List.getElem?_eq_getElem hl, fun j u hu => ?_⟩
  have := hc (k * sz + j) u (flatMap_at sz hsz xs k j _ u (List.getElem?_eq_getElem hl) hu)
  rw [← Nat.add_assoc] at this
  exact this
theorem RowOf.below (h : RowOf cells w B A n xs) (hb : Below B w w') : RowOf cells w' B A n xs := ⟨h.len, h.rd.below hb⟩
theorem RowOf.more (h : RowOf cells w B A n xs) (hB : B ≤ B') : RowOf cells w B' A n xs := ⟨h.len, h.rd.more hB⟩
theorem RowOf.keep (h : RowOf cells w B A n xs) (hk : ∀ p : Addr, p.block < B → w'.cell? p = w.cell? p) : RowOf cells w' B A n xs := ⟨h.len, h.rd.keep hk⟩
theorem RowOf.drew (h : RowOf cells w B A n xs) : RowOf cells w.drew B A n xs := ⟨h.len, h.rd⟩
theorem RowOf.alloc (h : RowOf cells w B A n xs) (hB : B ≤ w.heap.size) (o : Obj) : RowOf cells (w.alloc o) B A n xs :=
  h.keep fun p hp => World.cell?_alloc_lt w o p (by omega)
theorem RowOf.nil_ : RowOf cells w B A 0 [] := ⟨rfl, fun h => absurd rfl h⟩
theorem RowOf.of_own {base : Nat} {e : TypeId} {size c : Nat} (h : w.ownsRow base e size (.slice A n c) n (xs.flatMap cells)) (hn : xs.length = n) : RowOf cells w w.heap.size A n xs := ⟨hn, Rd.of_own h⟩
end

/-- What an append asks of the types: a slice type, its element's size in cells and bytes. -/
def SliceTy (P : Program) (t e : TypeId) (size bytes : Nat) : Prop :=
  ∃ i z, P.underlying t = some (.slice e) ∧ P.info? e = some i ∧ i.zero = some z ∧ i.size = size ∧ i.bytes = bytes ∧ z.cells.size = size ∧ 0 < size ∧ 0 < bytes
theorem SliceTy.mk' {P : Program} {t e : TypeId} {size bytes : Nat} {z : Value} (hu : P.underlying t = some (.slice e))
    (h : (P.info? e).map (fun i => (i.zero, i.size, i.bytes)) = some (some z, size, bytes)) (hz : z.cells.size = size) (hs : 0 < size) (hb : 0 < bytes) : SliceTy P t e size bytes := by
  obtain ⟨i, h0, h1, h2, h3⟩ := info_parts h
  exact ⟨i, z, hu, h0, h1, h2, h3, hz, hs, hb⟩

section
variable {P : Program} {ops : Array Oper} {rest : List Oper} {o : Oper} {a : Act} {Q : Exit → Act → World → Prop} {W : World} {cs : Array Value} {te : TypeId}
theorem new_cells (W : World) (cs : Array Value) (te : TypeId) : ∀ j u, cs.toList[j]? = some u → (W.alloc (.cells cs te)).cell? ((⟨W.heap.size, 0, none⟩ : Addr).add j) = some u := by
  intro j u hu
  have h := cell_of_row (W.alloc (.cells cs te)) W.heap.size j cs te (0, 0) (heap_alloc_new W _)
  simp only [Addr.add]
  split
  · subst_vars; rw [h]; simpa using hu
  · rw [Nat.zero_add, h]; simpa using hu

/-- append of cells that were just laid, onto a row of the call's own. -/
theorem wp_app {K : Act → World → Prop} (s x : Operand) {t e : TypeId} {size bytes : Nat} (ST : SliceTy P t e size bytes)
    (ho : o.op = .call { callee := .builtin .append, args := #[s, x], argTypes := #[t, t] })
    {base : Nat} {v : Value} {n : Nat} {xs : List Value} (hs : a.eval s = v) (hown : W.ownsRow base e size v n xs)
    {g m c : Nat} (hx : a.eval x = .slice (some ⟨g, 0, none⟩) m c) (hgq : g = W.heap.size) (hl : cs.size = m * size) (h1 : ∀ u ∈ cs.toList, u.oneCell' = true)
    (hbytes : (n + m) * bytes ≤ 140737488355328) (hbase : base ≤ W.heap.size)
    (h : ∀ v' w', w'.ownsRow base e size v' (n + m) (xs ++ cs.toList) → W.grownBy w' v.ownBlock → (v'.ownBlock = v.ownBlock ∨ v'.ownBlock = some (W.heap.size + 1)) → K (a.put o.dst v') w') :
    o.wp P a (W.alloc (.cells cs te)) K Q := by
  subst hgq
  obtain ⟨i, z, h2, h3, h4, h5, h6, h7, h8, h9⟩ := ST
  have h63 : n + m ≤ maxLen := by
    have : (n + m) * 1 ≤ (n + m) * bytes := Nat.mul_le_mul_left _ h9
    unfold maxLen
    omega
  obtain ⟨v', w', hrun, g1, g2, _, g3⟩ := run_append_own_at (P := P) (W.alloc (.cells cs te)) base t o.type e i z size bytes h2 h3 h4 h5 h6 h7 h8 v n xs (hown.alloc _) ⟨W.heap.size, 0, none⟩ m c cs.toList (by simpa using hl) (new_cells W cs te) h1 h63 hbytes (by simp; omega)
  unfold Oper.wp execOp
  simp only [ho, resolve, invoke, builtin, Sem.run_bind, Sem.run_pure, Result.andThen_ok, List.map_toArray, List.map_cons, List.map_nil, hs, hx, hrun]
  refine h v' w' g1 ⟨g2.os, g2.tape, g2.output, Nat.le_trans (by simp) g2.size, fun k hk hne => (g2.block k (by simp; omega) hne).trans (Below.heap_alloc W _ k hk)⟩ (by simpa using g3)
theorem wpList_app (hgd : o.guard = none) (s x : Operand) {t e : TypeId} {size bytes : Nat} (ST : SliceTy P t e size bytes)
    (ho : o.op = .call { callee := .builtin .append, args := #[s, x], argTypes := #[t, t] })
    {base : Nat} {v : Value} {n : Nat} {xs : List Value} (hs : a.eval s = v) (hown : W.ownsRow base e size v n xs)
    {g m c : Nat} (hx : a.eval x = .slice (some ⟨g, 0, none⟩) m c) (hgq : g = W.heap.size) (hl : cs.size = m * size) (h1 : ∀ u ∈ cs.toList, u.oneCell' = true)
    (hbytes : (n + m) * bytes ≤ 140737488355328) (hbase : base ≤ W.heap.size)
    (h : ∀ v' w', w'.ownsRow base e size v' (n + m) (xs ++ cs.toList) → W.grownBy w' v.ownBlock → (v'.ownBlock = v.ownBlock ∨ v'.ownBlock = some (W.heap.size + 1)) → wpList P ops Q rest (a.put o.dst v') w') :
    wpList P ops Q (o :: rest) a (W.alloc (.cells cs te)) :=
  wpList_plain hgd fun _ hK => wp_app s x ST ho hs hown hx hgq hl h1 hbytes hbase fun v' w' h2 h3 h4 => hK _ _ (h v' w' h2 h3 h4)
theorem step_app {K : Act → World → Prop} {E : Prop} (hgd : o.guard = none) (s x : Operand) {t e : TypeId} {size bytes : Nat} (ST : SliceTy P t e size bytes)
    (ho : o.op = .call { callee := .builtin .append, args := #[s, x], argTypes := #[t, t] })
    {base : Nat} {v : Value} {n : Nat} {xs : List Value} (hs : a.eval s = v) (hown : W.ownsRow base e size v n xs)
    {g m c : Nat} (hx : a.eval x = .slice (some ⟨g, 0, none⟩) m c) (hgq : g = W.heap.size) (hl : cs.size = m * size) (h1 : ∀ u ∈ cs.toList, u.oneCell' = true)
    (hbytes : (n + m) * bytes ≤ 140737488355328) (hbase : base ≤ W.heap.size)
    (h : ∀ v' w', w'.ownsRow base e size v' (n + m) (xs ++ cs.toList) → W.grownBy w' v.ownBlock → (v'.ownBlock = v.ownBlock ∨ v'.ownBlock = some (W.heap.size + 1)) → K (a.put o.dst v') w') :
    if Region.wanted o (yielded ops a.tmps) = true then Oper.wp P o a (W.alloc (.cells cs te)) K Q else E := by
  have hw : Region.wanted o (yielded ops a.tmps) = true := by simp [Region.wanted, hgd]
  rw [if_pos hw]
  exact wp_app s x ST ho hs hown hx hgq hl h1 hbytes hbase h
/-- The same behind the region's draw. -/
theorem step_appD {K : Act → World → Prop} {E : Prop} (hgd : o.guard = none) (s x : Operand) {t e : TypeId} {size bytes : Nat} (ST : SliceTy P t e size bytes)
    (ho : o.op = .call { callee := .builtin .append, args := #[s, x], argTypes := #[t, t] })
    {base : Nat} {v : Value} {n : Nat} {xs : List Value} (hs : a.eval s = v) (hown : W.ownsRow base e size v n xs)
    {g m c : Nat} (hx : a.eval x = .slice (some ⟨g, 0, none⟩) m c) (hgq : g = W.heap.size) (hl : cs.size = m * size) (h1 : ∀ u ∈ cs.toList, u.oneCell' = true)
    (hbytes : (n + m) * bytes ≤ 140737488355328) (hbase : base ≤ W.heap.size)
    (h : ∀ v' w', w'.ownsRow base e size v' (n + m) (xs ++ cs.toList) → W.grownBy w' v.ownBlock → (v'.ownBlock = v.ownBlock ∨ v'.ownBlock = some (W.heap.size + 1)) → K (a.put o.dst v') w') :
    if Region.wanted o (yielded ops a.tmps) = true then Oper.wp P o a (W.alloc (.cells cs te)).drew K Q else E :=
  step_app (W := W.drew) hgd s x ST ho hs hown hx hgq hl h1 hbytes hbase fun v' w' h2 h3 h4 => h v' w' h2 ⟨h3.os, h3.tape, h3.output, h3.size, h3.block⟩ h4
end
/-- Behind an append onto a row from base on, what lies below base is as it was. -/
theorem below_app {base B : Nat} {e : TypeId} {size n : Nat} {v : Value} {xs : List Value} {a W w' : World} (h : Below B a W) (hown : W.ownsRow base e size v n xs) (hg : W.grownBy w' v.ownBlock) (hB : B ≤ base) (hW : B ≤ W.heap.size) : Below B a w' :=
  h.grown hg hW fun k hk => Nat.le_trans hB (hown.lt k hk).1

/-- For a region that draws its order: every world on the way only adds to the one at its head. -/
theorem ext_refl (W : World) : Below W.heap.size W W.drew ∧ ∀ b o, b < W.heap.size → W.drew.cell? ⟨b, o, none⟩ = W.cell? ⟨b, o, none⟩ := ⟨(Below.refl _ _).drew, fun _ _ _ => rfl⟩
theorem ext_step {W w w1 : World} (hb : Below w.heap.size w w1) (h : Below W.heap.size W w ∧ ∀ b o, b < W.heap.size → w.cell? ⟨b, o, none⟩ = W.cell? ⟨b, o, none⟩) :
    Below W.heap.size W w1 ∧ ∀ b o, b < W.heap.size → w1.cell? ⟨b, o, none⟩ = W.cell? ⟨b, o, none⟩ := by
  have h1 := below_step hb h.1 (Nat.le_refl _)
  exact ⟨h1, fun b o hb => h1.cell (p := ⟨b, o, none⟩) hb⟩
theorem ext_drew {W w : World} (h : Below W.heap.size W w ∧ ∀ b o, b < W.heap.size → w.cell? ⟨b, o, none⟩ = W.cell? ⟨b, o, none⟩) :
    Below W.heap.size W w.drew ∧ ∀ b o, b < W.heap.size → w.drew.cell? ⟨b, o, none⟩ = W.cell? ⟨b, o, none⟩ := ⟨h.1.drew, h.2⟩
theorem ext_alloc {W w : World} (h : Below W.heap.size W w ∧ ∀ b o, b < W.heap.size → w.cell? ⟨b, o, none⟩ = W.cell? ⟨b, o, none⟩) (o : Obj) :
    Below W.heap.size W (w.alloc o) ∧ ∀ b o', b < W.heap.size → (w.alloc o).cell? ⟨b, o', none⟩ = W.cell? ⟨b, o', none⟩ := by
  have h1 := h.1.alloc h.1.size o
  exact ⟨h1, fun b o hb => h1.cell (p := ⟨b, o, none⟩) hb⟩
end Go.Proofs.YtmbegmhgiekofaaDoor
