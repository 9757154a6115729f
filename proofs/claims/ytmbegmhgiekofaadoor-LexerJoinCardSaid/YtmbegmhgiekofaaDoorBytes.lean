/- Small lemmas on bytes: a string turned to bytes and back, a row of bytes of the call's own. No condition. -/
import Derived.Test.YtmbegmhgiekofaaDoorProg
import Derived.Test.YtmbegmhgiekofaaDoorBase
import Derived.Lib.ConvBytes
import Derived.Laws.BytesArg
import Derived.Lib.Strings
import Derived.Deep.Light
namespace Go.Proofs.YtmbegmhgiekofaaDoor
open Go.RowKit

def bcells (l : List UInt8) : List Value := l.map fun c => .int .u8 c.toNat
theorem bcells_len (l : List UInt8) : (bcells l).length = l.length := by simp [bcells]
theorem bcells_append (a b : List UInt8) : bcells (a ++ b) = bcells a ++ bcells b := by simp [bcells]
theorem bcells_at {l : List UInt8} {k : Nat} {c : UInt8} (h : l[k]? = some c) : (bcells l)[k]? = some (.int .u8 c.toNat) := by simp [bcells, h]
theorem bcells_one (l : List UInt8) : ∀ u ∈ bcells l, u.oneCell' = true := by
  intro u hu
  obtain ⟨c, _, rfl⟩ := List.mem_map.1 hu
  rfl

theorem own_new (w : World) (cs : Array Value) (e : TypeId) (size n : Nat) (hn : n ≤ maxLen) (hs : cs.size = n * size) : (w.alloc (.cells cs e)).ownsRow w.heap.size e size (.slice (some ⟨w.heap.size, 0, none⟩) n n) n cs.toList :=
  ⟨by simpa using hs, .inr ⟨w.heap.size, n, cs, rfl, Nat.le_refl _, heap_alloc_new w _, Nat.le_refl _, hn, hs, by rw [← hs, ← Array.length_toList, List.take_length]⟩⟩
theorem grown_bytes (W : World) (e : TypeId) (s : ByteArray) (row : Option Nat) : W.grownBy (Lib.bytesWorld W e s) row :=
  ⟨rfl, rfl, rfl, by rw [Lib.bytesWorld_size]; omega, fun k hk _ => Lib.bytesWorld_at_old W e s k hk⟩
theorem below_bytes {B : Nat} {a W : World} (h : Below B a W) (hB : B ≤ W.heap.size) (e : TypeId) (s : ByteArray) : Below B a (Lib.bytesWorld W e s) :=
  h.grown (grown_bytes W e s none) hB (fun k hk => by cases hk)
theorem own_bytes {W : World} {base : Nat} {t : TypeId} {size n : Nat} {v : Value} {xs : List Value} (h : W.ownsRow base t size v n xs) (e : TypeId) (s : ByteArray) : (Lib.bytesWorld W e s).ownsRow base t size v n xs :=
  h.kept (grown_bytes W e s none) (by cases v.ownBlock <;> simp)
theorem rd_bytes (W : World) (e : TypeId) (s : ByteArray) : Rd (Lib.bytesWorld W e s) (W.heap.size + 1) (some ⟨W.heap.size, 0, none⟩) (bcells s.data.toList) := fun _ => by
  refine ⟨W.heap.size, 0, rfl, by omega, fun j u hu => ?_⟩
  have hj : j < s.data.toList.length := by
    have := (List.getElem?_eq_some_iff.1 hu).1
    rwa [bcells_len] at this
  rw [Nat.zero_add, Lib.bytesWorld_cell W e s j (by rw [Lib.size_eq]; exact hj), ← hu, bcells_at (List.getElem?_eq_getElem hj), List.getD, List.getElem?_eq_getElem hj]
  rfl
theorem Rd.grownAt {w w' : World} {B g off : Nat} {row : Option Nat} {xs : List Value} (h : Rd w B (some ⟨g, off, none⟩) xs) (hg : w.grownBy w' row) (hl : g < w.heap.size) (hne : some g ≠ row) : Rd w' B (some ⟨g, off, none⟩) xs := fun hx => by
  obtain ⟨b, o, e, hb, hc⟩ := h hx
  injection e with e
  injection e with e1 e2 _
  subst e1
  subst e2
  exact ⟨g, off, rfl, hb, fun j u hu => (World.cell?_of_block (hg.block g hl hne)).trans (hc j u hu)⟩
/-- One byte of a row of bytes. -/
theorem Rd.byte {w : World} {B g off : Nat} {l : List UInt8} {k : Nat} {c : UInt8} (h : Rd w B (some ⟨g, off, none⟩) (bcells l)) (hc : l[k]? = some c) : w.cell? ⟨g, off + k, none⟩ = some (.int .u8 c.toNat) := by
  have hk := bcells_at hc
  have hne : bcells l ≠ [] := by intro h0; rw [h0] at hk; simp at hk
  obtain ⟨b, o, e, hb, hcell⟩ := h hne
  injection e with e
  injection e with e1 e2 _
  subst e1
  subst e2
  exact hcell k _ hk
/-- string(b), b a row of the call's own. -/
theorem run_toStr {w : World} {base n : Nat} {v : Value} {l : List UInt8} (h : w.ownsRow base 5 1 v n (bcells l)) : (convert 31 9 v).run Tryd.prog w = .ok (.string ⟨l.toArray⟩) w := by
  have hl : l.length = n := by have := h.1; rw [bcells_len] at this; omega
  rcases h.2 with ⟨rfl, rfl⟩ | ⟨g, cap, cur, rfl, _, hg, _⟩
  · have : l = [] := List.eq_nil_of_length_eq_zero hl
    subst this
    exact run_convert_bytes_nil w 31 5 Tryd.underlying31 Tryd.underlying5 0 0 9 Tryd.underlying9
  · have hc := h.cells (g := g) (by simp [Value.ownBlock])
    have hr := run_convert_bytes_arg (P := Tryd.prog) w 31 5 Tryd.underlying31 Tryd.underlying5 g 0 n cap (l.map fun c => (c.toNat : Int)) (by simpa using hl) (fun i hi => by
      have hil : i < l.length := by omega
      have := hc i _ (bcells_at (List.getElem?_eq_getElem hil))
      have h8 : (⟨g, 0, none⟩ : Addr).add i = ⟨g, 0 + i, none⟩ := by
        unfold Addr.add
        split
        · subst_vars; rfl
        · simp
      rw [h8] at this
      rw [this]
      simp [List.getD, hil]) 9 Tryd.underlying9
    have he : strOfNums (l.map fun c => (c.toNat : Int)) = ⟨l.toArray⟩ := by simp [strOfNums, Function.comp_def]
    rw [hr, he]
theorem run_toBytes (w : World) (s : ByteArray) : (convert 9 31 (.string s)).run Tryd.prog w = .ok (.slice (some ⟨w.heap.size, 0, none⟩) s.size (grownCap w s.size 0 5)) (Lib.bytesWorld w 5 s) :=
  Lib.run_convert_string_bytes (P := Tryd.prog) w 9 31 5 s Tryd.underlying9 Tryd.underlying31 Tryd.underlying5
theorem stB : SliceTy Tryd.prog 31 5 1 1 := SliceTy.mk' Tryd.underlying31 (z := .int .u8 0) (by kernel_rfl) rfl (by decide) (by decide)

/-- A row of bytes of the call's own. -/
def OwnB (w : World) (base : Nat) (o : Value) (l : List UInt8) : Prop := w.ownsRow base 5 1 o l.length (bcells l)
theorem OwnB.nil_ (w : World) (base : Nat) : OwnB w base (.slice none 0 0) [] := World.ownsRow_nil _ _ _ _
/-- The row behind an append, in the words of bytes. -/
theorem own_more {w : World} {base : Nat} {v : Value} {l m : List UInt8} {cs : List Value} {k : Nat} (h : w.ownsRow base 5 1 v (l.length + k) (bcells l ++ cs)) (hc : cs = bcells m) (hk : m.length = k) : OwnB w base v (l ++ m) := by
  subst hc
  subst hk
  unfold OwnB
  rw [List.length_append, bcells_append]
  exact h
theorem OwnB.below {w w' : World} {base : Nat} {o : Value} {l : List UInt8} (h : OwnB w base o l) (hb : Below w.heap.size w w') : OwnB w' base o l := own_below h hb
theorem OwnB.base {w : World} {base base' : Nat} {o : Value} {l : List UInt8} (h : OwnB w base o l) (hb : base' ≤ base) : OwnB w base' o l := own_base h hb
theorem OwnB.alloc {w : World} {base : Nat} {o : Value} {l : List UInt8} (h : OwnB w base o l) (x : Obj) : OwnB (w.alloc x) base o l := World.ownsRow.alloc h x

def hexd (n : Nat) : UInt8 := (#[48, 49, 50, 51, 52, 53, 54, 55, 56, 57, 97, 98, 99, 100, 101, 102] : Array UInt8).getD n 0
set_option maxRecDepth 10000 in
theorem run_hex (n : Int) (h0 : 0 ≤ n) (h1 : n < 16) (w : World) : (Instr.index 9 (.string { data := #[48, 49, 50, 51, 52, 53, 54, 55, 56, 57, 97, 98, 99, 100, 101, 102] }) (.int .u8 n)).run Tryd.prog w = .ok (.int .u8 (hexd n.toNat).toNat) w := by
  have hx : ∀ k : Fin 16, (Instr.index 9 (.string { data := #[48, 49, 50, 51, 52, 53, 54, 55, 56, 57, 97, 98, 99, 100, 101, 102] }) (.int .u8 (k.val : Int))).run Tryd.prog w = .ok (.int .u8 (hexd k.val).toNat) w := by
    intro k
    have h2 : (k.val : Int) < 16 := by omega
    have h3 := k.isLt
    simp [go_sem, h2, hexd]
    congr 1
  obtain ⟨m, rfl⟩ := Int.eq_ofNat_of_zero_le h0
  exact hx ⟨m, by omega⟩
theorem hi4 (c : UInt8) : (0:Int) ≤ (c.toNat:Int) / 16 ∧ (c.toNat:Int) / 16 < 16 := by have := c.toNat_lt; omega
theorem lo4 (c : UInt8) : (0:Int) ≤ (c.toNat:Int) % 16 ∧ (c.toNat:Int) % 16 < 16 := by omega
theorem and15 (c : UInt8) : bits .and .u8 (c.toNat : Int) 15 = (c.toNat : Int) % 16 := by
  have h : ∀ k : Fin 256, bits .and .u8 (k.val : Int) 15 = (k.val : Int) % 16 := by decide +kernel
  exact h ⟨c.toNat, c.toNat_lt⟩
theorem wrap16 (c : UInt8) : IntKind.u8.wrap ((c.toNat : Int) / 16) = (c.toNat : Int) / 16 := by
  have h : ∀ k : Fin 256, IntKind.u8.wrap ((k.val : Int) / 16) = (k.val : Int) / 16 := by decide +kernel
  exact h ⟨c.toNat, c.toNat_lt⟩
end Go.Proofs.YtmbegmhgiekofaaDoor
