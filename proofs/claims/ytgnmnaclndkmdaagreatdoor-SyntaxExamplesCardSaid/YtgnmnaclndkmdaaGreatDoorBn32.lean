/- A parser that has read all, as its block, its rows and the finished references. No condition. The check of catalogues of layer 4, as the program does it: a mirror in plain Lean. No program in sight, no condition. The offset of a declaration by its number: start. The rows of offsets have at most 100000 elements. What Sort and Compact give is what inserting one by one gives. Plain Lean, no condition. Contracts of the tape's New and Row. The tape has fewer than 2^44 numbers, rows fewer than a thousand values. What Substitute gives, in plain Lean. No program in sight, no condition. Contract of the program's Columns. sort and compact of a row of numbers among the parts of memory. At most 1000000 numbers. What a source declares hangs together: as many owners as columns, as many names as items. Plain Lean, no program in sight, no condition. -/
import Derived.Test.YtgnmnaclndkmdaaGreatDoorBn31
import Derived.Test.YtgnmnaclndkmdaaGreatDoorBn17
import Derived.Test.YtgnmnaclndkmdaaGreatDoorBn09
import Derived.Test.YtgnmnaclndkmdaaGreatDoorBn02
import Derived.Lib.SlicesCompact
import Derived.Test.YtgnmnaclndkmdaaGreatDoorBn19
import Derived.Test.YtgnmnaclndkmdaaGreatDoorBn06
import Derived.Test.YtgnmnaclndkmdaaGreatDoorBn03
import Derived.Test.YtgnmnaclndkmdaaGreatDoorBn00
import Derived.Test.YtgnmnaclndkmdaaGreatDoorBn01
import Derived.Test.YtgnmnaclndkmdaaGreatDoorShelfB
import Derived.Laws.StructEq
import Derived.Deep.DeepCutAuto
import Derived.Deep.RegionWith
import Derived.Deep.Light
import Derived.Test.YtgnmnaclndkmdaaGreatDoorShelf
import Derived.Lib.OwnBridge
import Derived.Sort.OwnSortedInts
namespace Go.Proofs.YtgnmnaclndkmdaaGreatDoor
open Go.RowKit

/-- The finished references. -/
def poolA (pool : Pool) : HA where
  holds w S := PoolAt w pool ∧ S = fun k => ∃ x ∈ pool, x.1.ownBlock = some k
  keep := by
    rintro w w' S ⟨h, rfl⟩ g
    exact ⟨fun x hx => own_agree (h x hx) g fun k hk => ⟨x, hx, hk⟩, rfl⟩
  lt := by
    rintro w S ⟨h, rfl⟩ k ⟨x, hx, hk⟩
    exact ((h x hx).lt k hk).2
def rowI (p : Pp) (ns : Nat → Nat) (cs : Nat → List Value) (i : Nat) : HA := rowA (rty i) (rsz i) (p.rowV i) (ns i) (cs i)
theorem rows_sep {p : Pp} {lo : Nat} {w : World} {s : Ps} {rv : Value} {ns : Nat → Nat} {cs : Nat → List Value} (h : DSt p lo w s rv ns cs) : ∀ (L : List Nat), L.Nodup → (∀ i ∈ L, i < 21) → Sep (L.map (rowI p ns cs)) w (fun k => ∃ i ∈ L, (p.rowV i).ownBlock = some k)
  | [], _, _ => fun k ⟨i, hi, _⟩ => by cases hi
  | i :: L, hd, hL => by
    rw [List.nodup_cons] at hd
    refine ⟨fun k => (p.rowV i).ownBlock = some k, _, ⟨own_base (h.rows i (hL i (List.mem_cons_self ..))) (Nat.zero_le _), rfl⟩, rows_sep h L hd.2 fun j hj => hL j (List.mem_cons_of_mem _ hj), ?_, fun k => ?_⟩
    · rintro k hk ⟨j, hj, hk2⟩
      exact h.dist i j k (hL i (List.mem_cons_self ..)) (hL j (List.mem_cons_of_mem _ hj)) (fun e => hd.1 (e ▸ hj)) hk hk2
    · constructor
      · rintro ⟨j, hj, hk⟩
        rcases List.mem_cons.1 hj with rfl | hj
        · exact .inl hk
        · exact .inr ⟨j, hj, hk⟩
      · rintro (hk | ⟨j, hj, hk⟩)
        · exact ⟨i, List.mem_cons_self .., hk⟩
        · exact ⟨j, List.mem_cons_of_mem _ hj, hk⟩
theorem HS.explode {p : Pp} {w : World} {s : Ps} {ns : Nat → Nat} {cs : Nat → List Value} {pool : Pool} {l : List HA} (H : HS w (dA p s ns cs pool :: l)) :
    ∃ rv, HS w (boxA p.pb (psC p s rv) 58 :: poolA pool :: ((List.range 21).map (rowI p ns cs) ++ l)) := by
  obtain ⟨S, ⟨rv, h, hq, rfl⟩, h2⟩ := H.go
  have hR := rows_sep h (List.range 21) List.nodup_range fun i hi => List.mem_range.1 hi
  have hty : ∀ x ∈ pool, ∀ k, x.1.ownBlock = some k → ∃ cur, w.heap[k]? = some (.cells cur 88 (0, 0)) := fun x hx k hk => ref_blk (hq x hx) hk
  have hpr : ∀ k, (∃ x ∈ pool, x.1.ownBlock = some k) → ¬ ∃ i ∈ List.range 21, (p.rowV i).ownBlock = some k := by
    rintro k ⟨x, hx, hk⟩ ⟨i, hi, hk2⟩
    obtain ⟨c, hc⟩ := hty x hx k hk
    obtain ⟨c2, hc2⟩ := ref_blk (h.rows i (List.mem_range.1 hi)) hk2
    rw [hc] at hc2
    injection hc2 with hc2
    injection hc2 with _ hc2
    exact (rty_ne i (List.mem_range.1 hi)).1 hc2.symm
  have hpb : ∀ k, k = p.pb → ¬ ((∃ x ∈ pool, x.1.ownBlock = some k) ∨ ∃ i ∈ List.range 21, (p.rowV i).ownBlock = some k) := by
    rintro k rfl (⟨x, hx, hk⟩ | ⟨i, hi, hk⟩)
    · obtain ⟨c, hc⟩ := hty x hx _ hk
      rw [h.at_.blk] at hc
      injection hc with hc
      injection hc with _ hc
      exact absurd hc (by decide)
    · have := ((h.rows i (List.mem_range.1 hi)).lt _ hk).1
      omega
  have hB : (allA (boxA p.pb (psC p s rv) 58 :: poolA pool :: (List.range 21).map (rowI p ns cs))).holds w (fun k => k = p.pb ∨ (∃ x ∈ pool, x.1.ownBlock = some k) ∨ ∃ i ∈ List.range 21, (p.rowV i).ownBlock = some k) :=
    ⟨(· = p.pb), _, ⟨h.at_.blk, rfl⟩, ⟨_, _, ⟨hq, rfl⟩, hR, hpr, fun _ => Iff.rfl⟩, hpb, fun _ => Iff.rfl⟩
  have H2 := h2 w _ _ (PFr.refl _ _) hB fun k hk => by
    rcases hk with hk | hk | ⟨i, hi, hk⟩
    · exact .inl (.inl hk)
    · exact .inl (.inr (.inr (.inr (.inr hk))))
    · exact .inl (.inr (.inr (.inr (.inl ⟨i, List.mem_range.1 hi, hk⟩))))
  exact ⟨rv, H2.all_⟩
/-- A store into a row. -/
theorem HS.rowStore {w : World} {l l' : List HA} {e : TypeId} {size n g cap : Nat} {xs : List Value} (H : HS w l) (hp : Pick l (rowA e size (.slice (some ⟨g, 0, none⟩) n cap) n xs) l') (j : Nat) (_hj : j < xs.length) (u : Value) :
    HS (w.setCell ⟨g, j, none⟩ u) (rowA e size (.slice (some ⟨g, 0, none⟩) n cap) n (xs.set j u) :: l') := by
  obtain ⟨S, ⟨h, rfl⟩, h2⟩ := (H.pick hp).go
  refine h2 _ _ _ ((PFr.refl (fun k => (Value.slice (some ⟨g, 0, none⟩) n cap).ownBlock = some k) w).setCell (q := ⟨g, j, none⟩) (.inl rfl) u) ⟨⟨by rw [List.length_set]; exact h.1, ?_⟩, rfl⟩ fun k hk => .inl hk
  rcases h.2 with ⟨h1, -⟩ | ⟨g', cap', cur, h1, h3, h4, h5, h6, h7, h8⟩
  · cases h1
  · injection h1 with h1 _ hc
    injection h1 with h1
    injection h1 with h1 _ _
    subst h1 hc
    refine .inr ⟨g, cap, cur.set! j u, rfl, h3, heap_set h4 u, h5, h6, by rw [Array.set!_eq_setIfInBounds, Array.size_setIfInBounds]; exact h7, ?_⟩
    rw [Array.set!_eq_setIfInBounds, Array.toList_setIfInBounds, ← h8, List.take_set]
end Go.Proofs.YtgnmnaclndkmdaaGreatDoor
namespace Go.Proofs.YtgnmnaclndkmdaaGreatDoor

/-- A checker: the names of the declarations so far; the stores so far with the names and types of their columns. -/
structure Ck where
  seen : List Bs
  stores : List (Bs × List Bs × List Int)
def withinI (n a b : Int) : Bool := decide (a ≤ n) && decide (n ≤ b)
/-- The error of the name of a declaration. -/
def declC (k : Ck) (s : Bs) : Int := if isNameB s = false then 3 else if k.seen.contains s = true then 4 else 0
def ownersC (t : Tab) : Int → List Int → Bool
  | _, [] => true
  | b, o :: l => decide (b < o) && (match t.cols[o.toNat]? with
    | none => false
    | some c => decide (c.ns ≠ [] ∨ c.rf ≠ []) && ownersC t o l)
def rulesC (t : Tab) (c : Col) : Bool :=
  if c.joint ≠ 0 ∧ (c.joint ≠ 1 ∨ c.owners = []) then false
  else if withinI c.duty 0 1048576 = false then false
  else if c.duty ≠ 0 ∧ c.owners = [] then false
  else decide (t.retain = 0 ∨ c.duty ≤ t.retain)
end Go.Proofs.YtgnmnaclndkmdaaGreatDoor
namespace Go.Proofs.YtgnmnaclndkmdaaGreatDoor
open Go.RowKit

abbrev RowZ := @RowOf Int (fun z => [Value.int .i64 z])
theorem RowZ.at1 {w : World} {B n : Nat} {A : Option Addr} {ss : List Int} (h : RowZ w B A n ss) {k : Nat} (hk : k < n) : ∃ b off z, A = some ⟨b, off, none⟩ ∧ b < B ∧ ss[k]? = some z ∧ w.cell? ⟨b, off + k, none⟩ = some (.int .i64 z) := by
  obtain ⟨b, off, s, h1, h2, h3, h4⟩ := h.at_ 1 (fun _ => rfl) (by omega) hk
  have := h4 0 _ rfl
  rw [Nat.mul_one] at this
  exact ⟨b, off, s, h1, h2, h3, this⟩
end Go.Proofs.YtgnmnaclndkmdaaGreatDoor
namespace Go.Proofs.YtgnmnaclndkmdaaGreatDoor

theorem asc_snoc : ∀ (l : List Int) (x : Int), asc l → (∀ y ∈ l, y < x) → asc (l ++ [x]) := by
  intro l
  induction l with
  | nil => intro x _ _; trivial
  | cons a l ih =>
    intro x h hx
    refine asc_cons (ih x (asc_tail h) (fun y hy => hx y (by simp [hy]))) (fun y hy => ?_)
    rcases List.mem_append.1 hy with hy | hy
    · exact asc_lt h y hy
    · simp at hy; subst hy; exact hx a (by simp)
theorem compact_upto (d : Array Int) (hs : ∀ i j, i < j → j < d.size → d[i]! ≤ d[j]!) : ∀ m, m ≤ d.size → asc (Lib.compactUpTo d m) ∧ ∀ x, x ∈ Lib.compactUpTo d m ↔ ∃ i, i < m ∧ d[i]! = x := by
  intro m
  induction m with
  | zero => intro _; exact ⟨trivial, fun x => by simp [Lib.compactUpTo]⟩
  | succ m ih =>
    intro hm
    obtain ⟨h1, h2⟩ := ih (by omega)
    rw [Lib.compactUpTo_succ]
    cases hk : Lib.keeps d m
    · have hk2 := hk
      simp [Lib.keeps] at hk2
      obtain ⟨h0, he⟩ := hk2
      rw [if_neg (by decide), List.append_nil]
      refine ⟨h1, fun x => ?_⟩
      rw [h2]
      constructor
      · rintro ⟨i, hi, e⟩; exact ⟨i, by omega, e⟩
      · rintro ⟨i, hi, e⟩
        rcases Nat.lt_or_ge i m with h | h
        · exact ⟨i, h, e⟩
        · obtain rfl : i = m := by omega
          exact ⟨i - 1, by omega, by rw [← e, he]⟩
    · rw [if_pos rfl]
      refine ⟨asc_snoc _ _ h1 (fun y hy => ?_), fun x => ?_⟩
      · obtain ⟨i, hi, e⟩ := (h2 y).1 hy
        have hk2 := hk
        simp [Lib.keeps] at hk2
        rcases hk2 with h0 | hne
        · omega
        · have a1 := hs (m - 1) m (by omega) (by omega)
          have a2 : d[i]! ≤ d[m - 1]! := by
            rcases Nat.lt_or_ge i (m - 1) with h | h
            · exact hs i (m - 1) h (by omega)
            · obtain rfl : i = m - 1 := by omega
              exact Int.le_refl _
          omega
      · rw [List.mem_append, h2]
        constructor
        · rintro (⟨i, hi, e⟩ | h)
          · exact ⟨i, by omega, e⟩
          · simp at h; exact ⟨m, by omega, h.symm⟩
        · rintro ⟨i, hi, e⟩
          rcases Nat.lt_or_ge i m with h | h
          · exact .inl ⟨i, h, e⟩
          · obtain rfl : i = m := by omega
            exact .inr (by simp [e])
theorem compact_cols (e : List Int) : Lib.compact (e.mergeSort fun x y => decide (x ≤ y)) = e.foldl addL [] := by
  obtain ⟨s, hs⟩ : ∃ s, (e.mergeSort fun x y => decide (x ≤ y)) = s := ⟨_, rfl⟩
  have hp : s.Pairwise (fun x y => decide (x ≤ y) = true) := by
    rw [← hs]
    exact List.pairwise_mergeSort (fun a b c h1 h2 => by simp at *; omega) (fun a b => by simp; omega) e
  have hm : ∀ x, x ∈ s ↔ x ∈ e := fun x => by rw [← hs]; exact List.mem_mergeSort
  rw [hs]
  obtain ⟨h1, h2⟩ := compact_upto s.toArray (fun i j hij hj => by
    have hj' : j < s.length := by simpa using hj
    have := List.pairwise_iff_getElem.1 hp i j (by omega) hj' hij
    simp at this
    simpa [getElem!_pos, hj', show i < s.length by omega] using this) s.length (by simp)
  obtain ⟨h3, h4⟩ := foldl_add e [] trivial
  unfold Lib.compact
  refine asc_unique _ _ h1 h3 (fun x => ?_)
  rw [h2, h4, ← hm]
  constructor
  · rintro ⟨i, hi, rfl⟩
    left
    simp [hi]
  · rintro (h | h)
    · obtain ⟨i, hi, rfl⟩ := List.getElem_of_mem h
      exact ⟨i, hi, by simp [hi]⟩
    · simp at h
end Go.Proofs.YtgnmnaclndkmdaaGreatDoor
namespace Go.Proofs.YtgnmnaclndkmdaaGreatDoor
open Go.RowKit

theorem stI : SliceTy Tryz.prog 50 3 1 8 := SliceTy.mk' Tryz.underlying50 (z := .int .i64 0) (by kernel_rfl) rfl (by decide) (by decide)
end Go.Proofs.YtgnmnaclndkmdaaGreatDoor
namespace Go.Proofs.YtgnmnaclndkmdaaGreatDoor
theorem validE_len {l : List T} (h : validE l = true) : l.length ≤ 64 := ((validE_iff l).1 h).1
end Go.Proofs.YtgnmnaclndkmdaaGreatDoor
namespace Go.Proofs.YtgnmnaclndkmdaaGreatDoor
open Go.RowKit Go.Sort

def colsV (es : List T) : List Int := if validE es = true then colsA es else []
theorem colsL_take {es : List T} {k : Nat} {t : T} (h : es[k]? = some t) : colsL (es.take (k + 1)) = colsL (es.take k) ++ (if t.op = 2 then [t.c] else []) := by
  unfold colsL
  rw [List.take_add_one, h, Option.toList_some, List.filter_append, List.map_append]
  congr 1
  by_cases h2 : t.op = 2 <;> simp [h2]
theorem colsL_le (es : List T) (k : Nat) : (colsL (es.take k)).length ≤ k := by
  unfold colsL
  rw [List.length_map]
  exact Nat.le_trans (List.length_filter_le _ _) (by rw [List.length_take]; omega)
/-- A row of ints that the call has made comes back. -/
def ClPost (w : World) (l : List Int) (e : Ending) (w' : World) : Prop :=
  ∃ (A : Option Addr) (c : Nat), e = .returned (.slice A l.length c) ∧ RowI w' w'.heap.size A l.length l ∧ (l.length = 0 ∨ ∃ k off, A = some ⟨k, off, none⟩ ∧ w.heap.size ≤ k) ∧ Below w.heap.size w w'
theorem iflat (zs : List Int) : zs.flatMap (fun z => [Value.int .i64 z]) = zs.map (Value.int .i64) := by
  induction zs with
  | nil => rfl
  | cons a l ih => rw [List.flatMap_cons, ih]; rfl
theorem rowI_own {w : World} {base n c : Nat} {A : Option Addr} {zs : List Int} (h : w.ownsRow base 3 1 (.slice A n c) n (zs.map (Value.int .i64))) (hn : zs.length = n) : RowI w w.heap.size A n zs := RowOf.of_own (by rw [iflat]; exact h) hn
theorem sort_own (A : Option Addr) (n c base : Nat) (zs : List Int) (w0 w : World) (hbase : base ≤ w.heap.size) (hn : n ≤ 1000) (hown : w.ownsRow base 3 1 (.slice A n c) n (zs.map (Value.int .i64))) (hb : Below base w0 w) :
    Calls Tryz.prog 34 #[.slice A n c] w fun e w' => e = .returned (.tuple #[]) ∧ w'.ownsRow base 3 1 (.slice A n c) n ((zs.mergeSort fun x y => decide (x ≤ y)).map (Value.int .i64)) ∧ Below base w0 w' := by
  have hl : zs.length = n := by simpa using hown.1
  rcases Nat.eq_zero_or_pos n with h0 | h0
  · subst h0
    obtain rfl := List.eq_nil_of_length_eq_zero hl
    refine (Tryz.slices_Sort_int_none A c w).mono ?_
    rintro e w' ⟨rfl, rfl⟩
    exact ⟨rfl, by simpa using hown, hb⟩
  · obtain ⟨g, cap, e1, h1, h2, h3, h4, _, hH⟩ := Lib.holds_of_ownsRow hown (by intro e; injection e with e1 e2; omega)
    injection e1 with e1 _ e3
    subst e1 e3
    have hs := Tryz.slices_Sort_int g 0 c zs w hH h2 (by omega)
    rw [hl] at hs
    refine hs.mono ?_
    rintro e w' ⟨rfl, nn, os, rfl⟩
    rcases hown.2 with ⟨e0, _⟩ | ⟨g', cap', cur, hv, hbase', hb', k1, k2, k3, k4⟩
    · cases e0
    · cases hv
      have ho := ownsRow_sortedI (n := nn) (os := os) (ts := zs.mergeSort fun x y => decide (x ≤ y)) (List.length_mergeSort zs) hbase' hb' (by omega) k2 k3
      rw [hl] at ho
      exact ⟨rfl, ho, hb.grown (grownBy_sortedI _) hbase (fun j hj => by cases hj; exact hbase')⟩
theorem compact_own (A : Option Addr) (n c base : Nat) (zs : List Int) (w0 w : World) (hn : n ≤ 1000) (hown : w.ownsRow base 3 1 (.slice A n c) n (zs.map (Value.int .i64))) (hb : Below base w0 w) :
    Calls Tryz.prog 35 #[.slice A n c] w fun e w' => e = .returned (.slice A (Lib.compact zs).length c) ∧ RowI w' w'.heap.size A (Lib.compact zs).length (Lib.compact zs) ∧ ((Lib.compact zs).length = 0 ∨ ∃ k off, A = some ⟨k, off, none⟩ ∧ base ≤ k) ∧ Below base w0 w' := by
  have hl : zs.length = n := by simpa using hown.1
  have hle : (Lib.compact zs).length ≤ zs.length := by
    unfold Lib.compact Lib.compactUpTo
    rw [List.length_map]
    exact Nat.le_trans (List.length_filter_le _ _) (by simp)
  rcases Nat.eq_zero_or_pos n with h0 | h0
  · subst h0
    obtain rfl := List.eq_nil_of_length_eq_zero hl
    refine (Tryz.slices_Compact_int_empty A c w).mono ?_
    rintro e w' ⟨rfl, rfl⟩
    exact ⟨rfl, RowOf.nil_, .inl rfl, hb⟩
  · obtain ⟨g, cap, e1, h1, h2, h3, h4, _, hH⟩ := Lib.holds_of_ownsRow hown (by intro e; injection e with e1 e2; omega)
    injection e1 with e1 _ e3
    subst e1 e3
    have hs := Tryz.slices_Compact_int g 0 c zs w hH (by omega) (by omega)
    rw [hl] at hs
    refine hs.mono ?_
    rintro e w' ⟨rfl, q, rfl⟩
    have ho := Lib.ownsRow_putRow (q := q) (k := (Lib.compact zs).length) (ys := Lib.compact zs ++ List.replicate (n - (Lib.compact zs).length) 0) hown (by simp; omega) (by omega)
    rw [List.take_left] at ho
    exact ⟨rfl, rowI_own ho rfl, .inr ⟨g, 0, rfl, h1⟩, Lib.below_putRow hb h1⟩
theorem idle_Columns (w : World) : CallsD Tryz.prog 33 #[] .returning w fun e u' w' => e = .returned (.tuple #[]) ∧ u' = .returning ∧ w' = w := by
  refine callsD_of_wpS Tryz.func33 rfl fun c₀ cs hu => ?_
  apply wpS_region
  cases c₀
  simp_all [wpOpsS, go_sem, recoverD, Tryz.ntmps33, bodyPostS, results, Tryz.results33]
/-- After so many terms of Columns. -/
def CoRel (w : World) (es : List T) (v3 v11 : Value) (wr : World) : Prop :=
  ∃ k : Nat, v11 = .int .i64 (k : Int) ∧ k ≤ es.length ∧ wr.ownsRow w.heap.size 3 1 v3 (colsL (es.take k)).length ((colsL (es.take k)).map (Value.int .i64)) ∧ Below w.heap.size w wr
set_option maxRecDepth 100000 in
set_option maxHeartbeats 4000000 in
theorem xcolumns (A : Option Addr) (n c : Nat) (es : List T) (w : World) (hn : n ≤ maxLen) (hr : RowT w w.heap.size A n es) : Calls Tryz.prog 17 #[.slice A n c] w (ClPost w (colsV es)) := by
  have hmf : ∀ (fn : Fn) (first cap : Array Value) (w : World), (Instr.makeFunc fn first cap).run Tryz.prog w = .ok (.func fn first cap) w := fun _ _ _ _ => rfl
  have hvd := xvalidE A n c es w hn hr
  have HN := Lib.hid hr.len
  cases hval : validE es
  · rw [hval] at hvd
    have HR := Lib.hid (show colsV es = [] by unfold colsV; rw [if_neg (by rw [hval]; decide)])
    clear hval
    go_enter_defers Tryz.func17, Tryz.ntmps17
    go_wp2_with ((go_at_call 16; refine (hvd).mono ?_; rintro e w1 ⟨rfl, hb1⟩; have hz1 := hb1.size; (try simp at hz1)))
    refine leave_idle idle_Columns (by simp [go_sem]) (by simp [results, Tryz.results17, go_sem]; rfl) ?_
    rw [HR.out]
    exact ⟨none, 0, rfl, RowOf.nil_, .inl rfl, by (repeat (first | (with_reducible exact Below.refl _ _) | (with_reducible assumption) | (with_reducible refine Below.drew ?_) | (with_reducible refine below_drewN ?_ _) | ((with_reducible refine Below.setCell ?_ ?_ _); rotate_left; (focus (first | (simp; done) | (simp; omega) | omega))) | ((with_reducible refine Below.alloc ?_ ?_ _); rotate_left; (focus (first | (simp; done) | (simp; omega) | omega))) | ((with_reducible apply below_step1); (focus (with_reducible assumption)))))⟩
  rw [hval] at hvd
  have HR := Lib.hid (show colsV es = (colsL es).foldl addL [] by unfold colsV; rw [if_pos hval]; rfl)
  have hn64 : n ≤ 64 := by have := validE_len hval; have := HN.out; omega
  clear hval
  go_enter_defers Tryz.func17, Tryz.ntmps17
  go_wp2_with ((go_at_call 16; refine (hvd).mono ?_; rintro e w1 ⟨rfl, hb1⟩; have hz1 := hb1.size; (try simp at hz1)))
  go_loopw [3, 11] (fun v3 v11 wr => CoRel w es v3 v11 wr) (fun _ v11 _ => n - (intOf v11).toNat)
  case atStart => exact ⟨0, rfl, by omega, World.ownsRow_nil _ _ _ _, by (repeat (first | (with_reducible exact Below.refl _ _) | (with_reducible assumption) | (with_reducible refine Below.drew ?_) | (with_reducible refine below_drewN ?_ _) | ((with_reducible refine Below.setCell ?_ ?_ _); rotate_left; (focus (first | (simp; done) | (simp; omega) | omega))) | ((with_reducible refine Below.alloc ?_ ?_ _); rotate_left; (focus (first | (simp; done) | (simp; omega) | omega))) | ((with_reducible apply below_step1); (focus (with_reducible assumption)))))⟩
  case round =>
    obtain ⟨k, rfl, hk, hown, hbel⟩ := hrel
    have hzz := hbel.size
    have hcl := colsL_le es k
    have hkn : k ≤ n := by have := HN.out; omega
    by_cases hlt : k < n
    · have h1 : (k : Int) < (n : Int) := by omega
      have h0 : (0 : Int) ≤ (k : Int) := by omega
      have hkw : IntKind.i64.wrap ((k : Int) + 1) = (k : Int) + 1 := IntWalk.i64_in _ (by omega)
      obtain ⟨b, off, t, rfl, hb, ht, c0, c1, c2, c3, c4⟩ := RowT.at5 ((hr.below hbel).more hzz) hlt
      have hS := colsL_take ht
      clear ht
      by_cases h2 : t.op = 2
      · have t2 : (t.op == 2) = true := by simpa using h2
        rw [if_pos h2] at hS
        have HS := Lib.hid hS
        clear hS h2
        go_wp2_with (at_builtin; refine wpList_app (v := u3) rfl _ _ stI rfl rfl ((hown.alloc _)) rfl (by simp) rfl (by simp [Value.oneCell']) (by omega) (by simp; omega) ?_; intro v6 w6 own6 hg6 hat6; have hz6 := hg6.size)
        have hb6 := below_app (hbel.alloc (by omega) _) (hown.alloc _) hg6 (Nat.le_refl _) (by simp; omega)
        refine ⟨⟨k + 1, by go_num, by have := HN.out; omega, ?_, hb6⟩, by simp [intOf]; omega⟩
        rw [HS.out, List.length_append, List.map_append]
        exact own6
      · have t2 : (t.op == 2) = false := by simpa using h2
        rw [if_neg h2, List.append_nil] at hS
        have HS := Lib.hid hS
        clear hS h2
        go_wp2_with fail
        go_roundw
        case rel =>
          refine ⟨k + 1, by go_num, by have := HN.out; omega, ?_, by (repeat (first | (with_reducible exact Below.refl _ _) | (with_reducible assumption) | (with_reducible refine Below.drew ?_) | (with_reducible refine below_drewN ?_ _) | ((with_reducible refine Below.setCell ?_ ?_ _); rotate_left; (focus (first | (simp; done) | (simp; omega) | omega))) | ((with_reducible refine Below.alloc ?_ ?_ _); rotate_left; (focus (first | (simp; done) | (simp; omega) | omega))) | ((with_reducible apply below_step1); (focus (with_reducible assumption)))))⟩
          rw [HS.out]
          exact hown.alloc _
        case measure => simp [intOf]; omega
    · have h1 : ¬ (k : Int) < (n : Int) := by omega
      have hpe : es.take k = es := List.take_of_length_le (by rw [HN.out]; omega)
      rw [hpe] at hown hcl
      obtain ⟨A3, c3, rfl, _, _⟩ := own_slice hown
      have HC := Lib.hid (compact_cols (colsL es))
      have hso := sort_own A3 (colsL es).length c3 w.heap.size (colsL es) w wr hzz (by omega) hown hbel
      generalize (colsL es).mergeSort (fun x y => decide (x ≤ y)) = ss at hso HC
      clear hown
      go_wp2_with fail
      refine hso.mono ?_
      rintro e w2 ⟨rfl, ho2, hb2⟩
      have hz2 := hb2.size
      have hco := compact_own A3 (colsL es).length c3 w.heap.size ss w w2 (by omega) ho2 hb2
      rw [HC.out, ← HR.out] at hco
      obtain ⟨L, hL⟩ : ∃ L, colsV es = L := ⟨_, rfl⟩
      rw [hL] at hco
      have HL := Lib.hid hL
      clear hL
      clear ho2 hso
      go_wp2_with fail
      refine hco.mono ?_
      rintro e w5 ⟨rfl, hr5, hf5, hb5⟩
      have hz5 := hb5.size
      go_wp2_with fail
      refine leave_idle idle_Columns (by simp [go_sem]) (by simp [results, Tryz.results17, go_sem]; rfl) ?_
      rw [HL.out]
      exact ⟨A3, c3, rfl, hr5, hf5, hb5⟩
end Go.Proofs.YtgnmnaclndkmdaaGreatDoor
namespace Go.Proofs.YtgnmnaclndkmdaaGreatDoor
open Go.RowKit Go.Sort

def intV (zs : List Int) : List Value := zs.map (Value.int .i64)
theorem sort_s {w : World} {l l' : List HA} (A : Option Addr) (n c : Nat) (zs : List Int) (hn : n ≤ 1000000) (H : HS w l) (hp : Pick l (rowA 3 1 (.slice A n c) n (intV zs)) l') :
    Calls Tryz.prog 34 #[.slice A n c] w fun e w' => e = .returned (.tuple #[]) ∧ HS w' (rowA 3 1 (.slice A n c) n (intV (zs.mergeSort fun x y => decide (x ≤ y))) :: l') := by
  obtain ⟨S, ⟨hown, rfl⟩, h2⟩ := (H.pick hp).go
  unfold intV at hown ⊢
  have hl : zs.length = n := by simpa using hown.1
  rcases Nat.eq_zero_or_pos n with h0 | h0
  · subst h0
    obtain rfl := List.eq_nil_of_length_eq_zero hl
    refine (Tryz.slices_Sort_int_none A c w).mono ?_
    rintro e w' ⟨rfl, rfl⟩
    exact ⟨rfl, by simpa [intV] using H.pick hp⟩
  · obtain ⟨g, cap, e1, h1, h3, h4, h5, _, hH⟩ := Lib.holds_of_ownsRow hown (by intro e; injection e with e1 e2; omega)
    injection e1 with e1 _ e3
    subst e1 e3
    have hs := Tryz.slices_Sort_int g 0 c zs w hH h3 (by omega)
    rw [hl] at hs
    refine hs.mono ?_
    rintro e w' ⟨rfl, nn, os, rfl⟩
    rcases hown.2 with ⟨e0, _⟩ | ⟨g', cap', cur, hv, hbase', hb', k1, k2, k3, k4⟩
    · cases e0
    · cases hv
      have ho := ownsRow_sortedI (n := nn) (os := os) (ts := zs.mergeSort fun x y => decide (x ≤ y)) (List.length_mergeSort zs) hbase' hb' (by omega) k2 k3
      rw [hl] at ho
      exact ⟨rfl, h2 _ _ _ ((PFr.refl _ _).grown (grownBy_sortedI _) fun k hk _ => hk) ⟨ho, rfl⟩ fun k hk => .inl hk⟩
theorem pfr_putRow {n c : Nat} (w : World) (g q : Nat) (d : Array Int) : PFr (fun k => (Value.slice (some ⟨g, 0, none⟩) n c).ownBlock = some k) w (putRow (Value.int .i64) (Sort.ahead w q) g 0 d) := by
  refine ⟨rfl, rfl, rfl, by simp [Sort.ahead], fun k hk hn => ?_⟩
  have hne : g ≠ k := fun e => hn (by rw [e]; rfl)
  simp [putRow, mapBlock, Sort.ahead, Array.getElem?_modify, hne]
theorem compact_s {w : World} {l l' : List HA} (A : Option Addr) (n c : Nat) (zs : List Int) (hn : n ≤ 1000000) (H : HS w l) (hp : Pick l (rowA 3 1 (.slice A n c) n (intV zs)) l') :
    Calls Tryz.prog 35 #[.slice A n c] w fun e w' => e = .returned (.slice A (Lib.compact zs).length c) ∧ HS w' (rowA 3 1 (.slice A (Lib.compact zs).length c) (Lib.compact zs).length (intV (Lib.compact zs)) :: l') := by
  obtain ⟨S, ⟨hown, rfl⟩, h2⟩ := (H.pick hp).go
  unfold intV at hown ⊢
  have hl : zs.length = n := by simpa using hown.1
  have hle : (Lib.compact zs).length ≤ zs.length := by
    unfold Lib.compact Lib.compactUpTo
    rw [List.length_map]
    exact Nat.le_trans (List.length_filter_le _ _) (by simp)
  rcases Nat.eq_zero_or_pos n with h0 | h0
  · subst h0
    obtain rfl := List.eq_nil_of_length_eq_zero hl
    refine (Tryz.slices_Compact_int_empty A c w).mono ?_
    rintro e w' ⟨rfl, rfl⟩
    exact ⟨rfl, by have := H.pick hp; unfold intV at this; exact this⟩
  · obtain ⟨g, cap, e1, h1, h3, h4, h5, _, hH⟩ := Lib.holds_of_ownsRow hown (by intro e; injection e with e1 e2; omega)
    injection e1 with e1 _ e3
    subst e1 e3
    have hs := Tryz.slices_Compact_int g 0 c zs w hH (by omega) (by omega)
    rw [hl] at hs
    refine hs.mono ?_
    rintro e w' ⟨rfl, q, rfl⟩
    have ho := Lib.ownsRow_putRow (q := q) (k := (Lib.compact zs).length) (ys := Lib.compact zs ++ List.replicate (n - (Lib.compact zs).length) 0) hown (by simp; omega) (by omega)
    rw [List.take_left] at ho
    exact ⟨rfl, h2 _ _ _ (pfr_putRow _ _ _ _) ⟨ho, rfl⟩ fun k hk => .inl hk⟩
end Go.Proofs.YtgnmnaclndkmdaaGreatDoor
namespace Go.Proofs.YtgnmnaclndkmdaaGreatDoor

structure WfT (t : Tab) (o : List (List Tk)) : Prop where
  len : t.cols.length = o.length
  ow : ∀ c ∈ t.cols, c.owners = []
theorem zip_snoc {α β : Type} {l : List α} {m : List β} {a : α} {b : β} (h : l.length = m.length) : (l ++ [a]).zip (m ++ [b]) = l.zip m ++ [(a, b)] := by
  rw [List.zip_append h]
  rfl
end Go.Proofs.YtgnmnaclndkmdaaGreatDoor
