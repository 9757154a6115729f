/- A parser that has read all, as its block, its rows and the finished references. No condition. The offset of a declaration by its number: start. The rows of offsets have at most 100000 elements. What Sort and Compact give is what inserting one by one gives. Plain Lean, no condition. Contract of the tape's Expr: a well-formed expression comes back, and only the tape's own block has changed. Contracts of the tape's New and Row. The tape has fewer than 2^44 numbers, rows fewer than a thousand values. sort and compact of a row of numbers among the parts of memory. At most 1000000 numbers. What a source declares hangs together: as many owners as columns, as many names as items. Plain Lean, no program in sight, no condition. The look-up of the owners of a table: resolveTable. At most 1000000 columns, owners and tables. -/
import Derived.Test.YtpnfbehbheddeaaGreatDoorBn37
import Derived.Test.YtpnfbehbheddeaaGreatDoorBn03
import Derived.Lib.SlicesCompact
import Derived.Test.YtpnfbehbheddeaaGreatDoorBn01
import Derived.Test.YtpnfbehbheddeaaGreatDoorBn02
import Derived.Test.YtpnfbehbheddeaaGreatDoorBn16
import Derived.Test.YtpnfbehbheddeaaGreatDoorBn14
import Derived.Test.YtpnfbehbheddeaaGreatDoorBn13
import Derived.Test.YtpnfbehbheddeaaGreatDoorBn00
import Derived.Test.YtpnfbehbheddeaaGreatDoorShelfB
import Derived.Test.YtpnfbehbheddeaaGreatDoorShelf
import Derived.Lib.OwnBridge
import Derived.Sort.OwnSortedInts
namespace Go.Proofs.YtpnfbehbheddeaaGreatDoor
set_option maxRecDepth 100000
set_option maxHeartbeats 8000000
set_option linter.unusedVariables false
set_option linter.unusedSimpArgs false
open Go.RowKit
def poolA (pool : Pool) : HA where
  holds w S := PoolAt w pool ∧ S = fun k => ∃ x ∈ pool, x.1.ownBlock = some k
  keep := by
    rintro w w' S ⟨h, rfl⟩ g
    exact ⟨fun x hx => own_agree (h x hx) g fun k hk => ⟨x, hx, hk⟩, rfl⟩
  lt := by
    rintro w S ⟨h, rfl⟩ k ⟨x, hx, hk⟩
    exact ((h x hx).lt k hk).2
def rowI (p : Pp) (ns : Nat → Nat) (cs : Nat → List Value) (i : Nat) : HA := rowA (rty i) (rsz i) (p.rowV i) (ns i) (cs i)
theorem rows_sep {p : Pp} {lo : Nat} {w : World} {s : Ps} {rv : Value} {ns : Nat → Nat} {cs : Nat → List Value} (h : DSt p lo w s rv ns cs) : ∀ (L : List Nat), L.Nodup → (∀ i ∈ L, i < 21) → Sep (L.map (rowI p ns cs)) w (fun k => ∃ i ∈ L, (p.rowV i).ownBlock = some k)
  | [], _, _ => fun k ⟨i, hi, _⟩ => by cases hi
  | i :: L, hd, hL => by
    rw [List.nodup_cons] at hd
    refine ⟨fun k => (p.rowV i).ownBlock = some k, _, ⟨own_base (h.rows i (hL i (List.mem_cons_self ..))) (Nat.zero_le _), rfl⟩, rows_sep h L hd.2 fun j hj => hL j (List.mem_cons_of_mem _ hj), ?_, fun k => ?_⟩
    · rintro k hk ⟨j, hj, hk2⟩
      exact h.dist i j k (hL i (List.mem_cons_self ..)) (hL j (List.mem_cons_of_mem _ hj)) (fun e => hd.1 (e ▸ hj)) hk hk2
    · constructor
      · rintro ⟨j, hj, hk⟩
        rcases List.mem_cons.1 hj with rfl | hj
        · exact .inl hk
        · exact .inr ⟨j, hj, hk⟩
      · rintro (hk | ⟨j, hj, hk⟩)
        · exact ⟨i, List.mem_cons_self .., hk⟩
        · exact ⟨j, List.mem_cons_of_mem _ hj, hk⟩
theorem HS.explode {p : Pp} {w : World} {s : Ps} {ns : Nat → Nat} {cs : Nat → List Value} {pool : Pool} {l : List HA} (H : HS w (dA p s ns cs pool :: l)) :
    ∃ rv, HS w (boxA p.pb (psC p s rv) 69 :: poolA pool :: ((List.range 21).map (rowI p ns cs) ++ l)) := by
  obtain ⟨S, ⟨rv, h, hq, rfl⟩, h2⟩ := H.go
  have hR := rows_sep h (List.range 21) List.nodup_range fun i hi => List.mem_range.1 hi
  have hty : ∀ x ∈ pool, ∀ k, x.1.ownBlock = some k → ∃ cur, w.heap[k]? = some (.cells cur 105 (0, 0)) := fun x hx k hk => ref_blk (hq x hx) hk
  have hpr : ∀ k, (∃ x ∈ pool, x.1.ownBlock = some k) → ¬ ∃ i ∈ List.range 21, (p.rowV i).ownBlock = some k := by
    rintro k ⟨x, hx, hk⟩ ⟨i, hi, hk2⟩
    obtain ⟨c, hc⟩ := hty x hx k hk
    obtain ⟨c2, hc2⟩ := ref_blk (h.rows i (List.mem_range.1 hi)) hk2
    rw [hc] at hc2
    injection hc2 with hc2
    injection hc2 with _ hc2
    exact (rty_ne i (List.mem_range.1 hi)).1 hc2.symm
  have hpb : ∀ k, k = p.pb → ¬ ((∃ x ∈ pool, x.1.ownBlock = some k) ∨ ∃ i ∈ List.range 21, (p.rowV i).ownBlock = some k) := by
    rintro k rfl (⟨x, hx, hk⟩ | ⟨i, hi, hk⟩)
    · obtain ⟨c, hc⟩ := hty x hx _ hk
      rw [h.at_.blk] at hc
      injection hc with hc
      injection hc with _ hc
      exact absurd hc (by decide)
    · have := ((h.rows i (List.mem_range.1 hi)).lt _ hk).1
      omega
  have hB : (allA (boxA p.pb (psC p s rv) 69 :: poolA pool :: (List.range 21).map (rowI p ns cs))).holds w (fun k => k = p.pb ∨ (∃ x ∈ pool, x.1.ownBlock = some k) ∨ ∃ i ∈ List.range 21, (p.rowV i).ownBlock = some k) :=
    ⟨(· = p.pb), _, ⟨h.at_.blk, rfl⟩, ⟨_, _, ⟨hq, rfl⟩, hR, hpr, fun _ => Iff.rfl⟩, hpb, fun _ => Iff.rfl⟩
  have H2 := h2 w _ _ (PFr.refl _ _) hB fun k hk => by
    rcases hk with hk | hk | ⟨i, hi, hk⟩
    · exact .inl (.inl hk)
    · exact .inl (.inr (.inr (.inr (.inr hk))))
    · exact .inl (.inr (.inr (.inr (.inl ⟨i, List.mem_range.1 hi, hk⟩))))
  exact ⟨rv, H2.all_⟩
theorem HS.rowStore {w : World} {l l' : List HA} {e : TypeId} {size n g cap : Nat} {xs : List Value} (H : HS w l) (hp : Pick l (rowA e size (.slice (some ⟨g, 0, none⟩) n cap) n xs) l') (j : Nat) (_hj : j < xs.length) (u : Value) :
    HS (w.setCell ⟨g, j, none⟩ u) (rowA e size (.slice (some ⟨g, 0, none⟩) n cap) n (xs.set j u) :: l') := by
  obtain ⟨S, ⟨h, rfl⟩, h2⟩ := (H.pick hp).go
  refine h2 _ _ _ ((PFr.refl (fun k => (Value.slice (some ⟨g, 0, none⟩) n cap).ownBlock = some k) w).setCell (q := ⟨g, j, none⟩) (.inl rfl) u) ⟨⟨by rw [List.length_set]; exact h.1, ?_⟩, rfl⟩ fun k hk => .inl hk
  rcases h.2 with ⟨h1, -⟩ | ⟨g', cap', cur, h1, h3, h4, h5, h6, h7, h8⟩
  · cases h1
  · injection h1 with h1 _ hc
    injection h1 with h1
    injection h1 with h1 _ _
    subst h1 hc
    refine .inr ⟨g, cap, cur.set! j u, rfl, h3, heap_set h4 u, h5, h6, by rw [Array.set!_eq_setIfInBounds, Array.size_setIfInBounds]; exact h7, ?_⟩
    rw [Array.set!_eq_setIfInBounds, Array.toList_setIfInBounds, ← h8, List.take_set]
abbrev RowZ := @RowOf Int (fun z => [Value.int .i64 z])
theorem RowZ.at1 {w : World} {B n : Nat} {A : Option Addr} {ss : List Int} (h : RowZ w B A n ss) {k : Nat} (hk : k < n) : ∃ b off z, A = some ⟨b, off, none⟩ ∧ b < B ∧ ss[k]? = some z ∧ w.cell? ⟨b, off + k, none⟩ = some (.int .i64 z) := by
  obtain ⟨b, off, s, h1, h2, h3, h4⟩ := h.at_ 1 (fun _ => rfl) (by omega) hk
  have := h4 0 _ rfl
  rw [Nat.mul_one] at this
  exact ⟨b, off, s, h1, h2, h3, this⟩
theorem asc_snoc : ∀ (l : List Int) (x : Int), asc l → (∀ y ∈ l, y < x) → asc (l ++ [x]) := by
  intro l
  induction l with
  | nil => intro x _ _; trivial
  | cons a l ih =>
    intro x h hx
    refine asc_cons (ih x (asc_tail h) (fun y hy => hx y (by simp [hy]))) (fun y hy => ?_)
    rcases List.mem_append.1 hy with hy | hy
    · exact asc_lt h y hy
    · simp at hy; subst hy; exact hx a (by simp)
theorem compact_upto (d : Array Int) (hs : ∀ i j, i < j → j < d.size → d[i]! ≤ d[j]!) : ∀ m, m ≤ d.size → asc (Lib.compactUpTo d m) ∧ ∀ x, x ∈ Lib.compactUpTo d m ↔ ∃ i, i < m ∧ d[i]! = x := by
  intro m
  induction m with
  | zero => intro _; exact ⟨trivial, fun x => by simp [Lib.compactUpTo]⟩
  | succ m ih =>
    intro hm
    obtain ⟨h1, h2⟩ := ih (by omega)
    rw [Lib.compactUpTo_succ]
    cases hk : Lib.keeps d m
    · have hk2 := hk
      simp [Lib.keeps] at hk2
      obtain ⟨h0, he⟩ := hk2
      rw [if_neg (by decide), List.append_nil]
      refine ⟨h1, fun x => ?_⟩
      rw [h2]
      constructor
      · rintro ⟨i, hi, e⟩; exact ⟨i, by omega, e⟩
      · rintro ⟨i, hi, e⟩
        rcases Nat.lt_or_ge i m with h | h
        · exact ⟨i, h, e⟩
        · obtain rfl : i = m := by omega
          exact ⟨i - 1, by omega, by rw [← e, he]⟩
    · rw [if_pos rfl]
      refine ⟨asc_snoc _ _ h1 (fun y hy => ?_), fun x => ?_⟩
      · obtain ⟨i, hi, e⟩ := (h2 y).1 hy
        have hk2 := hk
        simp [Lib.keeps] at hk2
        rcases hk2 with h0 | hne
        · omega
        · have a1 := hs (m - 1) m (by omega) (by omega)
          have a2 : d[i]! ≤ d[m - 1]! := by
            rcases Nat.lt_or_ge i (m - 1) with h | h
            · exact hs i (m - 1) h (by omega)
            · obtain rfl : i = m - 1 := by omega
              exact Int.le_refl _
          omega
      · rw [List.mem_append, h2]
        constructor
        · rintro (⟨i, hi, e⟩ | h)
          · exact ⟨i, by omega, e⟩
          · simp at h; exact ⟨m, by omega, h.symm⟩
        · rintro ⟨i, hi, e⟩
          rcases Nat.lt_or_ge i m with h | h
          · exact .inl ⟨i, h, e⟩
          · obtain rfl : i = m := by omega
            exact .inr (by simp [e])
theorem compact_cols (e : List Int) : Lib.compact (e.mergeSort fun x y => decide (x ≤ y)) = e.foldl addL [] := by
  obtain ⟨s, hs⟩ : ∃ s, (e.mergeSort fun x y => decide (x ≤ y)) = s := ⟨_, rfl⟩
  have hp : s.Pairwise (fun x y => decide (x ≤ y) = true) := by
    rw [← hs]
    exact List.pairwise_mergeSort (fun a b c h1 h2 => by simp at *; omega) (fun a b => by simp; omega) e
  have hm : ∀ x, x ∈ s ↔ x ∈ e := fun x => by rw [← hs]; exact List.mem_mergeSort
  rw [hs]
  obtain ⟨h1, h2⟩ := compact_upto s.toArray (fun i j hij hj => by
    have hj' : j < s.length := by simpa using hj
    have := List.pairwise_iff_getElem.1 hp i j (by omega) hj' hij
    simp at this
    simpa [getElem!_pos, hj', show i < s.length by omega] using this) s.length (by simp)
  obtain ⟨h3, h4⟩ := foldl_add e [] trivial
  unfold Lib.compact
  refine asc_unique _ _ h1 h3 (fun x => ?_)
  rw [h2, h4, ← hm]
  constructor
  · rintro ⟨i, hi, rfl⟩
    left
    simp [hi]
  · rintro (h | h)
    · obtain ⟨i, hi, rfl⟩ := List.getElem_of_mem h
      exact ⟨i, hi, by simp [hi]⟩
    · simp at h
theorem own_tape {wr w1 : World} {b base : Nat} {e : TypeId} {size n : Nat} {v : Value} {xs : List Value} (own : wr.ownsRow base e size v n xs) (h1 : wr.grownBy w1 (some b)) (hb : b < base) : w1.ownsRow base e size v n xs :=
  own.kept h1 (.inr (fun e => by have := (own.lt _ e).1; omega))
theorem stI : SliceTy Tryz.prog 22 3 1 8 := SliceTy.mk' Tryz.underlying22 (z := .int .i64 0) (by kernel_rfl) rfl (by decide) (by decide)
def icells (l : List Int) : List Value := l.map fun n => .int .i64 n
theorem icells_one (l : List Int) : ∀ u ∈ icells l, u.oneCell' = true := by
  intro u hu
  obtain ⟨c, _, rfl⟩ := List.mem_map.1 hu
  rfl
structure IntsR (w : World) (A : Option Addr) (n c : Nat) (zs : List Int) : Prop where
  len : zs.length = n
  none_ : A = none → n = 0 ∧ c = 0
  size : n ≤ 17592186044416
  rd : Rd w w.heap.size A (icells zs)
def NewPost (w : World) (e : Ending) (w' : World) : Prop := ∃ b g, e = .returned (.pointer (some ⟨b, 0, none⟩)) ∧ Tp w' b g ∧ w.heap.size ≤ b ∧ w.heap.size ≤ g ∧ Below w.heap.size w w'
theorem new_c (A : Option Addr) (n c : Nat) (zs : List Int) (w : World) (h : IntsR w A n c zs) :
    Calls Tryz.prog 6 #[.slice A n c] w (NewPost w) := by
  obtain ⟨h1, h2, h3, h4⟩ := h
  have H2 := Lib.hid (fun e => (h2 e).2)
  clear h2
  go_enter Tryz.func6, Tryz.ntmps6
  go_wp2_with (at_builtin; refine wpList_appAny (v := .slice (some ⟨w.heap.size, 0, none⟩) 0 0) rfl _ _ stI rfl rfl (own_new w #[] 3 1 0 (by decide) rfl) rfl (news := icells zs) (by simp [icells, h1]) (h4.keep fun p hp => World.cell?_alloc_lt w _ p hp) H2.out (icells_one _) (by omega) (by simp) ?_; intro v2 w2 own2 hg2 hat2; obtain ⟨A2, c2, hv2, _, _⟩ := own_slice own2; rw [hv2] at own2 ⊢)
  go_ret
  have hz2 := hg2.size
  simp at hz2
  have hb : Below w.heap.size w w2 := ⟨hg2.os, hg2.tape, hg2.output, by omega, fun k hk => (hg2.block k (by simp; omega) (by simp [Value.ownBlock]; omega)).trans (Below.heap_alloc w _ k hk)⟩
  have tp : ∃ g, w.heap.size ≤ g ∧ Tp (w2.alloc (.cells #[.slice A2 (0 + n) c2, .int .i64 0] 45)) w2.heap.size g := by
    rcases own2.2 with ⟨e1, e2⟩ | ⟨g, cap, cur, e1, e2, e3, _⟩
    · refine ⟨w.heap.size, Nat.le_refl _, by omega, by simp, by simp; omega, A2, 0 + n, c2, 0, 0, heap_alloc_new _ _, by omega, by omega, fun h0 => absurd e2 (by omega)⟩
    · injection e1 with e1 _ _
      subst e1
      have hgl : g < w2.heap.size := by
        rcases Nat.lt_or_ge g w2.heap.size with hl | hl
        · exact hl
        · rw [Array.getElem?_eq_none hl] at e3; cases e3
      refine ⟨g, e2, by omega, by simp, by simp; omega, _, 0 + n, c2, 0, 0, heap_alloc_new _ _, by omega, by omega, fun h0 => ⟨rfl, fun j hj => ?_⟩⟩
      have hjl : j < zs.length := by omega
      have hc := own2.cells (g := g) (by simp [Value.ownBlock]) j (.int .i64 zs[j]) (by simp [icells, hjl])
      rw [addr_add0] at hc
      exact ⟨zs[j], (World.cell?_alloc_lt w2 _ ⟨g, 0 + j, none⟩ hgl).trans hc⟩
  obtain ⟨g, hg, tp⟩ := tp
  rw [Nat.zero_add] at tp
  exact ⟨w2.heap.size, g, rfl, tp, by omega, hg, hb.alloc (by omega) _⟩
def RowPost (w : World) (b g n : Nat) (e : Ending) (w' : World) : Prop :=
  ∃ (o : Value) (vs : List V), e = .returned o ∧ w'.ownsRow w.heap.size 36 3 o vs.length (vs.flatMap V.cells) ∧ (∀ v ∈ vs, v.ok = true) ∧ vs.length ≤ n ∧ Tp w' b g ∧ w.grownBy w' (some b)
theorem trow (b g n : Nat) (w : World) (hn : n ≤ 1000) (h : Tp w b g) : Calls Tryz.prog 10 #[.pointer (some ⟨b, 0, none⟩), .int .i64 (n : Int)] w (RowPost w b g n) := by
  have hlt := h.lt
  have hltg := h.ltg
  go_enter Tryz.func10, Tryz.ntmps10
  go_wp2_with (go_at_call 16; refine (next_c b g _ _ (by omega) h).mono ?_; rintro e w1 ⟨r, rfl, hr, ht1, hg1, hz1⟩)
  go_loopw [5, 6] (fun u i wr => ∃ (k : Nat) (vs : List V), i = .int .i64 k ∧ vs.length + k ≤ n ∧ wr.ownsRow w.heap.size 36 3 u vs.length (vs.flatMap V.cells) ∧ (∀ v ∈ vs, v.ok = true) ∧ Tp wr b g ∧ w.grownBy wr (some b)) (fun _ i _ => (intOf i).toNat)
  case atStart => exact ⟨r, [], rfl, by simp; omega, World.ownsRow_nil _ _ _ _, by simp, ht1, hg1⟩
  case round =>
    obtain ⟨k, vs, rfl, hk, hown, hok, htr, hgr⟩ := hrel
    have hzz := hgr.size
    have HO := Lib.hid hok
    clear hok
    by_cases hk0 : 0 < k
    · have hk1 : (0 : Int) < (k : Int) := by omega
      have hne : u5.ownBlock ≠ some b := fun e => by have := (hown.lt _ e).1; omega
      go_wp2_with (first
        | (go_at_call 24; refine (tvalue b g _ htr).mono ?_; rintro e w2 ⟨v, rfl, hv, ht2, hg2⟩; have hz2 := hg2.size; have own2 := hown.kept hg2 (.inr hne))
        | (at_builtin; refine wpList_app (v := u5) rfl _ _ stV rfl rfl (own2) rfl (by simp) rfl (by simp [Value.oneCell']) (by omega) (by omega) ?_; intro v' w3 own3 hg3 hat3))
      have ht3 : Tp w3 b g := ht2.grown hg3 hne (fun e => by have := (hown.lt _ e).1; omega)
      have hg3' : w.grownBy w3 (some b) := by
        refine ⟨hg3.os.trans (hg2.os.trans hgr.os), hg3.tape.trans (hg2.tape.trans hgr.tape), hg3.output.trans (hg2.output.trans hgr.output), by have := hg3.size; omega, fun i hi hib => ?_⟩
        refine (hg3.block i (by omega) (fun e => ?_)).trans ((hg2.block i (by omega) hib).trans (hgr.block i hi hib))
        have := (hown.lt i e.symm).1
        omega
      go_roundw
      case rel =>
        refine ⟨k - 1, vs ++ [v], by go_num, by simp; omega, by simpa [V.cells] using own3, ?_, ht3, hg3'⟩
        intro x hx
        rcases List.mem_append.1 hx with h' | h'
        · exact HO.out x h'
        · simp at h'; subst h'; exact hv
      case measure => simp [intOf]; omega
    · obtain rfl : k = 0 := by omega
      go_wp2
      go_ret
      exact ⟨_, vs, rfl, hown, HO.out, by omega, htr, hgr⟩
open Go.Sort
def intV (zs : List Int) : List Value := zs.map (Value.int .i64)
theorem sort_s {w : World} {l l' : List HA} (A : Option Addr) (n c : Nat) (zs : List Int) (hn : n ≤ 1000000) (H : HS w l) (hp : Pick l (rowA 3 1 (.slice A n c) n (intV zs)) l') :
    Calls Tryz.prog 62 #[.slice A n c] w fun e w' => e = .returned (.tuple #[]) ∧ HS w' (rowA 3 1 (.slice A n c) n (intV (zs.mergeSort fun x y => decide (x ≤ y))) :: l') := by
  obtain ⟨S, ⟨hown, rfl⟩, h2⟩ := (H.pick hp).go
  unfold intV at hown ⊢
  have hl : zs.length = n := by simpa using hown.1
  rcases Nat.eq_zero_or_pos n with h0 | h0
  · subst h0
    obtain rfl := List.eq_nil_of_length_eq_zero hl
    refine (Tryz.slices_Sort_int_none A c w).mono ?_
    rintro e w' ⟨rfl, rfl⟩
    exact ⟨rfl, by simpa [intV] using H.pick hp⟩
  · obtain ⟨g, cap, e1, h1, h3, h4, h5, _, hH⟩ := Lib.holds_of_ownsRow hown (by intro e; injection e with e1 e2; omega)
    injection e1 with e1 _ e3
    subst e1 e3
    have hs := Tryz.slices_Sort_int g 0 c zs w hH h3 (by omega)
    rw [hl] at hs
    refine hs.mono ?_
    rintro e w' ⟨rfl, nn, os, rfl⟩
    rcases hown.2 with ⟨e0, _⟩ | ⟨g', cap', cur, hv, hbase', hb', k1, k2, k3, k4⟩
    · cases e0
    · cases hv
      have ho := ownsRow_sortedI (n := nn) (os := os) (ts := zs.mergeSort fun x y => decide (x ≤ y)) (List.length_mergeSort zs) hbase' hb' (by omega) k2 k3
      rw [hl] at ho
      exact ⟨rfl, h2 _ _ _ ((PFr.refl _ _).grown (grownBy_sortedI _) fun k hk _ => hk) ⟨ho, rfl⟩ fun k hk => .inl hk⟩
theorem pfr_putRow {n c : Nat} (w : World) (g q : Nat) (d : Array Int) : PFr (fun k => (Value.slice (some ⟨g, 0, none⟩) n c).ownBlock = some k) w (putRow (Value.int .i64) (Sort.ahead w q) g 0 d) := by
  refine ⟨rfl, rfl, rfl, by simp [Sort.ahead], fun k hk hn => ?_⟩
  have hne : g ≠ k := fun e => hn (by rw [e]; rfl)
  simp [putRow, mapBlock, Sort.ahead, Array.getElem?_modify, hne]
theorem compact_s {w : World} {l l' : List HA} (A : Option Addr) (n c : Nat) (zs : List Int) (hn : n ≤ 1000000) (H : HS w l) (hp : Pick l (rowA 3 1 (.slice A n c) n (intV zs)) l') :
    Calls Tryz.prog 63 #[.slice A n c] w fun e w' => e = .returned (.slice A (Lib.compact zs).length c) ∧ HS w' (rowA 3 1 (.slice A (Lib.compact zs).length c) (Lib.compact zs).length (intV (Lib.compact zs)) :: l') := by
  obtain ⟨S, ⟨hown, rfl⟩, h2⟩ := (H.pick hp).go
  unfold intV at hown ⊢
  have hl : zs.length = n := by simpa using hown.1
  have hle : (Lib.compact zs).length ≤ zs.length := by
    unfold Lib.compact Lib.compactUpTo
    rw [List.length_map]
    exact Nat.le_trans (List.length_filter_le _ _) (by simp)
  rcases Nat.eq_zero_or_pos n with h0 | h0
  · subst h0
    obtain rfl := List.eq_nil_of_length_eq_zero hl
    refine (Tryz.slices_Compact_int_empty A c w).mono ?_
    rintro e w' ⟨rfl, rfl⟩
    exact ⟨rfl, by have := H.pick hp; unfold intV at this; exact this⟩
  · obtain ⟨g, cap, e1, h1, h3, h4, h5, _, hH⟩ := Lib.holds_of_ownsRow hown (by intro e; injection e with e1 e2; omega)
    injection e1 with e1 _ e3
    subst e1 e3
    have hs := Tryz.slices_Compact_int g 0 c zs w hH (by omega) (by omega)
    rw [hl] at hs
    refine hs.mono ?_
    rintro e w' ⟨rfl, q, rfl⟩
    have ho := Lib.ownsRow_putRow (q := q) (k := (Lib.compact zs).length) (ys := Lib.compact zs ++ List.replicate (n - (Lib.compact zs).length) 0) hown (by simp; omega) (by omega)
    rw [List.take_left] at ho
    exact ⟨rfl, h2 _ _ _ (pfr_putRow _ _ _ _) ⟨ho, rfl⟩ fun k hk => .inl hk⟩
structure WfT (t : Tab) (o : List (List Tk)) : Prop where
  len : t.cols.length = o.length
  ow : ∀ c ∈ t.cols, c.owners = []
theorem zip_snoc {α β : Type} {l : List α} {m : List β} {a : α} {b : β} (h : l.length = m.length) : (l ++ [a]).zip (m ++ [b]) = l.zip m ++ [(a, b)] := by
  rw [List.zip_append h]
  rfl
section
variable {α β : Type} {f : α → Except Er β}
theorem mapE_snoc : ∀ {l : List α} {m : List β} {a : α} {b : β}, mapE f l = .ok m → f a = .ok b → mapE f (l ++ [a]) = .ok (m ++ [b])
  | [], m, a, b, h, h2 => by
    injection h with h
    subst h
    simp [mapE, h2]
  | x :: l, m, a, b, h, h2 => by
    rw [mapE] at h
    rw [List.cons_append, mapE]
    cases hx : f x with
    | error p => rw [hx] at h; cases h
    | ok y =>
      rw [hx] at h
      cases hl : mapE f l with
      | error p => rw [hl] at h; cases h
      | ok z =>
        rw [hl] at h
        injection h with h
        subst h
        rw [mapE_snoc hl h2]
        rfl
theorem mapE_err : ∀ {l r : List α} {m : List β} {a : α} {p : Er}, mapE f l = .ok m → f a = .error p → mapE f (l ++ a :: r) = .error p
  | [], r, m, a, p, h, h2 => by simp [mapE, h2]
  | x :: l, r, m, a, p, h, h2 => by
    rw [mapE] at h
    rw [List.cons_append, mapE]
    cases hx : f x with
    | error p => rw [hx] at h; cases h
    | ok y =>
      rw [hx] at h
      cases hl : mapE f l with
      | error p => rw [hl] at h; cases h
      | ok z => rw [mapE_err hl h2]
theorem mapE_len : ∀ {l : List α} {m : List β}, mapE f l = .ok m → m.length = l.length
  | [], m, h => by
    injection h with h
    subst h
    rfl
  | x :: l, m, h => by
    rw [mapE] at h
    cases hx : f x with
    | error p => rw [hx] at h; cases h
    | ok y =>
      rw [hx] at h
      cases hl : mapE f l with
      | error p => rw [hl] at h; cases h
      | ok z =>
        rw [hl] at h
        injection h with h
        subst h
        rw [List.length_cons, List.length_cons, mapE_len hl]
theorem mapE_step {l : List α} {m : List β} {i : Nat} {a : α} {b : β} (h : mapE f (l.take i) = .ok m) (ha : l[i]? = some a) (hb : f a = .ok b) : mapE f (l.take (i + 1)) = .ok (m ++ [b]) := by
  rw [List.take_add_one, ha]
  exact mapE_snoc h hb
theorem mapE_stop {l : List α} {m : List β} {i : Nat} {a : α} {p : Er} (h : mapE f (l.take i) = .ok m) (ha : l[i]? = some a) (hb : f a = .error p) : mapE f l = .error p := by
  obtain ⟨hi, e⟩ := List.getElem?_eq_some_iff.1 ha
  rw [← List.take_append_drop i l, List.drop_eq_getElem_cons hi, e]
  exact mapE_err h hb
end
theorem pick_mem : ∀ {l : List HA} {A : HA}, A ∈ l → ∃ l', Pick l A l'
  | B :: l, A, h => by
    rcases List.mem_cons.1 h with rfl | h
    · exact ⟨_, .here⟩
    · obtain ⟨l', h'⟩ := pick_mem h
      exact ⟨_, .there h'⟩
theorem pick_app : ∀ {l l' m : List HA} {A : HA}, Pick l A l' → Pick (l ++ m) A (l' ++ m)
  | _, _, _, _, .here => .here
  | _, _, _, _, .there h => .there (pick_app h)
section
variable {w : World} {l l' : List HA}
theorem HS.mem {m : List HA} (H : HS w l) (hp : Pick l (allA m) l') {A : HA} (h : A ∈ m) : ∃ S, A.holds w S := by
  obtain ⟨m', h'⟩ := pick_mem h
  exact ((H.all hp).pick (pick_app h')).head
theorem own_at {e : TypeId} {size n c : Nat} {A : Option Addr} {xs : List Value} (h : w.ownsRow 0 e size (.slice A n c) n xs) (hne : xs ≠ []) : ∃ g, A = some ⟨g, 0, none⟩ ∧ g < w.heap.size ∧ (∀ j u, xs[j]? = some u → w.cell? ⟨g, j, none⟩ = some u) ∧ ∀ j, w.frozen? ⟨g, j, none⟩ = false := by
  obtain ⟨b, off, e1, hb, hc⟩ := Rd.of_own h hne
  rcases h.2 with ⟨h1, rfl⟩ | ⟨g, cap, cur, h1, h2, h3, h4, h5, h6, h7⟩
  · exact absurd (List.eq_nil_of_length_eq_zero (by simpa using h.1)) hne
  · injection h1 with h1 _ _
    subst h1
    injection e1 with e1
    injection e1 with e1 e2 _
    subst e1 e2
    refine ⟨g, rfl, hb, fun j u hu => ?_, fun j => by simp [World.frozen?, h3]⟩
    have := hc j u hu
    rw [Nat.zero_add] at this
    exact this
theorem HS.rowAt {e : TypeId} {size n c : Nat} {A : Option Addr} {xs : List Value} (H : HS w l) (hp : Pick l (rowA e size (.slice A n c) n xs) l') (hne : xs ≠ []) : ∃ g, A = some ⟨g, 0, none⟩ ∧ g < w.heap.size ∧ (∀ j u, xs[j]? = some u → w.cell? ⟨g, j, none⟩ = some u) ∧ ∀ j, w.frozen? ⟨g, j, none⟩ = false := own_at (H.row hp) hne
theorem HS.rowB {n c : Nat} {A : Option Addr} {ws : List Bs} (H : HS w l) (hp : Pick l (rowA 9 1 (.slice A n c) n (ws.map strV)) l') (hn : ws.length = n) : RowB w w.heap.size A n ws := RowOf.of_own (by rw [flat_str]; exact H.row hp) hn
end
theorem HS.pushA {w : World} {l l' l'' m : List HA} {A : HA} (H : HS w l) (h1 : Pick l A l') (h2 : Pick l' (allA m) l'') : HS w (allA (m ++ [A]) :: l'') := allA_snoc (((H.pick h1).pick (.there h2)).pick (.there .here))
theorem HS.namesPush {w : World} {l l' l'' : List HA} {q : List (Value × List Bs)} {v : Value} {names : List Bs} {n : Nat} (hn : names.length = n) (H : HS w l) (h1 : Pick l (rowA 9 1 v n (names.map strV)) l') (h2 : Pick l' (namesA q) l'') : HS w (namesA (q ++ [(v, names)]) :: l'') := HS.namesAdd hn (((H.pick h1).pick (.there h2)).pick (.there .here))
abbrev Co := Col × Value
def coC (l : List Co) : List Value := l.flatMap fun x => (colC x.1 x.2).toList
def coA (x : Co) : HA := rowA 3 1 x.2 x.1.owners.length (intV x.1.owners)
def co0 (c : Col) : Co := (c, .slice none 0 0)
def owned (c : Col) (o : List Int) : Col := { c with owners := o.foldl addL [] }
theorem coC_0 (l : List Col) : coC (l.map co0) = colsC l := by
  unfold coC colsC colL co0
  rw [List.flatMap_map]
theorem coC_len : ∀ (l : List Co), (coC l).length = l.length * 7
  | [] => rfl
  | x :: l => by
    have := coC_len l
    unfold coC at this ⊢
    rw [List.flatMap_cons, List.length_append, this, List.length_cons]
    show 7 + _ = _
    omega
theorem coC_set (X r : List Co) (c : Col) (o : List Int) (u v : Value) : (coC (X ++ (c, u) :: r)).set (X.length * 7 + 4) v = coC (X ++ (owned c o, v) :: r) := by
  have h := coC_len X
  unfold coC at h ⊢
  rw [List.flatMap_append, List.flatMap_append, List.set_append_right _ _ (by rw [h]; omega), h, Nat.add_sub_cancel_left, List.flatMap_cons, List.flatMap_cons]
  rfl
theorem coC_at {l : List Co} {i : Nat} {x : Co} (h : l[i]? = some x) (j : Nat) (u : Value) (hu : (colC x.1 x.2).toList[j]? = some u) : (coC l)[i * 7 + j]? = some u := flatMap_at 7 (fun _ => rfl) l i j x u h hu
structure ColsAt (cols : List Col) (ow : List (List Tk)) (names : List Bs) (i : Nat) (X : List Co) (ms : List (List Int)) : Prop where
  e : mapE (fun l => mapE (findCol names) l) (ow.take i) = .ok ms
  x : X.map Prod.fst = ((cols.take i).zip ms).map fun x => owned x.1 x.2
  n : X.length = i
theorem ColsAt.nil {cols : List Col} {ow : List (List Tk)} {names : List Bs} : ColsAt cols ow names 0 [] [] := ⟨rfl, rfl, rfl⟩
theorem ColsAt.snoc {cols : List Col} {ow : List (List Tk)} {names : List Bs} {i : Nat} {X : List Co} {ms : List (List Int)} {c : Col} {o : List Tk} {m : List Int} {v : Value} (h : ColsAt cols ow names i X ms) (hc : cols[i]? = some c) (ho : ow[i]? = some o) (hm : mapE (findCol names) o = .ok m) : ColsAt cols ow names (i + 1) (X ++ [(owned c m, v)]) (ms ++ [m]) := by
  refine ⟨mapE_step h.e ho hm, ?_, by simp [h.n]⟩
  have h1 := mapE_len h.e
  have h2 := (List.getElem?_eq_some_iff.1 hc).1
  have h3 := (List.getElem?_eq_some_iff.1 ho).1
  rw [List.take_add_one, hc, List.map_append, h.x, Option.toList_some, zip_snoc (by rw [h1]; simp; omega), List.map_append]
  rfl
def RtbPost (zs sn pb : Nat) (xs ys : List Value) (q : List (Value × List Bs)) (ds : Array Value) (Tv Ov : Value) (nt no : Nat) (txs oxs : List Value) (x : Tab × List (List Tk) × Tq) (l : List HA) : Except Er Tab → Ending → World → Prop
  | .error p, e, w => e = .returned (.tuple #[.int .i64 p.1, .int .i64 p.2]) ∧ HS w l
  | .ok t, e, w => e = .returned (.tuple #[.int .i64 0, .int .i64 0]) ∧ ∃ (X : List Co) (sv cv nv : Value), X.map Prod.fst = t.cols ∧
    HS w (boxA zs #[sv, cv] 143 :: rowA 9 1 sv (sn + 1) (xs ++ [strV x.1.name]) :: rowA 25 1 cv (sn + 1) (ys ++ [nv]) :: namesA (q ++ [(nv, x.1.cols.map Col.name)]) :: boxA pb ds 69 :: rowA 79 4 Tv nt txs :: rowA 198 1 Ov no oxs :: rowA 82 7 x.2.2.cv x.1.cols.length (coC X) :: allA (X.map coA) :: l)
theorem fcR_ok {ws : List Bs} {t : Tk} {k : Int} (h : findCol ws t = .ok k) : fcR ws t = (k, 0, 0) := by
  unfold findCol at h
  unfold fcR
  split at h
  · cases h
  · injection h with h
    subst h
    rename_i h2
    rw [h2]
theorem fcR_error {ws : List Bs} {t : Tk} {p : Er} (h : findCol ws t = .error p) : fcR ws t = (0, p.1, p.2) ∧ p.2 = 3 := by
  unfold findCol at h
  unfold fcR
  split at h
  · injection h with h
    subst h
    rename_i h2
    rw [h2]
    exact ⟨rfl, rfl⟩
  · cases h
end Go.Proofs.YtpnfbehbheddeaaGreatDoor
