/- Contracts of the tape's New and Row. The tape has fewer than 2^44 numbers, rows fewer than a thousand values. What Substitute gives, in plain Lean. No program in sight, no condition. Contract of the program's Columns. sort and compact of a row of numbers among the parts of memory. At most 1000000 numbers. What a source declares hangs together: as many owners as columns, as many names as items. Plain Lean, no program in sight, no condition. The look-up of the owners of a table: resolveTable. At most 1000000 columns, owners and tables. -/
import Derived.Test.YtpnfbehbheddeaaGreatDoorBn10
import Derived.Test.YtpnfbehbheddeaaGreatDoorBn21
import Derived.Test.YtpnfbehbheddeaaGreatDoorBn09
import Derived.Test.YtpnfbehbheddeaaGreatDoorBn32
import Derived.Test.YtpnfbehbheddeaaGreatDoorBn33
import Derived.Test.YtpnfbehbheddeaaGreatDoorShelfB
import Derived.Test.YtpnfbehbheddeaaGreatDoorShelf
import Derived.Lib.OwnBridge
import Derived.Sort.OwnSortedInts
import Derived.Test.YtpnfbehbheddeaaGreatDoorBn19
namespace Go.Proofs.YtpnfbehbheddeaaGreatDoor
set_option maxRecDepth 100000
set_option maxHeartbeats 8000000
set_option linter.unusedVariables false
set_option linter.unusedSimpArgs false
open Go.RowKit
theorem stI : SliceTy Tryz.prog 22 3 1 8 := SliceTy.mk' Tryz.underlying22 (z := .int .i64 0) (by kernel_rfl) rfl (by decide) (by decide)
def icells (l : List Int) : List Value := l.map fun n => .int .i64 n
theorem icells_one (l : List Int) : ∀ u ∈ icells l, u.oneCell' = true := by
  intro u hu
  obtain ⟨c, _, rfl⟩ := List.mem_map.1 hu
  rfl
structure IntsR (w : World) (A : Option Addr) (n c : Nat) (zs : List Int) : Prop where
  len : zs.length = n
  none_ : A = none → n = 0 ∧ c = 0
  size : n ≤ 17592186044416
  rd : Rd w w.heap.size A (icells zs)
def NewPost (w : World) (e : Ending) (w' : World) : Prop := ∃ b g, e = .returned (.pointer (some ⟨b, 0, none⟩)) ∧ Tp w' b g ∧ w.heap.size ≤ b ∧ w.heap.size ≤ g ∧ Below w.heap.size w w'
theorem new_c (A : Option Addr) (n c : Nat) (zs : List Int) (w : World) (h : IntsR w A n c zs) :
    Calls Tryz.prog 6 #[.slice A n c] w (NewPost w) := by
  obtain ⟨h1, h2, h3, h4⟩ := h
  have H2 := Lib.hid (fun e => (h2 e).2)
  clear h2
  go_enter Tryz.func6, Tryz.ntmps6
  go_wp2_with (at_builtin; refine wpList_appAny (v := .slice (some ⟨w.heap.size, 0, none⟩) 0 0) rfl _ _ stI rfl rfl (own_new w #[] 3 1 0 (by decide) rfl) rfl (news := icells zs) (by simp [icells, h1]) (h4.keep fun p hp => World.cell?_alloc_lt w _ p hp) H2.out (icells_one _) (by omega) (by simp) ?_; intro v2 w2 own2 hg2 hat2; obtain ⟨A2, c2, hv2, _, _⟩ := own_slice own2; rw [hv2] at own2 ⊢)
  go_ret
  have hz2 := hg2.size
  simp at hz2
  have hb : Below w.heap.size w w2 := ⟨hg2.os, hg2.tape, hg2.output, by omega, fun k hk => (hg2.block k (by simp; omega) (by simp [Value.ownBlock]; omega)).trans (Below.heap_alloc w _ k hk)⟩
  have tp : ∃ g, w.heap.size ≤ g ∧ Tp (w2.alloc (.cells #[.slice A2 (0 + n) c2, .int .i64 0] 45)) w2.heap.size g := by
    rcases own2.2 with ⟨e1, e2⟩ | ⟨g, cap, cur, e1, e2, e3, _⟩
    · refine ⟨w.heap.size, Nat.le_refl _, by omega, by simp, by simp; omega, A2, 0 + n, c2, 0, 0, heap_alloc_new _ _, by omega, by omega, fun h0 => absurd e2 (by omega)⟩
    · injection e1 with e1 _ _
      subst e1
      have hgl : g < w2.heap.size := by
        rcases Nat.lt_or_ge g w2.heap.size with hl | hl
        · exact hl
        · rw [Array.getElem?_eq_none hl] at e3; cases e3
      refine ⟨g, e2, by omega, by simp, by simp; omega, _, 0 + n, c2, 0, 0, heap_alloc_new _ _, by omega, by omega, fun h0 => ⟨rfl, fun j hj => ?_⟩⟩
      have hjl : j < zs.length := by omega
      have hc := own2.cells (g := g) (by simp [Value.ownBlock]) j (.int .i64 zs[j]) (by simp [icells, hjl])
      rw [addr_add0] at hc
      exact ⟨zs[j], (World.cell?_alloc_lt w2 _ ⟨g, 0 + j, none⟩ hgl).trans hc⟩
  obtain ⟨g, hg, tp⟩ := tp
  rw [Nat.zero_add] at tp
  exact ⟨w2.heap.size, g, rfl, tp, by omega, hg, hb.alloc (by omega) _⟩
theorem validE_len {l : List T} (h : validE l = true) : l.length ≤ 64 := ((validE_iff l).1 h).1
open Go.Sort
def colsV (es : List T) : List Int := if validE es = true then colsA es else []
theorem colsL_take {es : List T} {k : Nat} {t : T} (h : es[k]? = some t) : colsL (es.take (k + 1)) = colsL (es.take k) ++ (if t.op = 2 then [t.c] else []) := by
  unfold colsL
  rw [List.take_add_one, h, Option.toList_some, List.filter_append, List.map_append]
  congr 1
  by_cases h2 : t.op = 2 <;> simp [h2]
theorem colsL_le (es : List T) (k : Nat) : (colsL (es.take k)).length ≤ k := by
  unfold colsL
  rw [List.length_map]
  exact Nat.le_trans (List.length_filter_le _ _) (by rw [List.length_take]; omega)
def ClPost (w : World) (l : List Int) (e : Ending) (w' : World) : Prop :=
  ∃ (A : Option Addr) (c : Nat), e = .returned (.slice A l.length c) ∧ RowI w' w'.heap.size A l.length l ∧ (l.length = 0 ∨ ∃ k off, A = some ⟨k, off, none⟩ ∧ w.heap.size ≤ k) ∧ Below w.heap.size w w'
theorem iflat (zs : List Int) : zs.flatMap (fun z => [Value.int .i64 z]) = zs.map (Value.int .i64) := by
  induction zs with
  | nil => rfl
  | cons a l ih => rw [List.flatMap_cons, ih]; rfl
theorem rowI_own {w : World} {base n c : Nat} {A : Option Addr} {zs : List Int} (h : w.ownsRow base 3 1 (.slice A n c) n (zs.map (Value.int .i64))) (hn : zs.length = n) : RowI w w.heap.size A n zs := RowOf.of_own (by rw [iflat]; exact h) hn
theorem sort_own (A : Option Addr) (n c base : Nat) (zs : List Int) (w0 w : World) (hbase : base ≤ w.heap.size) (hn : n ≤ 1000) (hown : w.ownsRow base 3 1 (.slice A n c) n (zs.map (Value.int .i64))) (hb : Below base w0 w) :
    Calls Tryz.prog 62 #[.slice A n c] w fun e w' => e = .returned (.tuple #[]) ∧ w'.ownsRow base 3 1 (.slice A n c) n ((zs.mergeSort fun x y => decide (x ≤ y)).map (Value.int .i64)) ∧ Below base w0 w' := by
  have hl : zs.length = n := by simpa using hown.1
  rcases Nat.eq_zero_or_pos n with h0 | h0
  · subst h0
    obtain rfl := List.eq_nil_of_length_eq_zero hl
    refine (Tryz.slices_Sort_int_none A c w).mono ?_
    rintro e w' ⟨rfl, rfl⟩
    exact ⟨rfl, by simpa using hown, hb⟩
  · obtain ⟨g, cap, e1, h1, h2, h3, h4, _, hH⟩ := Lib.holds_of_ownsRow hown (by intro e; injection e with e1 e2; omega)
    injection e1 with e1 _ e3
    subst e1 e3
    have hs := Tryz.slices_Sort_int g 0 c zs w hH h2 (by omega)
    rw [hl] at hs
    refine hs.mono ?_
    rintro e w' ⟨rfl, nn, os, rfl⟩
    rcases hown.2 with ⟨e0, _⟩ | ⟨g', cap', cur, hv, hbase', hb', k1, k2, k3, k4⟩
    · cases e0
    · cases hv
      have ho := ownsRow_sortedI (n := nn) (os := os) (ts := zs.mergeSort fun x y => decide (x ≤ y)) (List.length_mergeSort zs) hbase' hb' (by omega) k2 k3
      rw [hl] at ho
      exact ⟨rfl, ho, hb.grown (grownBy_sortedI _) hbase (fun j hj => by cases hj; exact hbase')⟩
theorem compact_own (A : Option Addr) (n c base : Nat) (zs : List Int) (w0 w : World) (hn : n ≤ 1000) (hown : w.ownsRow base 3 1 (.slice A n c) n (zs.map (Value.int .i64))) (hb : Below base w0 w) :
    Calls Tryz.prog 63 #[.slice A n c] w fun e w' => e = .returned (.slice A (Lib.compact zs).length c) ∧ RowI w' w'.heap.size A (Lib.compact zs).length (Lib.compact zs) ∧ ((Lib.compact zs).length = 0 ∨ ∃ k off, A = some ⟨k, off, none⟩ ∧ base ≤ k) ∧ Below base w0 w' := by
  have hl : zs.length = n := by simpa using hown.1
  have hle : (Lib.compact zs).length ≤ zs.length := by
    unfold Lib.compact Lib.compactUpTo
    rw [List.length_map]
    exact Nat.le_trans (List.length_filter_le _ _) (by simp)
  rcases Nat.eq_zero_or_pos n with h0 | h0
  · subst h0
    obtain rfl := List.eq_nil_of_length_eq_zero hl
    refine (Tryz.slices_Compact_int_empty A c w).mono ?_
    rintro e w' ⟨rfl, rfl⟩
    exact ⟨rfl, RowOf.nil_, .inl rfl, hb⟩
  · obtain ⟨g, cap, e1, h1, h2, h3, h4, _, hH⟩ := Lib.holds_of_ownsRow hown (by intro e; injection e with e1 e2; omega)
    injection e1 with e1 _ e3
    subst e1 e3
    have hs := Tryz.slices_Compact_int g 0 c zs w hH (by omega) (by omega)
    rw [hl] at hs
    refine hs.mono ?_
    rintro e w' ⟨rfl, q, rfl⟩
    have ho := Lib.ownsRow_putRow (q := q) (k := (Lib.compact zs).length) (ys := Lib.compact zs ++ List.replicate (n - (Lib.compact zs).length) 0) hown (by simp; omega) (by omega)
    rw [List.take_left] at ho
    exact ⟨rfl, rowI_own ho rfl, .inr ⟨g, 0, rfl, h1⟩, Lib.below_putRow hb h1⟩
theorem idle_Columns (w : World) : CallsD Tryz.prog 61 #[] .returning w fun e u' w' => e = .returned (.tuple #[]) ∧ u' = .returning ∧ w' = w := by
  refine callsD_of_wpS Tryz.func61 rfl fun c₀ cs hu => ?_
  apply wpS_region
  cases c₀
  simp_all [wpOpsS, go_sem, recoverD, Tryz.ntmps61, bodyPostS, results, Tryz.results61]
def CoRel (w : World) (es : List T) (v3 v11 : Value) (wr : World) : Prop :=
  ∃ k : Nat, v11 = .int .i64 (k : Int) ∧ k ≤ es.length ∧ wr.ownsRow w.heap.size 3 1 v3 (colsL (es.take k)).length ((colsL (es.take k)).map (Value.int .i64)) ∧ Below w.heap.size w wr
theorem xcolumns (A : Option Addr) (n c : Nat) (es : List T) (w : World) (hn : n ≤ maxLen) (hr : RowT w w.heap.size A n es) : Calls Tryz.prog 31 #[.slice A n c] w (ClPost w (colsV es)) := by
  have hmf : ∀ (fn : Fn) (first cap : Array Value) (w : World), (Instr.makeFunc fn first cap).run Tryz.prog w = .ok (.func fn first cap) w := fun _ _ _ _ => rfl
  have hvd := xvalidE A n c es w hn hr
  have HN := Lib.hid hr.len
  cases hval : validE es
  · rw [hval] at hvd
    have HR := Lib.hid (show colsV es = [] by unfold colsV; rw [if_neg (by rw [hval]; decide)])
    clear hval
    go_enter_defers Tryz.func31, Tryz.ntmps31
    go_wp2_with ((go_at_call 26; refine (hvd).mono ?_; rintro e w1 ⟨rfl, hb1⟩; have hz1 := hb1.size; (try simp at hz1)))
    refine leave_idle idle_Columns (by simp [go_sem]) (by simp [results, Tryz.results31, go_sem]; rfl) ?_
    rw [HR.out]
    exact ⟨none, 0, rfl, RowOf.nil_, .inl rfl, by (exact belQ)⟩
  rw [hval] at hvd
  have HR := Lib.hid (show colsV es = (colsL es).foldl addL [] by unfold colsV; rw [if_pos hval]; rfl)
  have hn64 : n ≤ 64 := by have := validE_len hval; have := HN.out; omega
  clear hval
  go_enter_defers Tryz.func31, Tryz.ntmps31
  go_wp2_with ((go_at_call 26; refine (hvd).mono ?_; rintro e w1 ⟨rfl, hb1⟩; have hz1 := hb1.size; (try simp at hz1)))
  go_loopw [3, 11] (fun v3 v11 wr => CoRel w es v3 v11 wr) (fun _ v11 _ => n - (intOf v11).toNat)
  case atStart => exact ⟨0, rfl, by omega, World.ownsRow_nil _ _ _ _, by (exact belQ)⟩
  case round =>
    obtain ⟨k, rfl, hk, hown, hbel⟩ := hrel
    have hzz := hbel.size
    have hcl := colsL_le es k
    have hkn : k ≤ n := by have := HN.out; omega
    by_cases hlt : k < n
    · have h1 : (k : Int) < (n : Int) := by omega
      have h0 : (0 : Int) ≤ (k : Int) := by omega
      have hkw : IntKind.i64.wrap ((k : Int) + 1) = (k : Int) + 1 := IntWalk.i64_in _ (by omega)
      obtain ⟨b, off, t, rfl, hb, ht, c0, c1, c2, c3, c4⟩ := RowT.at5 ((hr.below hbel).more hzz) hlt
      have hS := colsL_take ht
      clear ht
      by_cases h2 : t.op = 2
      · have t2 : (t.op == 2) = true := by simpa using h2
        rw [if_pos h2] at hS
        have HS := Lib.hid hS
        clear hS h2
        go_wp2_with (at_builtin; refine wpList_app (v := u3) rfl _ _ stI rfl rfl ((hown.alloc _)) rfl (by simp) rfl (by simp [Value.oneCell']) (by omega) (by simp; omega) ?_; intro v6 w6 own6 hg6 hat6; have hz6 := hg6.size)
        have hb6 := below_app (hbel.alloc (by omega) _) (hown.alloc _) hg6 (Nat.le_refl _) (by simp; omega)
        refine ⟨⟨k + 1, by go_num, by have := HN.out; omega, ?_, hb6⟩, by simp [intOf]; omega⟩
        rw [HS.out, List.length_append, List.map_append]
        exact own6
      · have t2 : (t.op == 2) = false := by simpa using h2
        rw [if_neg h2, List.append_nil] at hS
        have HS := Lib.hid hS
        clear hS h2
        go_wp2_with fail
        go_roundw
        case rel =>
          refine ⟨k + 1, by go_num, by have := HN.out; omega, ?_, by (exact belQ)⟩
          rw [HS.out]
          exact hown.alloc _
        case measure => simp [intOf]; omega
    · have h1 : ¬ (k : Int) < (n : Int) := by omega
      have hpe : es.take k = es := List.take_of_length_le (by rw [HN.out]; omega)
      rw [hpe] at hown hcl
      obtain ⟨A3, c3, rfl, _, _⟩ := own_slice hown
      have HC := Lib.hid (compact_cols (colsL es))
      have hso := sort_own A3 (colsL es).length c3 w.heap.size (colsL es) w wr hzz (by omega) hown hbel
      generalize (colsL es).mergeSort (fun x y => decide (x ≤ y)) = ss at hso HC
      clear hown
      go_wp2_with fail
      refine hso.mono ?_
      rintro e w2 ⟨rfl, ho2, hb2⟩
      have hz2 := hb2.size
      have hco := compact_own A3 (colsL es).length c3 w.heap.size ss w w2 (by omega) ho2 hb2
      rw [HC.out, ← HR.out] at hco
      obtain ⟨L, hL⟩ : ∃ L, colsV es = L := ⟨_, rfl⟩
      rw [hL] at hco
      have HL := Lib.hid hL
      clear hL
      clear ho2 hso
      go_wp2_with fail
      refine hco.mono ?_
      rintro e w5 ⟨rfl, hr5, hf5, hb5⟩
      have hz5 := hb5.size
      go_wp2_with fail
      refine leave_idle idle_Columns (by simp [go_sem]) (by simp [results, Tryz.results31, go_sem]; rfl) ?_
      rw [HL.out]
      exact ⟨A3, c3, rfl, hr5, hf5, hb5⟩
def intV (zs : List Int) : List Value := zs.map (Value.int .i64)
theorem sort_s {w : World} {l l' : List HA} (A : Option Addr) (n c : Nat) (zs : List Int) (hn : n ≤ 1000000) (H : HS w l) (hp : Pick l (rowA 3 1 (.slice A n c) n (intV zs)) l') :
    Calls Tryz.prog 62 #[.slice A n c] w fun e w' => e = .returned (.tuple #[]) ∧ HS w' (rowA 3 1 (.slice A n c) n (intV (zs.mergeSort fun x y => decide (x ≤ y))) :: l') := by
  obtain ⟨S, ⟨hown, rfl⟩, h2⟩ := (H.pick hp).go
  unfold intV at hown ⊢
  have hl : zs.length = n := by simpa using hown.1
  rcases Nat.eq_zero_or_pos n with h0 | h0
  · subst h0
    obtain rfl := List.eq_nil_of_length_eq_zero hl
    refine (Tryz.slices_Sort_int_none A c w).mono ?_
    rintro e w' ⟨rfl, rfl⟩
    exact ⟨rfl, by simpa [intV] using H.pick hp⟩
  · obtain ⟨g, cap, e1, h1, h3, h4, h5, _, hH⟩ := Lib.holds_of_ownsRow hown (by intro e; injection e with e1 e2; omega)
    injection e1 with e1 _ e3
    subst e1 e3
    have hs := Tryz.slices_Sort_int g 0 c zs w hH h3 (by omega)
    rw [hl] at hs
    refine hs.mono ?_
    rintro e w' ⟨rfl, nn, os, rfl⟩
    rcases hown.2 with ⟨e0, _⟩ | ⟨g', cap', cur, hv, hbase', hb', k1, k2, k3, k4⟩
    · cases e0
    · cases hv
      have ho := ownsRow_sortedI (n := nn) (os := os) (ts := zs.mergeSort fun x y => decide (x ≤ y)) (List.length_mergeSort zs) hbase' hb' (by omega) k2 k3
      rw [hl] at ho
      exact ⟨rfl, h2 _ _ _ ((PFr.refl _ _).grown (grownBy_sortedI _) fun k hk _ => hk) ⟨ho, rfl⟩ fun k hk => .inl hk⟩
theorem pfr_putRow {n c : Nat} (w : World) (g q : Nat) (d : Array Int) : PFr (fun k => (Value.slice (some ⟨g, 0, none⟩) n c).ownBlock = some k) w (putRow (Value.int .i64) (Sort.ahead w q) g 0 d) := by
  refine ⟨rfl, rfl, rfl, by simp [Sort.ahead], fun k hk hn => ?_⟩
  have hne : g ≠ k := fun e => hn (by rw [e]; rfl)
  simp [putRow, mapBlock, Sort.ahead, Array.getElem?_modify, hne]
theorem compact_s {w : World} {l l' : List HA} (A : Option Addr) (n c : Nat) (zs : List Int) (hn : n ≤ 1000000) (H : HS w l) (hp : Pick l (rowA 3 1 (.slice A n c) n (intV zs)) l') :
    Calls Tryz.prog 63 #[.slice A n c] w fun e w' => e = .returned (.slice A (Lib.compact zs).length c) ∧ HS w' (rowA 3 1 (.slice A (Lib.compact zs).length c) (Lib.compact zs).length (intV (Lib.compact zs)) :: l') := by
  obtain ⟨S, ⟨hown, rfl⟩, h2⟩ := (H.pick hp).go
  unfold intV at hown ⊢
  have hl : zs.length = n := by simpa using hown.1
  have hle : (Lib.compact zs).length ≤ zs.length := by
    unfold Lib.compact Lib.compactUpTo
    rw [List.length_map]
    exact Nat.le_trans (List.length_filter_le _ _) (by simp)
  rcases Nat.eq_zero_or_pos n with h0 | h0
  · subst h0
    obtain rfl := List.eq_nil_of_length_eq_zero hl
    refine (Tryz.slices_Compact_int_empty A c w).mono ?_
    rintro e w' ⟨rfl, rfl⟩
    exact ⟨rfl, by have := H.pick hp; unfold intV at this; exact this⟩
  · obtain ⟨g, cap, e1, h1, h3, h4, h5, _, hH⟩ := Lib.holds_of_ownsRow hown (by intro e; injection e with e1 e2; omega)
    injection e1 with e1 _ e3
    subst e1 e3
    have hs := Tryz.slices_Compact_int g 0 c zs w hH (by omega) (by omega)
    rw [hl] at hs
    refine hs.mono ?_
    rintro e w' ⟨rfl, q, rfl⟩
    have ho := Lib.ownsRow_putRow (q := q) (k := (Lib.compact zs).length) (ys := Lib.compact zs ++ List.replicate (n - (Lib.compact zs).length) 0) hown (by simp; omega) (by omega)
    rw [List.take_left] at ho
    exact ⟨rfl, h2 _ _ _ (pfr_putRow _ _ _ _) ⟨ho, rfl⟩ fun k hk => .inl hk⟩
structure WfT (t : Tab) (o : List (List Tk)) : Prop where
  len : t.cols.length = o.length
  ow : ∀ c ∈ t.cols, c.owners = []
theorem zip_snoc {α β : Type} {l : List α} {m : List β} {a : α} {b : β} (h : l.length = m.length) : (l ++ [a]).zip (m ++ [b]) = l.zip m ++ [(a, b)] := by
  rw [List.zip_append h]
  rfl
section
variable {α β : Type} {f : α → Except Er β}
theorem mapE_snoc : ∀ {l : List α} {m : List β} {a : α} {b : β}, mapE f l = .ok m → f a = .ok b → mapE f (l ++ [a]) = .ok (m ++ [b])
  | [], m, a, b, h, h2 => by
    injection h with h
    subst h
    simp [mapE, h2]
  | x :: l, m, a, b, h, h2 => by
    rw [mapE] at h
    rw [List.cons_append, mapE]
    cases hx : f x with
    | error p => rw [hx] at h; cases h
    | ok y =>
      rw [hx] at h
      cases hl : mapE f l with
      | error p => rw [hl] at h; cases h
      | ok z =>
        rw [hl] at h
        injection h with h
        subst h
        rw [mapE_snoc hl h2]
        rfl
theorem mapE_err : ∀ {l r : List α} {m : List β} {a : α} {p : Er}, mapE f l = .ok m → f a = .error p → mapE f (l ++ a :: r) = .error p
  | [], r, m, a, p, h, h2 => by simp [mapE, h2]
  | x :: l, r, m, a, p, h, h2 => by
    rw [mapE] at h
    rw [List.cons_append, mapE]
    cases hx : f x with
    | error p => rw [hx] at h; cases h
    | ok y =>
      rw [hx] at h
      cases hl : mapE f l with
      | error p => rw [hl] at h; cases h
      | ok z => rw [mapE_err hl h2]
theorem mapE_len : ∀ {l : List α} {m : List β}, mapE f l = .ok m → m.length = l.length
  | [], m, h => by
    injection h with h
    subst h
    rfl
  | x :: l, m, h => by
    rw [mapE] at h
    cases hx : f x with
    | error p => rw [hx] at h; cases h
    | ok y =>
      rw [hx] at h
      cases hl : mapE f l with
      | error p => rw [hl] at h; cases h
      | ok z =>
        rw [hl] at h
        injection h with h
        subst h
        rw [List.length_cons, List.length_cons, mapE_len hl]
theorem mapE_step {l : List α} {m : List β} {i : Nat} {a : α} {b : β} (h : mapE f (l.take i) = .ok m) (ha : l[i]? = some a) (hb : f a = .ok b) : mapE f (l.take (i + 1)) = .ok (m ++ [b]) := by
  rw [List.take_add_one, ha]
  exact mapE_snoc h hb
theorem mapE_stop {l : List α} {m : List β} {i : Nat} {a : α} {p : Er} (h : mapE f (l.take i) = .ok m) (ha : l[i]? = some a) (hb : f a = .error p) : mapE f l = .error p := by
  obtain ⟨hi, e⟩ := List.getElem?_eq_some_iff.1 ha
  rw [← List.take_append_drop i l, List.drop_eq_getElem_cons hi, e]
  exact mapE_err h hb
end
theorem pick_mem : ∀ {l : List HA} {A : HA}, A ∈ l → ∃ l', Pick l A l'
  | B :: l, A, h => by
    rcases List.mem_cons.1 h with rfl | h
    · exact ⟨_, .here⟩
    · obtain ⟨l', h'⟩ := pick_mem h
      exact ⟨_, .there h'⟩
theorem pick_app : ∀ {l l' m : List HA} {A : HA}, Pick l A l' → Pick (l ++ m) A (l' ++ m)
  | _, _, _, _, .here => .here
  | _, _, _, _, .there h => .there (pick_app h)
section
variable {w : World} {l l' : List HA}
theorem HS.mem {m : List HA} (H : HS w l) (hp : Pick l (allA m) l') {A : HA} (h : A ∈ m) : ∃ S, A.holds w S := by
  obtain ⟨m', h'⟩ := pick_mem h
  exact ((H.all hp).pick (pick_app h')).head
theorem own_at {e : TypeId} {size n c : Nat} {A : Option Addr} {xs : List Value} (h : w.ownsRow 0 e size (.slice A n c) n xs) (hne : xs ≠ []) : ∃ g, A = some ⟨g, 0, none⟩ ∧ g < w.heap.size ∧ (∀ j u, xs[j]? = some u → w.cell? ⟨g, j, none⟩ = some u) ∧ ∀ j, w.frozen? ⟨g, j, none⟩ = false := by
  obtain ⟨b, off, e1, hb, hc⟩ := Rd.of_own h hne
  rcases h.2 with ⟨h1, rfl⟩ | ⟨g, cap, cur, h1, h2, h3, h4, h5, h6, h7⟩
  · exact absurd (List.eq_nil_of_length_eq_zero (by simpa using h.1)) hne
  · injection h1 with h1 _ _
    subst h1
    injection e1 with e1
    injection e1 with e1 e2 _
    subst e1 e2
    refine ⟨g, rfl, hb, fun j u hu => ?_, fun j => by simp [World.frozen?, h3]⟩
    have := hc j u hu
    rw [Nat.zero_add] at this
    exact this
theorem HS.rowAt {e : TypeId} {size n c : Nat} {A : Option Addr} {xs : List Value} (H : HS w l) (hp : Pick l (rowA e size (.slice A n c) n xs) l') (hne : xs ≠ []) : ∃ g, A = some ⟨g, 0, none⟩ ∧ g < w.heap.size ∧ (∀ j u, xs[j]? = some u → w.cell? ⟨g, j, none⟩ = some u) ∧ ∀ j, w.frozen? ⟨g, j, none⟩ = false := own_at (H.row hp) hne
theorem HS.rowB {n c : Nat} {A : Option Addr} {ws : List Bs} (H : HS w l) (hp : Pick l (rowA 9 1 (.slice A n c) n (ws.map strV)) l') (hn : ws.length = n) : RowB w w.heap.size A n ws := RowOf.of_own (by rw [flat_str]; exact H.row hp) hn
end
theorem HS.pushA {w : World} {l l' l'' m : List HA} {A : HA} (H : HS w l) (h1 : Pick l A l') (h2 : Pick l' (allA m) l'') : HS w (allA (m ++ [A]) :: l'') := allA_snoc (((H.pick h1).pick (.there h2)).pick (.there .here))
theorem HS.namesPush {w : World} {l l' l'' : List HA} {q : List (Value × List Bs)} {v : Value} {names : List Bs} {n : Nat} (hn : names.length = n) (H : HS w l) (h1 : Pick l (rowA 9 1 v n (names.map strV)) l') (h2 : Pick l' (namesA q) l'') : HS w (namesA (q ++ [(v, names)]) :: l'') := HS.namesAdd hn (((H.pick h1).pick (.there h2)).pick (.there .here))
abbrev Co := Col × Value
def coC (l : List Co) : List Value := l.flatMap fun x => (colC x.1 x.2).toList
def coA (x : Co) : HA := rowA 3 1 x.2 x.1.owners.length (intV x.1.owners)
def co0 (c : Col) : Co := (c, .slice none 0 0)
def owned (c : Col) (o : List Int) : Col := { c with owners := o.foldl addL [] }
theorem coC_0 (l : List Col) : coC (l.map co0) = colsC l := by
  unfold coC colsC colL co0
  rw [List.flatMap_map]
theorem coC_len : ∀ (l : List Co), (coC l).length = l.length * 7
  | [] => rfl
  | x :: l => by
    have := coC_len l
    unfold coC at this ⊢
    rw [List.flatMap_cons, List.length_append, this, List.length_cons]
    show 7 + _ = _
    omega
theorem coC_set (X r : List Co) (c : Col) (o : List Int) (u v : Value) : (coC (X ++ (c, u) :: r)).set (X.length * 7 + 4) v = coC (X ++ (owned c o, v) :: r) := by
  have h := coC_len X
  unfold coC at h ⊢
  rw [List.flatMap_append, List.flatMap_append, List.set_append_right _ _ (by rw [h]; omega), h, Nat.add_sub_cancel_left, List.flatMap_cons, List.flatMap_cons]
  rfl
theorem coC_at {l : List Co} {i : Nat} {x : Co} (h : l[i]? = some x) (j : Nat) (u : Value) (hu : (colC x.1 x.2).toList[j]? = some u) : (coC l)[i * 7 + j]? = some u := flatMap_at 7 (fun _ => rfl) l i j x u h hu
structure ColsAt (cols : List Col) (ow : List (List Tk)) (names : List Bs) (i : Nat) (X : List Co) (ms : List (List Int)) : Prop where
  e : mapE (fun l => mapE (findCol names) l) (ow.take i) = .ok ms
  x : X.map Prod.fst = ((cols.take i).zip ms).map fun x => owned x.1 x.2
  n : X.length = i
theorem ColsAt.nil {cols : List Col} {ow : List (List Tk)} {names : List Bs} : ColsAt cols ow names 0 [] [] := ⟨rfl, rfl, rfl⟩
theorem ColsAt.snoc {cols : List Col} {ow : List (List Tk)} {names : List Bs} {i : Nat} {X : List Co} {ms : List (List Int)} {c : Col} {o : List Tk} {m : List Int} {v : Value} (h : ColsAt cols ow names i X ms) (hc : cols[i]? = some c) (ho : ow[i]? = some o) (hm : mapE (findCol names) o = .ok m) : ColsAt cols ow names (i + 1) (X ++ [(owned c m, v)]) (ms ++ [m]) := by
  refine ⟨mapE_step h.e ho hm, ?_, by simp [h.n]⟩
  have h1 := mapE_len h.e
  have h2 := (List.getElem?_eq_some_iff.1 hc).1
  have h3 := (List.getElem?_eq_some_iff.1 ho).1
  rw [List.take_add_one, hc, List.map_append, h.x, Option.toList_some, zip_snoc (by rw [h1]; simp; omega), List.map_append]
  rfl
def RtbPost (zs sn pb : Nat) (xs ys : List Value) (q : List (Value × List Bs)) (ds : Array Value) (Tv Ov : Value) (nt no : Nat) (txs oxs : List Value) (x : Tab × List (List Tk) × Tq) (l : List HA) : Except Er Tab → Ending → World → Prop
  | .error p, e, w => e = .returned (.tuple #[.int .i64 p.1, .int .i64 p.2]) ∧ HS w l
  | .ok t, e, w => e = .returned (.tuple #[.int .i64 0, .int .i64 0]) ∧ ∃ (X : List Co) (sv cv nv : Value), X.map Prod.fst = t.cols ∧
    HS w (boxA zs #[sv, cv] 143 :: rowA 9 1 sv (sn + 1) (xs ++ [strV x.1.name]) :: rowA 25 1 cv (sn + 1) (ys ++ [nv]) :: namesA (q ++ [(nv, x.1.cols.map Col.name)]) :: boxA pb ds 69 :: rowA 79 4 Tv nt txs :: rowA 198 1 Ov no oxs :: rowA 82 7 x.2.2.cv x.1.cols.length (coC X) :: allA (X.map coA) :: l)
theorem fcR_ok {ws : List Bs} {t : Tk} {k : Int} (h : findCol ws t = .ok k) : fcR ws t = (k, 0, 0) := by
  unfold findCol at h
  unfold fcR
  split at h
  · cases h
  · injection h with h
    subst h
    rename_i h2
    rw [h2]
theorem fcR_error {ws : List Bs} {t : Tk} {p : Er} (h : findCol ws t = .error p) : fcR ws t = (0, p.1, p.2) ∧ p.2 = 3 := by
  unfold findCol at h
  unfold fcR
  split at h
  · injection h with h
    subst h
    rename_i h2
    rw [h2]
    exact ⟨rfl, rfl⟩
  · cases h
end Go.Proofs.YtpnfbehbheddeaaGreatDoor
