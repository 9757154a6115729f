/- Contract of the program's Columns. -/
import Derived.Test.YtojcabnjodfdmaaGreatDoorXCompact
import Derived.Test.YtojcabnjodfdmaaGreatDoorFf
import Derived.Test.YtojcabnjodfdmaaGreatDoorBd
import Derived.Test.YtojcabnjodfdmaaGreatDoorBa
import Derived.Test.YtojcabnjodfdmaaGreatDoorXSubst
import Derived.Test.YtojcabnjodfdmaaGreatDoorShelf
import Derived.Lib.OwnBridge
import Derived.Sort.OwnSortedInts
namespace Go.Proofs.YtojcabnjodfdmaaGreatDoor
open Go.RowKit Go.Sort

def colsV (es : List T) : List Int := if validE es = true then colsA es else []
theorem colsL_take {es : List T} {k : Nat} {t : T} (h : es[k]? = some t) : colsL (es.take (k + 1)) = colsL (es.take k) ++ (if t.op = 2 then [t.c] else []) := by
  unfold colsL
  rw [List.take_add_one, h, Option.toList_some, List.filter_append, List.map_append]
  congr 1
  by_cases h2 : t.op = 2 <;> simp [h2]
theorem colsL_le (es : List T) (k : Nat) : (colsL (es.take k)).length ≤ k := by
  unfold colsL
  rw [List.length_map]
  exact Nat.le_trans (List.length_filter_le _ _) (by rw [List.length_take]; omega)
/-- A row of ints that the call has made comes back. -/
def ClPost (w : World) (l : List Int) (e : Ending) (w' : World) : Prop :=
  ∃ (A : Option Addr) (c : Nat), e = .returned (.slice A l.length c) ∧ RowI w' w'.heap.size A l.length l ∧ (l.length = 0 ∨ ∃ k off, A = some ⟨k, off, none⟩ ∧ w.heap.size ≤ k) ∧ Below w.heap.size w w'
theorem iflat (zs : List Int) : zs.flatMap (fun z => [Value.int .i64 z]) = zs.map (Value.int .i64) := by
  induction zs with
  | nil => rfl
  | cons a l ih => rw [List.flatMap_cons, ih]; rfl
theorem rowI_own {w : World} {base n c : Nat} {A : Option Addr} {zs : List Int} (h : w.ownsRow base 3 1 (.slice A n c) n (zs.map (Value.int .i64))) (hn : zs.length = n) : RowI w w.heap.size A n zs := RowOf.of_own (by rw [iflat]; exact h) hn
theorem sort_own (A : Option Addr) (n c base : Nat) (zs : List Int) (w0 w : World) (hbase : base ≤ w.heap.size) (hn : n ≤ 1000) (hown : w.ownsRow base 3 1 (.slice A n c) n (zs.map (Value.int .i64))) (hb : Below base w0 w) :
    Calls Tryz.prog 37 #[.slice A n c] w fun e w' => e = .returned (.tuple #[]) ∧ w'.ownsRow base 3 1 (.slice A n c) n ((zs.mergeSort fun x y => decide (x ≤ y)).map (Value.int .i64)) ∧ Below base w0 w' := by
  have hl : zs.length = n := by simpa using hown.1
  rcases Nat.eq_zero_or_pos n with h0 | h0
  · subst h0
    obtain rfl := List.eq_nil_of_length_eq_zero hl
    refine (Tryz.slices_Sort_int_none A c w).mono ?_
    rintro e w' ⟨rfl, rfl⟩
    exact ⟨rfl, by simpa using hown, hb⟩
  · obtain ⟨g, cap, e1, h1, h2, h3, h4, _, hH⟩ := Lib.holds_of_ownsRow hown (by intro e; injection e with e1 e2; omega)
    injection e1 with e1 _ e3
    subst e1 e3
    have hs := Tryz.slices_Sort_int g 0 c zs w hH h2 (by omega)
    rw [hl] at hs
    refine hs.mono ?_
    rintro e w' ⟨rfl, nn, os, rfl⟩
    rcases hown.2 with ⟨e0, _⟩ | ⟨g', cap', cur, hv, hbase', hb', k1, k2, k3, k4⟩
    · cases e0
    · cases hv
      have ho := ownsRow_sortedI (n := nn) (os := os) (ts := zs.mergeSort fun x y => decide (x ≤ y)) (List.length_mergeSort zs) hbase' hb' (by omega) k2 k3
      rw [hl] at ho
      exact ⟨rfl, ho, hb.grown (grownBy_sortedI _) hbase (fun j hj => by cases hj; exact hbase')⟩
theorem compact_own (A : Option Addr) (n c base : Nat) (zs : List Int) (w0 w : World) (hn : n ≤ 1000) (hown : w.ownsRow base 3 1 (.slice A n c) n (zs.map (Value.int .i64))) (hb : Below base w0 w) :
    Calls Tryz.prog 38 #[.slice A n c] w fun e w' => e = .returned (.slice A (Lib.compact zs).length c) ∧ RowI w' w'.heap.size A (Lib.compact zs).length (Lib.compact zs) ∧ ((Lib.compact zs).length = 0 ∨ ∃ k off, A = some ⟨k, off, none⟩ ∧ base ≤ k) ∧ Below base w0 w' := by
  have hl : zs.length = n := by simpa using hown.1
  have hle : (Lib.compact zs).length ≤ zs.length := by
    unfold Lib.compact Lib.compactUpTo
    rw [List.length_map]
    exact Nat.le_trans (List.length_filter_le _ _) (by simp)
  rcases Nat.eq_zero_or_pos n with h0 | h0
  · subst h0
    obtain rfl := List.eq_nil_of_length_eq_zero hl
    refine (Tryz.slices_Compact_int_empty A c w).mono ?_
    rintro e w' ⟨rfl, rfl⟩
    exact ⟨rfl, RowOf.nil_, .inl rfl, hb⟩
  · obtain ⟨g, cap, e1, h1, h2, h3, h4, _, hH⟩ := Lib.holds_of_ownsRow hown (by intro e; injection e with e1 e2; omega)
    injection e1 with e1 _ e3
    subst e1 e3
    have hs := Tryz.slices_Compact_int g 0 c zs w hH (by omega) (by omega)
    rw [hl] at hs
    refine hs.mono ?_
    rintro e w' ⟨rfl, q, rfl⟩
    have ho := Lib.ownsRow_putRow (q := q) (k := (Lib.compact zs).length) (ys := Lib.compact zs ++ List.replicate (n - (Lib.compact zs).length) 0) hown (by simp; omega) (by omega)
    rw [List.take_left] at ho
    exact ⟨rfl, rowI_own ho rfl, .inr ⟨g, 0, rfl, h1⟩, Lib.below_putRow hb h1⟩
theorem idle_Columns (w : World) : CallsD Tryz.prog 36 #[] .returning w fun e u' w' => e = .returned (.tuple #[]) ∧ u' = .returning ∧ w' = w := by
  refine callsD_of_wpS Tryz.func36 rfl fun c₀ cs hu => ?_
  apply wpS_region
  cases c₀
  simp_all [wpOpsS, go_sem, recoverD, Tryz.ntmps36, bodyPostS, results, Tryz.results36]
/-- After so many terms of Columns. -/
def CoRel (w : World) (es : List T) (v3 v11 : Value) (wr : World) : Prop :=
  ∃ k : Nat, v11 = .int .i64 (k : Int) ∧ k ≤ es.length ∧ wr.ownsRow w.heap.size 3 1 v3 (colsL (es.take k)).length ((colsL (es.take k)).map (Value.int .i64)) ∧ Below w.heap.size w wr
set_option maxRecDepth 100000 in
set_option maxHeartbeats 4000000 in
theorem xcolumns (A : Option Addr) (n c : Nat) (es : List T) (w : World) (hn : n ≤ maxLen) (hr : RowT w w.heap.size A n es) : Calls Tryz.prog 17 #[.slice A n c] w (ClPost w (colsV es)) := by
  have hmf : ∀ (fn : Fn) (first cap : Array Value) (w : World), (Instr.makeFunc fn first cap).run Tryz.prog w = .ok (.func fn first cap) w := fun _ _ _ _ => rfl
  have hvd := xvalidE A n c es w hn hr
  have HN := Lib.hid hr.len
  cases hval : validE es
  · rw [hval] at hvd
    have HR := Lib.hid (show colsV es = [] by unfold colsV; rw [if_neg (by rw [hval]; decide)])
    clear hval
    go_enter_defers Tryz.func17, Tryz.ntmps17
    go_wp2_with ((go_at_call 11; refine (hvd).mono ?_; rintro e w1 ⟨rfl, hb1⟩; have hz1 := hb1.size; (try simp at hz1)))
    refine leave_idle idle_Columns (by simp [go_sem]) (by simp [results, Tryz.results17, go_sem]; rfl) ?_
    rw [HR.out]
    exact ⟨none, 0, rfl, RowOf.nil_, .inl rfl, by (repeat (first | (with_reducible exact Below.refl _ _) | (with_reducible assumption) | (with_reducible refine Below.drew ?_) | (with_reducible refine below_drewN ?_ _) | ((with_reducible refine Below.setCell ?_ ?_ _); rotate_left; (focus (first | (simp; done) | (simp; omega) | omega))) | ((with_reducible refine Below.alloc ?_ ?_ _); rotate_left; (focus (first | (simp; done) | (simp; omega) | omega))) | ((with_reducible apply below_step1); (focus (with_reducible assumption)))))⟩
  rw [hval] at hvd
  have HR := Lib.hid (show colsV es = (colsL es).foldl addL [] by unfold colsV; rw [if_pos hval]; rfl)
  have hn64 : n ≤ 64 := by have := validE_len hval; have := HN.out; omega
  clear hval
  go_enter_defers Tryz.func17, Tryz.ntmps17
  go_wp2_with ((go_at_call 11; refine (hvd).mono ?_; rintro e w1 ⟨rfl, hb1⟩; have hz1 := hb1.size; (try simp at hz1)))
  go_loopw [3, 11] (fun v3 v11 wr => CoRel w es v3 v11 wr) (fun _ v11 _ => n - (intOf v11).toNat)
  case atStart => exact ⟨0, rfl, by omega, World.ownsRow_nil _ _ _ _, by (repeat (first | (with_reducible exact Below.refl _ _) | (with_reducible assumption) | (with_reducible refine Below.drew ?_) | (with_reducible refine below_drewN ?_ _) | ((with_reducible refine Below.setCell ?_ ?_ _); rotate_left; (focus (first | (simp; done) | (simp; omega) | omega))) | ((with_reducible refine Below.alloc ?_ ?_ _); rotate_left; (focus (first | (simp; done) | (simp; omega) | omega))) | ((with_reducible apply below_step1); (focus (with_reducible assumption)))))⟩
  case round =>
    obtain ⟨k, rfl, hk, hown, hbel⟩ := hrel
    have hzz := hbel.size
    have hcl := colsL_le es k
    have hkn : k ≤ n := by have := HN.out; omega
    by_cases hlt : k < n
    · have h1 : (k : Int) < (n : Int) := by omega
      have h0 : (0 : Int) ≤ (k : Int) := by omega
      have hkw : IntKind.i64.wrap ((k : Int) + 1) = (k : Int) + 1 := IntWalk.i64_in _ (by omega)
      obtain ⟨b, off, t, rfl, hb, ht, c0, c1, c2, c3, c4⟩ := RowT.at5 ((hr.below hbel).more hzz) hlt
      have hS := colsL_take ht
      clear ht
      by_cases h2 : t.op = 2
      · have t2 : (t.op == 2) = true := by simpa using h2
        rw [if_pos h2] at hS
        have HS := Lib.hid hS
        clear hS h2
        go_wp2_with (at_builtin; refine wpList_app (v := u3) rfl _ _ stI rfl rfl ((hown.alloc _)) rfl (by simp) rfl (by simp [Value.oneCell']) (by omega) (by simp; omega) ?_; intro v6 w6 own6 hg6 hat6; have hz6 := hg6.size)
        have hb6 := below_app (hbel.alloc (by omega) _) (hown.alloc _) hg6 (Nat.le_refl _) (by simp; omega)
        refine ⟨⟨k + 1, by go_num, by have := HN.out; omega, ?_, hb6⟩, by simp [intOf]; omega⟩
        rw [HS.out, List.length_append, List.map_append]
        exact own6
      · have t2 : (t.op == 2) = false := by simpa using h2
        rw [if_neg h2, List.append_nil] at hS
        have HS := Lib.hid hS
        clear hS h2
        go_wp2_with fail
        go_roundw
        case rel =>
          refine ⟨k + 1, by go_num, by have := HN.out; omega, ?_, by (repeat (first | (with_reducible exact Below.refl _ _) | (with_reducible assumption) | (with_reducible refine Below.drew ?_) | (with_reducible refine below_drewN ?_ _) | ((with_reducible refine Below.setCell ?_ ?_ _); rotate_left; (focus (first | (simp; done) | (simp; omega) | omega))) | ((with_reducible refine Below.alloc ?_ ?_ _); rotate_left; (focus (first | (simp; done) | (simp; omega) | omega))) | ((with_reducible apply below_step1); (focus (with_reducible assumption)))))⟩
          rw [HS.out]
          exact hown.alloc _
        case measure => simp [intOf]; omega
    · have h1 : ¬ (k : Int) < (n : Int) := by omega
      have hpe : es.take k = es := List.take_of_length_le (by rw [HN.out]; omega)
      rw [hpe] at hown hcl
      obtain ⟨A3, c3, rfl, _, _⟩ := own_slice hown
      have HC := Lib.hid (compact_cols (colsL es))
      have hso := sort_own A3 (colsL es).length c3 w.heap.size (colsL es) w wr hzz (by omega) hown hbel
      generalize (colsL es).mergeSort (fun x y => decide (x ≤ y)) = ss at hso HC
      clear hown
      go_wp2_with fail
      refine hso.mono ?_
      rintro e w2 ⟨rfl, ho2, hb2⟩
      have hz2 := hb2.size
      have hco := compact_own A3 (colsL es).length c3 w.heap.size ss w w2 (by omega) ho2 hb2
      rw [HC.out, ← HR.out] at hco
      obtain ⟨L, hL⟩ : ∃ L, colsV es = L := ⟨_, rfl⟩
      rw [hL] at hco
      have HL := Lib.hid hL
      clear hL
      clear ho2 hso
      go_wp2_with fail
      refine hco.mono ?_
      rintro e w5 ⟨rfl, hr5, hf5, hb5⟩
      have hz5 := hb5.size
      go_wp2_with fail
      refine leave_idle idle_Columns (by simp [go_sem]) (by simp [results, Tryz.results17, go_sem]; rfl) ?_
      rw [HL.out]
      exact ⟨A3, c3, rfl, hr5, hf5, hb5⟩
end Go.Proofs.YtojcabnjodfdmaaGreatDoor
