/- Contract of the tape's TypedExpr: an expression of the wanted type comes back, and only the tape's own block has changed. -/
import Derived.Test.YtojcabnjodfdmaaDoorBd
import Derived.Test.YtojcabnjodfdmaaDoorFg
import Derived.Deep.CutBlock
import Derived.Deep.DeepCutAuto
namespace Go.Proofs.YtojcabnjodfdmaaDoor
open Go.RowKit

/-- A new row of the terms of one expression of a type. -/
def TxPost (w : World) (b g d : Nat) (types : List Int) (want : Int) (e : Ending) (w' : World) : Prop :=
  ∃ (A : Option Addr) (c : Nat) (x : X), e = .returned (.slice A x.flat.length c) ∧ w'.ownsRow w.heap.size 36 5 (.slice A x.flat.length c) x.flat.length (x.flat.flatMap T.cells) ∧ x.wf = true ∧ x.depth ≤ d ∧ x.ty types = .ok want ∧ Tp w' b g ∧ w.grownBy w' (some b)
/-- Numbers that read as a list, whatever is taken from the tape. -/
def RowK (w : World) (b : Nat) (A : Option Addr) (n : Nat) (zs : List Int) : Prop := ∀ W, w.grownBy W (some b) → RowI W W.heap.size A n zs
theorem RowK.to {w w1 : World} {b n : Nat} {A : Option Addr} {zs : List Int} (h : RowK w b A n zs) (hg : w.grownBy w1 (some b)) : RowK w1 b A n zs := fun W hW => h W (grown_trans hg hW)
theorem RowK.now {w : World} {b n : Nat} {A : Option Addr} {zs : List Int} (h : RowK w b A n zs) : RowI w w.heap.size A n zs := h w (grown_refl _ _)
theorem tx_leaf {w w' : World} {b g d : Nat} {types : List Int} {want : Int} {t : T} {B : Nat} (hd : 1 ≤ d) (ho : w'.ownsRow w.heap.size 36 5 (.slice (some ⟨B, 0, none⟩) 1 1) 1 t.cells) (hok : t.ok = true) (ha : t.op = 1 ∨ t.op = 2) (hty : termT types t [] = .ok want) (ht : Tp w' b g) (hg : w.grownBy w' (some b)) : TxPost w b g d types want (.returned (.slice (some ⟨B, 0, none⟩) 1 1)) w' := by
  have ha : ar t.op = 0 := by
    rcases ha with h4 | h4 <;> rw [h4] <;> rfl
  refine ⟨some ⟨B, 0, none⟩, 1, .node t [], by rw [leaf_X]; rfl, by rw [leaf_X]; simpa using ho, ?_, by simp [X.depth, deepest]; omega, ?_, ht, hg⟩
  · simp [X.wf, wfs, hok, ha]
  · rw [X.ty]; simp only [tys]; exact hty
theorem ty_cst (types : List Int) (v : V) : termT types ⟨1, v, 0⟩ [] = .ok v.k := by simp [termT]
theorem ty_col (types : List Int) (p : Nat) (z : Int) (h : types[p]? = some z) : termT types ⟨2, V.null, (p : Int)⟩ [] = .ok z := by
  have hl : p < types.length := (List.getElem?_eq_some_iff.1 h).1
  unfold termT
  rw [if_neg (by simp; omega), if_neg (by simp), if_pos rfl]
  simp [List.getD_eq_getElem?_getD, h]
def opFor (want op : Int) : Prop := (want = 1 ∧ (op = 3 ∨ op = 4 ∨ op = 5 ∨ op = 6 ∨ op = 7 ∨ op = 9 ∨ op = 11 ∨ op = 12 ∨ op = 13 ∨ op = 14 ∨ op = 15 ∨ op = 16 ∨ op = 17 ∨ op = 18)) ∨ (want = 2 ∧ (op = 17 ∨ op = 18 ∨ op = 8 ∨ op = 10))
def TxCut1 (w : World) (b g : Nat) (d : Nat) (v24 : Value) (wx : World) : Prop := ∃ q : Bool, v24 = .bool q ∧ (d = 0 → q = true) ∧ Tp wx b g ∧ w.grownBy wx (some b)
def TxCut2 (w : World) (b g : Nat) (want : Int) (v14 : Value) (wx : World) : Prop := ∃ op : Int, v14 = .int .i64 op ∧ opFor want op ∧ Tp wx b g ∧ w.grownBy wx (some b)
def TxCut3 (w : World) (b g : Nat) (want op : Int) (v11 v12 : Value) (wx : World) : Prop := ∃ a z : Int, v11 = .int .i64 a ∧ v12 = .int .i64 z ∧ (a = 1 ∨ a = 2) ∧ (z = 1 ∨ z = 2) ∧ opT op a z want = .ok want ∧ Tp wx b g ∧ w.grownBy wx (some b)
theorem opT_take {op a z y : Int} (h3 : 3 ≤ op) (h18 : op ≤ 18) : opT op (([a, z, y].take (ar op)).getD 0 0) (([a, z, y].take (ar op)).getD 1 0) (([a, z, y].take (ar op)).getD 2 0) = opT op a z y := by
  obtain rfl | rfl | rfl | rfl | rfl | rfl | rfl | rfl | rfl | rfl | rfl | rfl | rfl | rfl | rfl | rfl : op = 3 ∨ op = 4 ∨ op = 5 ∨ op = 6 ∨ op = 7 ∨ op = 8 ∨ op = 9 ∨ op = 10 ∨ op = 11 ∨ op = 12 ∨ op = 13 ∨ op = 14 ∨ op = 15 ∨ op = 16 ∨ op = 17 ∨ op = 18 := by omega
  all_goals rfl
theorem opFor_range {want op : Int} (h : opFor want op) : 3 ≤ op ∧ op ≤ 18 := by
  rcases h with ⟨_, h⟩ | ⟨_, h⟩ <;> omega
theorem ty_node {types : List Int} {op a z y want : Int} {ks : List X} (h3 : 3 ≤ op) (h18 : op ≤ 18) (hl : tys types ks = .ok ([a, z, y].take (ar op))) (h : opT op a z y = .ok want) : (X.node ⟨op, V.null, 0⟩ ks).ty types = .ok want := by
  rw [X.ty, hl]
  simp only
  unfold termT
  rw [if_neg (by simp; omega), if_neg (by simp; omega), if_neg (by simp; omega)]
  exact (opT_take h3 h18).trans h
/-- After so many operands of TypedExpr. -/
def TxRel (w : World) (b g d tb : Nat) (types : List Int) (op a z y : Int) (v15 v17 : Value) (wr : World) : Prop :=
  ∃ (i : Nat) (ks : List X), v17 = .int .i64 (i : Int) ∧ ks.length = i ∧ i ≤ ar op ∧ wr.ownsRow w.heap.size 36 5 v15 (1 + (flats ks).length) (((T.mk op V.null 0) :: flats ks).flatMap T.cells) ∧ v15.ownBlock ≠ some tb ∧ wr.heap[tb]? = some (.cells #[.int .i64 a, .int .i64 z, .int .i64 y] 3 (0, 0)) ∧ wfs ks = true ∧ deepest ks ≤ d ∧ tys types ks = .ok ([a, z, y].take i) ∧ Tp wr b g ∧ w.grownBy wr (some b)
set_option maxRecDepth 100000 in
set_option maxHeartbeats 8000000 in
theorem ttyped (b g m c : Nat) (R : Option Addr) (types : List Int) (hm : 1 ≤ m) (hm2 : m ≤ 1000) (hT : ∀ z ∈ types, z = 1 ∨ z = 2) : ∀ (d : Nat) (want : Int) (w : World), d ≤ 3 → (want = 1 ∨ want = 2) → Tp w b g → RowK w b R m types → Calls Tryd.prog 37 #[.pointer (some ⟨b, 0, none⟩), .int .i64 ((d + 1 : Nat) : Int), .slice R m c, .int .i64 want] w (TxPost w b g (d + 1) types want) := by
  intro d
  induction d using Nat.strongRecOn with
  | ind d ih =>
    intro want w hd4 hwant h hK
    have hlt := h.lt
    have hltg := h.ltg
    have hlen := hK.now.len
    have HLN := Lib.hid hlen
    clear hlen
    have hcast : (((d + 1 : Nat) : Nat) : Int) = (d : Int) + 1 := by omega
    rw [hcast]
    go_enter Tryd.func37, Tryd.ntmps37
    go_upto_region 1 with fail
    go_cut [24] (fun v24 wx => TxCut1 w b g d v24 wx)
    case first =>
      by_cases hd0 : d = 0
      · have t1 : (d : Int) + 1 ≤ 1 := by omega
        have t2 : (d : Int) ≤ 0 := by omega
        go_wp2_with fail
        go_meet
        exact ⟨_, rfl, fun _ => rfl, h, grown_refl _ _⟩
      have t1 : ¬ (d : Int) + 1 ≤ 1 := by omega
      have t2 : ¬ (d : Int) ≤ 0 := by omega
      go_wp2_with fail
      refine (next_c b g 4 _ (by omega) h).mono ?_
      rintro e w1 ⟨r, rfl, hr, ht1, hg1, hz1⟩
      clear hz1
      go_wp2_with fail
      go_meet
      exact ⟨_, rfl, fun h => absurd h hd0, ht1, hg1⟩
    case rest =>
      clear hcast
      obtain ⟨q, rfl, hq0, htc, hgc⟩ := hcut
      obtain ⟨W0, rfl⟩ : ∃ W0, W0 = wc := ⟨_, rfl⟩
      have hzc := hgc.size
      cases q
      · have hd0 : d ≠ 0 := fun h => by have := hq0 h; cases this
        have hdw : IntKind.i64.wrap ((d : Int) + 1 - 1) = (d : Int) := by rw [show (d : Int) + 1 - 1 = d by omega]; exact IntWalk.i64_in _ (by omega)
        clear hq0
        go_wp2_with fail
        refine (next_c b g 4 _ (by omega) (htc.alloc _)).mono ?_
        rintro e w1 ⟨r, rfl, hr, ht1, hg1, hz1⟩
        have hr4 : r < 4 := by have : (r : Int) < max 4 1 := hr; omega
        have hz1' := hg1.size
        simp at hz1'
        have q1 := (hg1.block W0.heap.size (by simp) (by have := htc.lt; simp; omega)).trans (heap_alloc_new _ _)
        have g1 : w.grownBy w1 (some b) := grown_trans (only_alloc hgc _) hg1
        obtain ⟨c1, _⟩ := blk_rules q1
        obtain ⟨op, hop, hopw⟩ : ∃ op : Int, w1.cell? ⟨W0.heap.size, r, none⟩ = some (.int .i64 op) ∧ (op = 17 ∨ op = 18 ∨ op = 8 ∨ op = 10) := by
          obtain rfl | rfl | rfl | rfl : r = 0 ∨ r = 1 ∨ r = 2 ∨ r = 3 := by omega
          · exact ⟨17, c1 0, by omega⟩
          · exact ⟨18, c1 1, by omega⟩
          · exact ⟨8, c1 2, by omega⟩
          · exact ⟨10, c1 3, by omega⟩
        have hr0 : (0 : Int) ≤ (r : Int) := by omega
        have hr5 : (r : Int) < 4 := by omega
        clear q1 c1 hz1 hr hg1 hgc htc
        go_upto_if 78 with fail
        go_cut [14] (fun v14 wx => TxCut2 w b g want v14 wx)
        case first =>
          rcases hwant with rfl | rfl
          · go_wp2_with fail
            refine (next_c b g 14 _ (by omega) (ht1.alloc _)).mono ?_
            rintro e w2 ⟨s, rfl, hs, ht2, hg2, hz2⟩
            have hs14 : s < 14 := by have : (s : Int) < max 14 1 := hs; omega
            have q1 := (hg2.block w1.heap.size (by simp) (by have := ht1.lt; simp; omega)).trans (heap_alloc_new _ _)
            have g2 : w.grownBy w2 (some b) := grown_trans (only_alloc g1 _) hg2
            obtain ⟨c1, _⟩ := blk_rules q1
            obtain ⟨op2, hop2, hopw2⟩ : ∃ op : Int, w2.cell? ⟨w1.heap.size, s, none⟩ = some (.int .i64 op) ∧ opFor 1 op := by
              obtain rfl | rfl | rfl | rfl | rfl | rfl | rfl | rfl | rfl | rfl | rfl | rfl | rfl | rfl : s = 0 ∨ s = 1 ∨ s = 2 ∨ s = 3 ∨ s = 4 ∨ s = 5 ∨ s = 6 ∨ s = 7 ∨ s = 8 ∨ s = 9 ∨ s = 10 ∨ s = 11 ∨ s = 12 ∨ s = 13 := by omega
              all_goals (refine ⟨_, c1 _, .inl ⟨rfl, ?_⟩⟩; omega)
            have hs0 : (0 : Int) ≤ (s : Int) := by omega
            have hs5 : (s : Int) < 14 := by omega
            clear q1 c1 hz2 hs hg2
            go_wp2_with fail
            go_meet
            exact ⟨op2, rfl, hopw2, ht2, g2⟩
          · go_wp2_with fail
            go_meet
            exact ⟨op, rfl, .inr ⟨rfl, hopw⟩, ht1, g1⟩
        case rest =>
          clear ht1 g1 hop hopw hr0 hr5 hr4 hz1'
          obtain ⟨op, rfl, hopf, ht1, g1⟩ := hcut
          obtain ⟨W1, rfl⟩ : ∃ W1, W1 = wc := ⟨_, rfl⟩
          have HOP := Lib.hid hopf
          go_upto_block 2 with fail
          go_cut [11, 12] (fun v11 v12 wx => TxCut3 w b g want op v11 v12 wx)
          case first =>
            rcases hopf with ⟨rfl, hh⟩ | ⟨rfl, hh⟩
            · rcases hh with rfl | rfl | rfl | rfl | rfl | rfl | rfl | rfl | rfl | rfl | rfl | rfl | rfl | rfl
              all_goals (go_wp2_with (go_at_call 31; refine (next_c b g 2 _ (by omega) ht1).mono ?_; rintro e w2 ⟨s, rfl, hs, ht2, hg2, hz2⟩; have hs2 : s < 2 := (by have : (s : Int) < max 2 1 := hs; omega); have hsw : IntKind.i64.wrap (1 + (s : Int)) = 1 + (s : Int) := IntWalk.i64_in _ (by omega); clear hz2 hs))
              all_goals go_meet
              all_goals (first | (exact ⟨1, 1, rfl, rfl, .inl rfl, .inl rfl, rfl, ht1, g1⟩) | (exact ⟨2, 1, rfl, rfl, .inr rfl, .inl rfl, rfl, ht1, g1⟩) | (exact ⟨1 + (s : Int), 1 + (s : Int), rfl, rfl, by omega, by omega, by simp [opT], ht2, grown_trans g1 hg2⟩))
            · rcases hh with rfl | rfl | rfl | rfl
              all_goals go_wp2_with fail
              all_goals go_meet
              all_goals (first | (exact ⟨2, 2, rfl, rfl, .inr rfl, .inr rfl, rfl, ht1, g1⟩) | (exact ⟨1, 2, rfl, rfl, .inl rfl, .inr rfl, rfl, ht1, g1⟩) | (exact ⟨2, 1, rfl, rfl, .inr rfl, .inl rfl, rfl, ht1, g1⟩))
          case rest =>
            clear ht1 g1 hopf
            obtain ⟨a, z, rfl, rfl, ha12, hz12, hopT, ht1, g1⟩ := hcut
            obtain ⟨W2, rfl⟩ : ∃ W2, W2 = wc := ⟨_, rfl⟩
            have hz2 := g1.size
            obtain ⟨h3, h18⟩ := opFor_range HOP.out
            have HOK := Lib.hid (ok_op h3 h18)
            have HRT := Lib.hid (show ∀ ks, tys types ks = .ok ([a, z, want].take (ar op)) → (X.node ⟨op, V.null, 0⟩ ks).ty types = .ok want from fun ks hl => ty_node h3 h18 hl hopT)
            have HA := Lib.hid (show arity op = (ar op : Int) by
              have hak : 0 ≤ arity op := by
                have := HOK.out
                unfold T.ok at this
                rw [Bool.and_eq_true, decide_eq_true_eq] at this
                exact this.1
              unfold ar; omega)
            have har := ar_le op
            have IH : ∀ (want' : Int) (wr : World), (want' = 1 ∨ want' = 2) → Tp wr b g → RowK wr b R m types → Calls Tryd.prog 37 #[.pointer (some ⟨b, 0, none⟩), .int .i64 (d : Int), .slice R m c, .int .i64 want'] wr (TxPost wr b g d types want') := by
              intro want' wr h1 h2 h3
              have := ih (d - 1) (by omega) want' wr (by omega) h1 h2 h3
              rwa [show d - 1 + 1 = d by omega] at this
            have HIH := Lib.hid IH
            clear IH ih hopT hdw
            have hdw : IntKind.i64.wrap ((d : Int) + 1 - 1) = (d : Int) := by rw [show (d : Int) + 1 - 1 = d by omega]; exact IntWalk.i64_in _ (by omega)
            have ow := own_base ((own_new W2 (T.mk op V.null 0).cells.toArray 36 5 1 (by decide) rfl).alloc (.cells #[.int .i64 a, .int .i64 z, .int .i64 want] 3)) (show w.heap.size ≤ W2.heap.size by omega)
            have htb := heap_two W2 (.cells (T.mk op V.null 0).cells.toArray 36) (.cells #[.int .i64 a, .int .i64 z, .int .i64 want] 3)
            go_wp2_with fail
            go_loopw [15, 17] (fun v15 v17 wr => TxRel w b g d (W2.heap.size + 1) types op a z want v15 v17 wr) (fun _ v17 _ => ar op - (intOf v17).toNat)
            case atStart => exact ⟨0, [], rfl, rfl, by omega, by rw [show flats [] = [] by simp [flats]]; exact ow, by simp [Value.ownBlock], htb, by simp [wfs], by simp [deepest], by simp [tys], by (repeat (first | (with_reducible assumption) | (with_reducible refine Tp.drew ?_) | (with_reducible refine Tp.drewN ?_ _) | (with_reducible refine Tp.alloc ?_ _) | ((with_reducible refine Tp.setFar ?_ ?_ ?_ _); rotate_left; (focus (first | (simp; done) | (simp; omega) | omega)); (focus (first | (simp; done) | (simp; omega) | omega))) | ((with_reducible apply Tp.step); (focus (with_reducible assumption))))), by (repeat (first | (with_reducible exact grown_refl _ _) | (with_reducible assumption) | (with_reducible refine only_drew ?_) | (with_reducible refine only_drewN ?_ _) | ((with_reducible refine only_setCell ?_ ?_ _); rotate_left; (focus (first | (simp; done) | (simp; omega) | omega | (right; simp; done) | (right; simp; omega) | (right; omega)))) | (with_reducible refine only_alloc ?_ _) | ((with_reducible apply only_step); (focus (with_reducible assumption))) | ((with_reducible apply only_trans); (focus (with_reducible assumption)))))⟩
            case round =>
              clear ow htb ht1 g1
              obtain ⟨i, ks, rfl, hki, hia, hown, hnb, htb, hws, hdk, hty, htr, hgr⟩ := hrel
              have HKI := Lib.hid hki
              have HW := Lib.hid hws
              have HTY := Lib.hid hty
              have HNB := Lib.hid hnb
              clear hki hws hty hnb
              have hzr := hgr.size
              have htbl : W2.heap.size + 1 < wr.heap.size := by
                rcases Nat.lt_or_ge (W2.heap.size + 1) wr.heap.size with hl | hl
                · exact hl
                · rw [Array.getElem?_eq_none hl] at htb; cases htb
              have hsz : (flats ks).length ≤ 1000 := by
                have h1 := sizes_le ks HW.out
                have h2 := HKI.out
                have p : 3 ^ deepest ks ≤ 3 ^ 4 := Nat.pow_le_pow_right (by omega) (by omega)
                have h4 := Nat.mul_le_mul (show ks.length ≤ 3 by omega) p
                omega
              by_cases hlt2 : i < ar op
              · have h1 : (i : Int) < (ar op : Int) := by omega
                have h0 : (0 : Int) ≤ (i : Int) := by omega
                have hi3 : (i : Int) < 3 := by omega
                have hiw : IntKind.i64.wrap ((i : Int) + 1) = (i : Int) + 1 := IntWalk.i64_in _ (by omega)
                obtain ⟨cc, _⟩ := blk_rules htb
                obtain ⟨wi, hcell, hw12, htk⟩ : ∃ wi : Int, wr.cell? ⟨W2.heap.size + 1, i, none⟩ = some (.int .i64 wi) ∧ (wi = 1 ∨ wi = 2) ∧ [a, z, want].take (i + 1) = [a, z, want].take i ++ [wi] := by
                  obtain rfl | rfl | rfl : i = 0 ∨ i = 1 ∨ i = 2 := by omega
                  · exact ⟨a, cc 0, ha12, rfl⟩
                  · exact ⟨z, cc 1, hz12, rfl⟩
                  · exact ⟨want, cc 2, hwant, rfl⟩
                have HTK := Lib.hid htk
                clear cc htk
                have ihe := HIH.out wi wr hw12 htr (hK.to hgr)
                go_wp2_with (first
                  | (go_at_call 17; refine (rarity _ _).mono ?_; rintro e w3 ⟨rfl, rfl⟩; rw [HA.out])
                  | (go_at_call 37; refine ihe.mono ?_; rintro e w4 ⟨A4, c4, x4, rfl, o4, f4, d4, ty4, ht4, hg4⟩; have hz4 := hg4.size; have ow4 := own_tape hown hg4 hlt; have F4 := Lib.hid f4; have TY4 := Lib.hid ty4; have S4 := X.size4 f4 (by omega); clear f4 ty4)
                  | (at_builtin; refine wpList_appAny (v := u15) rfl _ _ stT rfl rfl ow4 rfl (news := x4.flat.flatMap T.cells) (tcells_len _) (Rd.of_own o4) (own_none o4) (tcells_one _) (by omega) (by omega) ?_; intro v5 w5 o5 g5 hat5; have hz5 := g5.size))
                have ht5 := Tp.own ht4 ow4 g5 hlt hltg
                have hg5 := grown_own (grown_trans hgr hg4) ow4 g5
                have htb5 := (g5.block (W2.heap.size + 1) (by omega) (Ne.symm HNB.out)).trans ((hg4.block (W2.heap.size + 1) htbl (by have := htr.lt; simp; omega)).trans htb)
                go_roundw
                case rel =>
                  refine ⟨i + 1, ks ++ [x4], by go_num, by simp [HKI.out], by omega, ?_, ?_, htb5, ?_, ?_, ?_, ht5, hg5⟩
                  · rw [flats_snoc, List.length_append, ← Nat.add_assoc, ← List.cons_append, List.flatMap_append]
                    exact o5
                  · rcases hat5 with h | h
                    · rw [h]; exact HNB.out
                    · rw [h]; intro h9; injection h9 with h9; omega
                  · rw [wfs_snoc, HW.out, F4.out]; rfl
                  · rw [deepest_snoc]; omega
                  · rw [tys_snoc, HTY.out, TY4.out, HTK.out]
                case measure => simp [intOf]; omega
              · have h1 : ¬ (i : Int) < (ar op : Int) := by omega
                obtain rfl : i = ar op := by omega
                obtain ⟨A8, c8, rfl, _, _⟩ := own_slice hown
                go_wp2_with (go_at_call 17; refine (rarity _ _).mono ?_; rintro e w3 ⟨rfl, rfl⟩; rw [HA.out])
                go_ret
                refine ⟨A8, c8, .node ⟨op, V.null, 0⟩ ks, ?_, ?_, ?_, ?_, HRT.out ks HTY.out, htr, hgr⟩
                · rw [X.flat_node, List.length_cons, Nat.add_comm]; rfl
                · rw [X.flat_node, List.length_cons, Nat.add_comm]; exact hown
                · have := HKI.out
                  simp [X.wf, HOK.out, HW.out, this]
                · simp only [X.depth]; omega
      · go_wp2_with fail
        refine (next_c b g m _ (by omega) htc).mono ?_
        rintro e w1 ⟨at_, rfl, hr, ht1, hg1, hz1⟩
        have hat : at_ < m := by have : (at_ : Int) < max (m : Int) 1 := hr; omega
        have g1 := grown_trans hgc hg1
        clear hz1 hr hg1 htc hgc
        go_wp2_with fail
        go_loopw [10] (fun v10 wr => ∃ i : Nat, v10 = .int .i64 (i : Int) ∧ i ≤ m ∧ Tp wr b g ∧ w.grownBy wr (some b)) (fun v10 _ => m - (intOf v10).toNat)
        case atStart => exact ⟨0, rfl, by omega, ht1, g1⟩
        case round =>
          obtain ⟨i, rfl, hi, htr, hgr⟩ := hrel
          have hzr := hgr.size
          by_cases hlt2 : i < m
          · have h1 : (i : Int) < (m : Int) := by omega
            have hiw : IntKind.i64.wrap ((i : Int) + 1) = (i : Int) + 1 := IntWalk.i64_in _ (by omega)
            have hm1 : ((at_ : Int) + (i : Int)).tmod (m : Int) = (((at_ + i) % m : Nat) : Int) := by rw [Int.tmod_eq_emod_of_nonneg (by omega), Int.natCast_emod, Int.natCast_add]
            have hml : (at_ + i) % m < m := Nat.mod_lt _ (by omega)
            obtain ⟨rb, roff, z, rfl, hrb, hz, hcell⟩ := RowI.at1 ((hK.to hgr).now) hml
            generalize (at_ + i) % m = p at hm1 hml hz hcell
            have hp1 : (p : Int) < (m : Int) := by omega
            have hp0 : (0 : Int) ≤ (p : Int) := by omega
            have hsw : IntKind.i64.wrap ((at_ : Int) + (i : Int)) = (at_ : Int) + (i : Int) := IntWalk.i64_in _ (by omega)
            have hpw : IntKind.i64.wrap (p : Int) = (p : Int) := IntWalk.i64_in _ (by omega)
            have z0 : ((m : Int) == 0) = false := by simp; omega
            have HZ := Lib.hid hz
            clear hz
            by_cases hzw : z = want
            · have tz : (z == want) = true := by simpa using hzw
              have HW := Lib.hid hzw
              clear hzw
              go_wp2_with fail
              refine (next_c b g 4 _ (by omega) htr).mono ?_
              rintro e w2 ⟨r2, rfl, hr2, ht2, hg2, hz2⟩
              have g2 := grown_trans hgr hg2
              have hz2' := hg2.size
              clear hz2 hr2
              by_cases hr0 : 0 < r2
              · have t0 : (0 : Int) < (r2 : Int) := by omega
                go_wp2_with fail
                go_ret
                exact tx_leaf (t := ⟨2, V.null, (p : Int)⟩) (by omega) (own_base (own_new w2 _ 36 5 1 (by decide) rfl) (by omega)) (ok_col _ (by omega)) (.inr rfl) (by rw [← HW.out]; exact ty_col types p z HZ.out) (by (repeat (first | (with_reducible assumption) | (with_reducible refine Tp.drew ?_) | (with_reducible refine Tp.drewN ?_ _) | (with_reducible refine Tp.alloc ?_ _) | ((with_reducible refine Tp.setFar ?_ ?_ ?_ _); rotate_left; (focus (first | (simp; done) | (simp; omega) | omega)); (focus (first | (simp; done) | (simp; omega) | omega))) | ((with_reducible apply Tp.step); (focus (with_reducible assumption)))))) (by (repeat (first | (with_reducible exact grown_refl _ _) | (with_reducible assumption) | (with_reducible refine only_drew ?_) | (with_reducible refine only_drewN ?_ _) | ((with_reducible refine only_setCell ?_ ?_ _); rotate_left; (focus (first | (simp; done) | (simp; omega) | omega | (right; simp; done) | (right; simp; omega) | (right; omega)))) | (with_reducible refine only_alloc ?_ _) | ((with_reducible apply only_step); (focus (with_reducible assumption))) | ((with_reducible apply only_trans); (focus (with_reducible assumption))))))
              · have t0 : ¬ (0 : Int) < (r2 : Int) := by omega
                go_wp2_with fail
                go_roundw
                case rel => exact ⟨i + 1, by go_num, by omega, ht2, g2⟩
                case measure => simp [intOf]; omega
            · have tz : (z == want) = false := by simpa using hzw
              clear hzw
              go_wp2_with fail
              go_roundw
              case rel => exact ⟨i + 1, by go_num, by omega, htr, hgr⟩
              case measure => simp [intOf]; omega
          · have h1 : ¬ (i : Int) < (m : Int) := by omega
            rcases hwant with rfl | rfl
            · go_wp2_with (go_at_call 58; refine (tintK b g _ htr).mono ?_; rintro e w3 ⟨v, rfl, hv, hk, ht3, hg3⟩; have HV := Lib.hid hv; have HK := Lib.hid hk; clear hv hk; have hz3 := hg3.size)
              go_ret
              exact tx_leaf (t := ⟨1, v, 0⟩) (by omega) (own_base (own_new w3 _ 36 5 1 (by decide) rfl) (by omega)) (ok_cst _ HV.out (by rw [HK.out]; decide)) (.inl rfl) (by rw [ty_cst, HK.out]) (by (repeat (first | (with_reducible assumption) | (with_reducible refine Tp.drew ?_) | (with_reducible refine Tp.drewN ?_ _) | (with_reducible refine Tp.alloc ?_ _) | ((with_reducible refine Tp.setFar ?_ ?_ ?_ _); rotate_left; (focus (first | (simp; done) | (simp; omega) | omega)); (focus (first | (simp; done) | (simp; omega) | omega))) | ((with_reducible apply Tp.step); (focus (with_reducible assumption)))))) (by (repeat (first | (with_reducible exact grown_refl _ _) | (with_reducible assumption) | (with_reducible refine only_drew ?_) | (with_reducible refine only_drewN ?_ _) | ((with_reducible refine only_setCell ?_ ?_ _); rotate_left; (focus (first | (simp; done) | (simp; omega) | omega | (right; simp; done) | (right; simp; omega) | (right; omega)))) | (with_reducible refine only_alloc ?_ _) | ((with_reducible apply only_step); (focus (with_reducible assumption))) | ((with_reducible apply only_trans); (focus (with_reducible assumption))))))
            · go_wp2_with (go_at_call 59; refine (ttextK b g _ htr).mono ?_; rintro e w3 ⟨v, rfl, hv, hk, ht3, hg3⟩; have HV := Lib.hid hv; have HK := Lib.hid hk; clear hv hk; have hz3 := hg3.size)
              go_ret
              exact tx_leaf (t := ⟨1, v, 0⟩) (by omega) (own_base (own_new w3 _ 36 5 1 (by decide) rfl) (by omega)) (ok_cst _ HV.out (by rw [HK.out]; decide)) (.inl rfl) (by rw [ty_cst, HK.out]) (by (repeat (first | (with_reducible assumption) | (with_reducible refine Tp.drew ?_) | (with_reducible refine Tp.drewN ?_ _) | (with_reducible refine Tp.alloc ?_ _) | ((with_reducible refine Tp.setFar ?_ ?_ ?_ _); rotate_left; (focus (first | (simp; done) | (simp; omega) | omega)); (focus (first | (simp; done) | (simp; omega) | omega))) | ((with_reducible apply Tp.step); (focus (with_reducible assumption)))))) (by (repeat (first | (with_reducible exact grown_refl _ _) | (with_reducible assumption) | (with_reducible refine only_drew ?_) | (with_reducible refine only_drewN ?_ _) | ((with_reducible refine only_setCell ?_ ?_ _); rotate_left; (focus (first | (simp; done) | (simp; omega) | omega | (right; simp; done) | (right; simp; omega) | (right; omega)))) | (with_reducible refine only_alloc ?_ _) | ((with_reducible apply only_step); (focus (with_reducible assumption))) | ((with_reducible apply only_trans); (focus (with_reducible assumption))))))
end Go.Proofs.YtojcabnjodfdmaaDoor
