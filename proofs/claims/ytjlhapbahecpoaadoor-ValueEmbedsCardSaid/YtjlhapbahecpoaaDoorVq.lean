/- The walk of the law ValueEmbeds, where the table of powers of ten is as it is laid. -/
import Derived.Test.YtjlhapbahecpoaaDoorVp
import Derived.Test.YtjlhapbahecpoaaDoorEmbLaw
namespace Go.Proofs.YtjlhapbahecpoaaDoor
open Go.RowKit

theorem emb_lt (a b : List V) : Op.bytesLess (encRow a) (encRow b) = decide (cmpRows a b < 0) := by
  rw [← embeds, bytesLess_compare]
  cases h : Op.bytesLess (encRow a) (encRow b)
  · simp only [Bool.false_eq_true, if_false]
    split <;> simp
  · simp
theorem emb_eq (a b : List V) : (encRow a == encRow b) = (cmpRows a b == 0) := by
  rw [← embeds, Bool.eq_iff_iff, beq_iff_eq, beq_iff_eq]
  constructor
  · intro h; rw [h]; exact bytes_ord.refl _
  · exact bytes_ord.zero _ _ trivial trivial
theorem vcells_one (vs : List V) : ∀ u ∈ vs.flatMap V.cells, u.oneCell' = true := by
  intro u hu
  obtain ⟨v, _, hv⟩ := List.mem_flatMap.1 hu
  simp [V.cells] at hv
  rcases hv with rfl | rfl | rfl <;> rfl

set_option maxRecDepth 100000 in
set_option maxHeartbeats 2000000 in
theorem valueEmbeds_w (A : Option Addr) (n c : Nat) (zs : List Int) (w : World) (h : IntsR w A n c zs) (hG : G w) :
    Calls Tryd.prog 8 #[.slice A n c] w fun e w' => e = .returned (.bool true) ∧ Below w.heap.size w w' := by
  go_enter Tryd.func8, Tryd.ntmps8
  go_wp2_with fail
  refine (new_c A n c zs _ h).mono ?_
  rintro e w1 ⟨b, g, rfl, tp1, hb, hg, bel1⟩
  go_wp2_with fail
  have hw1 := bel1.size
  go_loopw [4] (fun i wr => ∃ k : Nat, k ≤ 4 ∧ i = .int .i64 k ∧ Tp wr b g ∧ Below w.heap.size w wr) (fun i _ => 4 - (intOf i).toNat)
  case atStart => exact ⟨0, by omega, rfl, tp1, bel1⟩
  case round =>
    obtain ⟨k, hk, rfl, tpr, belr⟩ := hrel
    have hzr := belr.size
    clear tp1 bel1 h
    by_cases hlt : k < 4
    · go_wp2_with fail
      refine (trow b g 3 _ (by omega) tpr).mono ?_
      rintro e w2 ⟨o1, xs, rfl, own1, ok1, l1, tp2, g2⟩
      go_wp2_with fail
      refine (trow b g 3 _ (by omega) tp2).mono ?_
      rintro e w3 ⟨o2, ys, rfl, own2, ok2, l2, tp3, g3⟩
      have lt1 := tpr.lt
      have lt2 := g2.size
      have lt3 := g3.size
      have own1' := own1.kept g3 (.inr (fun e => by have := (own1.lt _ e).1; omega))
      clear own1
      go_wp2_with fail
      refine (next_c b g 3 _ (by omega) tp3).mono ?_
      rintro e w4 ⟨r, rfl, hr, tp4, g4, hz4⟩
      have own1 := own1'.kept g4 (.inr (fun e => by have := (own1'.lt _ e).1; omega))
      have own2' := own2.kept g4 (.inr (fun e => by have := (own2.lt _ e).1; omega))
      clear own1' own2
      have bel4 : Below w.heap.size w w4 := by
        refine ⟨g4.os.trans (g3.os.trans (g2.os.trans belr.os)), g4.tape.trans (g3.tape.trans (g2.tape.trans belr.tape)), g4.output.trans (g3.output.trans (g2.output.trans belr.output)), by omega, fun k hk => ?_⟩
        have hkb : some k ≠ some b := by intro e; injection e with e; omega
        exact (g4.block k (by omega) hkb).trans ((g3.block k (by omega) hkb).trans ((g2.block k (by omega) hkb).trans (belr.block k hk)))
      have hz4a : w3.heap.size ≤ w4.heap.size := by omega
      clear g2 g3 g4 tpr tp2 tp3 hz4
      by_cases hr0 : r = 0
      · have t0 : ((r : Int) == 0) = true := by simpa using hr0
        clear hr0 own2' ok2
        have lt4 := tp4.lt
        have lt4g := tp4.ltg
        obtain ⟨A0, c0, hv0, _, _⟩ := own_slice own1
        subst hv0
        have hrd := Rd.of_own own1
        have hno : A0 = none → c0 = 0 := by
          rcases own1.2 with ⟨e1, _⟩ | ⟨g0, cap, cur, e1, _⟩
          · injection e1 with _ _ e3
            exact fun _ => e3
          · injection e1 with e2 _ _
            rw [e2]; exact fun e => by cases e
        have HN := Lib.hid hno
        have hxl : (xs.flatMap V.cells).length = xs.length * 3 := flatMap_len 3 (fun _ => rfl) xs
        have HX := Lib.hid hxl
        clear hno hxl
        go_wp2_with (first
          | (at_builtin; refine wpList_appAny (v := .slice (some ⟨w4.heap.size, 0, none⟩) 0 0) rfl _ _ stV rfl rfl (own_new w4 #[] 23 3 0 (by decide) rfl) rfl (news := xs.flatMap V.cells) HX.out (hrd.keep fun p hp => World.cell?_alloc_lt w4 _ p hp) HN.out (vcells_one _) (by omega) (by simp) ?_; intro v5 w5 own5 hg5 hat5; have hz5 := hg5.size; (simp at hz5); have tp5 := (tp4.alloc _).grown hg5 (by simp [Value.ownBlock]; omega) (by simp [Value.ownBlock]; omega))
          | (go_at_call 32; refine (tvalue b g _ tp5).mono ?_; rintro e w6 ⟨v, rfl, hv, tp6, hg6⟩; have hz6 := hg6.size; have own6 := own5.kept hg6 (.inr (fun e => by have := (own5.lt _ e).1; omega)))
          | (at_builtin; refine wpList_app (v := v5) rfl _ _ stV rfl rfl (own6) rfl (by simp) rfl (by simp [Value.oneCell']) (by omega) (by omega) ?_; intro v7 w7 own7 hg7 hat7))
        have n5 : ∀ q : Nat, v5.ownBlock = some q → w4.heap.size ≤ q := fun q e => (own5.lt q e).1
        have n1 : ∀ q : Nat, (Value.slice A0 xs.length c0).ownBlock = some q → wr.heap.size ≤ q ∧ q < w4.heap.size := fun q e => own1.lt q e
        have own1a := (own1.alloc (.cells #[] 23)).kept hg5 (.inr (fun e => by have h1 : w4.heap.size < w4.heap.size := (n1 w4.heap.size (e.trans rfl)).2; omega))
        have own1b := own1a.kept hg6 (.inr (fun e => by have h1 := (n1 _ e).1; omega))
        have own1c := own1b.kept hg7 (by
          cases hq : (Value.slice A0 xs.length c0).ownBlock with
          | none => exact .inl rfl
          | some q =>
            refine .inr (fun e => ?_)
            have h1 := (n1 q hq).2
            have h2 := n5 q e.symm
            omega)
        have own2' : w7.ownsRow w4.heap.size 23 3 v7 (xs ++ [v]).length ((xs ++ [v]).flatMap V.cells) := by
          have e1 : (xs ++ [v]).length = 0 + xs.length + 1 := by simp
          have e2 : (xs ++ [v]).flatMap V.cells = [] ++ xs.flatMap V.cells ++ [Value.int .i64 v.k, Value.int .i64 v.n, Value.string v.s] := by simp [V.cells]
          rw [e1, e2]; exact own7
        obtain ⟨us, hus⟩ : ∃ us, us = xs ++ [v] := ⟨_, rfl⟩
        have lus : us.length ≤ 4 := by rw [hus]; simp; omega
        rw [← hus] at own2'
        clear hus
        have tp7 : Tp w7 b g := tp6.grown hg7 (fun e => by have := n5 _ e; omega) (fun e => by have := n5 _ e; omega)
        have hz7 := hg7.size
        have bel7 : Below w.heap.size w w7 := by
          refine ⟨hg7.os.trans (hg6.os.trans (hg5.os.trans bel4.os)), hg7.tape.trans (hg6.tape.trans (hg5.tape.trans bel4.tape)), hg7.output.trans (hg6.output.trans (hg5.output.trans bel4.output)), by omega, fun q hq => ?_⟩
          have hkb : some q ≠ some b := by intro e; injection e with e; omega
          refine (hg7.block q (by omega) (fun e => by have := n5 q e.symm; omega)).trans ((hg6.block q (by omega) hkb).trans ((hg5.block q (by simp; omega) (by simp [Value.ownBlock]; omega)).trans ((Below.heap_alloc w4 _ q (by omega)).trans (bel4.block q hq))))
        clear own1a own1b own5 own6 own7 hg5 hg6 hg7 hat5 hat7 tp4 tp5 tp6 n5 n1 hrd HN HX bel4
        have own1' := own1c
        clear own1
        have own1 := own1'
        clear own1' own1c
        obtain ⟨A1, rfl⟩ : ∃ A1, A1 = A0 := ⟨_, rfl⟩
        obtain ⟨A2, c2, hv2, _, _⟩ := own_slice own2'
        subst hv2
        have R1 := Lib.hid (own_row own1).2
        have R2 := Lib.hid (own_row own2').2
        clear own1 own2'
        have he1 := emb_lt xs us
        have he2 := emb_eq xs us
        have ne1 : (decide (cmpRows xs us < 0) != decide (cmpRows xs us < 0)) = false := by simp
        have ne2 : ((cmpRows xs us == 0) != (cmpRows xs us == 0)) = false := by simp
        have hml : (5 : Nat) ≤ maxLen := by decide
        refine (vencodeRow A1 _ _ xs _ (by omega) (R1.out _ (by (repeat (first | (with_reducible exact Below.refl _ _) | (with_reducible assumption) | (with_reducible refine Below.drew ?_) | (with_reducible refine below_drewN ?_ _) | ((with_reducible refine Below.setCell ?_ ?_ _); rotate_left; (focus (first | (simp; done) | (simp; omega) | omega))) | ((with_reducible refine Below.alloc ?_ ?_ _); rotate_left; (focus (first | (simp; done) | (simp; omega) | omega))) | ((with_reducible apply below_step1); (focus (with_reducible assumption)))))))).mono ?_
        rintro e w6 ⟨rfl, hb6⟩
        go_wp2_with fail
        refine (vencodeRow A2 _ _ us _ (by omega) (R2.out _ (by (repeat (first | (with_reducible exact Below.refl _ _) | (with_reducible assumption) | (with_reducible refine Below.drew ?_) | (with_reducible refine below_drewN ?_ _) | ((with_reducible refine Below.setCell ?_ ?_ _); rotate_left; (focus (first | (simp; done) | (simp; omega) | omega))) | ((with_reducible refine Below.alloc ?_ ?_ _); rotate_left; (focus (first | (simp; done) | (simp; omega) | omega))) | ((with_reducible apply below_step1); (focus (with_reducible assumption)))))))).mono ?_
        rintro e w7 ⟨rfl, hb7⟩
        go_wp2_with fail
        refine (vcompareRows A1 A2 _ _ _ _ xs us _ (by omega) (by omega) (R1.out _ (by (repeat (first | (with_reducible exact Below.refl _ _) | (with_reducible assumption) | (with_reducible refine Below.drew ?_) | (with_reducible refine below_drewN ?_ _) | ((with_reducible refine Below.setCell ?_ ?_ _); rotate_left; (focus (first | (simp; done) | (simp; omega) | omega))) | ((with_reducible refine Below.alloc ?_ ?_ _); rotate_left; (focus (first | (simp; done) | (simp; omega) | omega))) | ((with_reducible apply below_step1); (focus (with_reducible assumption))))))) (R2.out _ (by (repeat (first | (with_reducible exact Below.refl _ _) | (with_reducible assumption) | (with_reducible refine Below.drew ?_) | (with_reducible refine below_drewN ?_ _) | ((with_reducible refine Below.setCell ?_ ?_ _); rotate_left; (focus (first | (simp; done) | (simp; omega) | omega))) | ((with_reducible refine Below.alloc ?_ ?_ _); rotate_left; (focus (first | (simp; done) | (simp; omega) | omega))) | ((with_reducible apply below_step1); (focus (with_reducible assumption)))))))).mono ?_
        rintro e w8 ⟨rfl, hb8⟩
        go_wp2_with fail
        go_roundw
        case rel => exact ⟨k + 1, by omega, by go_num, by (repeat (first | (with_reducible assumption) | (with_reducible refine Tp.drew ?_) | (with_reducible refine Tp.drewN ?_ _) | (with_reducible refine Tp.alloc ?_ _) | ((with_reducible refine Tp.setFar ?_ ?_ ?_ _); rotate_left; (focus (first | (simp; done) | (simp; omega) | omega)); (focus (first | (simp; done) | (simp; omega) | omega))) | ((with_reducible apply Tp.step); (focus (with_reducible assumption))))), by (repeat (first | (with_reducible exact Below.refl _ _) | (with_reducible assumption) | (with_reducible refine Below.drew ?_) | (with_reducible refine below_drewN ?_ _) | ((with_reducible refine Below.setCell ?_ ?_ _); rotate_left; (focus (first | (simp; done) | (simp; omega) | omega))) | ((with_reducible refine Below.alloc ?_ ?_ _); rotate_left; (focus (first | (simp; done) | (simp; omega) | omega))) | ((with_reducible apply below_step1); (focus (with_reducible assumption)))))⟩
        case measure => simp [intOf]; omega
      · have t0 : ((r : Int) == 0) = false := by simpa using hr0
        clear hr0
        obtain ⟨A1, c1, hv1, _, _⟩ := own_slice own1
        obtain ⟨A2, c2, hv2, _, _⟩ := own_slice own2'
        subst hv1 hv2
        have R1 := Lib.hid (own_row own1).2
        have R2 := Lib.hid (own_row own2').2
        clear own1 own2'
        have he1 := emb_lt xs (ys)
        have he2 := emb_eq xs (ys)
        have ne1 : (decide (cmpRows xs (ys) < 0) != decide (cmpRows xs (ys) < 0)) = false := by simp
        have ne2 : ((cmpRows xs (ys) == 0) != (cmpRows xs (ys) == 0)) = false := by simp
        have hml : (5 : Nat) ≤ maxLen := by decide
        go_wp2_with fail
        refine (vencodeRow A1 _ _ xs _ (by omega) (R1.out _ (by (repeat (first | (with_reducible exact Below.refl _ _) | (with_reducible assumption) | (with_reducible refine Below.drew ?_) | (with_reducible refine below_drewN ?_ _) | ((with_reducible refine Below.setCell ?_ ?_ _); rotate_left; (focus (first | (simp; done) | (simp; omega) | omega))) | ((with_reducible refine Below.alloc ?_ ?_ _); rotate_left; (focus (first | (simp; done) | (simp; omega) | omega))) | ((with_reducible apply below_step1); (focus (with_reducible assumption)))))))).mono ?_
        rintro e w6 ⟨rfl, hb6⟩
        go_wp2_with fail
        refine (vencodeRow A2 _ _ (ys) _ (by omega) (R2.out _ (by (repeat (first | (with_reducible exact Below.refl _ _) | (with_reducible assumption) | (with_reducible refine Below.drew ?_) | (with_reducible refine below_drewN ?_ _) | ((with_reducible refine Below.setCell ?_ ?_ _); rotate_left; (focus (first | (simp; done) | (simp; omega) | omega))) | ((with_reducible refine Below.alloc ?_ ?_ _); rotate_left; (focus (first | (simp; done) | (simp; omega) | omega))) | ((with_reducible apply below_step1); (focus (with_reducible assumption)))))))).mono ?_
        rintro e w7 ⟨rfl, hb7⟩
        go_wp2_with fail
        refine (vcompareRows A1 A2 _ _ _ _ xs (ys) _ (by omega) (by omega) (R1.out _ (by (repeat (first | (with_reducible exact Below.refl _ _) | (with_reducible assumption) | (with_reducible refine Below.drew ?_) | (with_reducible refine below_drewN ?_ _) | ((with_reducible refine Below.setCell ?_ ?_ _); rotate_left; (focus (first | (simp; done) | (simp; omega) | omega))) | ((with_reducible refine Below.alloc ?_ ?_ _); rotate_left; (focus (first | (simp; done) | (simp; omega) | omega))) | ((with_reducible apply below_step1); (focus (with_reducible assumption))))))) (R2.out _ (by (repeat (first | (with_reducible exact Below.refl _ _) | (with_reducible assumption) | (with_reducible refine Below.drew ?_) | (with_reducible refine below_drewN ?_ _) | ((with_reducible refine Below.setCell ?_ ?_ _); rotate_left; (focus (first | (simp; done) | (simp; omega) | omega))) | ((with_reducible refine Below.alloc ?_ ?_ _); rotate_left; (focus (first | (simp; done) | (simp; omega) | omega))) | ((with_reducible apply below_step1); (focus (with_reducible assumption)))))))).mono ?_
        rintro e w8 ⟨rfl, hb8⟩
        go_wp2_with fail
        go_roundw
        case rel => exact ⟨k + 1, by omega, by go_num, by (repeat (first | (with_reducible assumption) | (with_reducible refine Tp.drew ?_) | (with_reducible refine Tp.drewN ?_ _) | (with_reducible refine Tp.alloc ?_ _) | ((with_reducible refine Tp.setFar ?_ ?_ ?_ _); rotate_left; (focus (first | (simp; done) | (simp; omega) | omega)); (focus (first | (simp; done) | (simp; omega) | omega))) | ((with_reducible apply Tp.step); (focus (with_reducible assumption))))), by (repeat (first | (with_reducible exact Below.refl _ _) | (with_reducible assumption) | (with_reducible refine Below.drew ?_) | (with_reducible refine below_drewN ?_ _) | ((with_reducible refine Below.setCell ?_ ?_ _); rotate_left; (focus (first | (simp; done) | (simp; omega) | omega))) | ((with_reducible refine Below.alloc ?_ ?_ _); rotate_left; (focus (first | (simp; done) | (simp; omega) | omega))) | ((with_reducible apply below_step1); (focus (with_reducible assumption)))))⟩
        case measure => simp [intOf]; omega
    · go_wp2_with (go_at_call 14; refine (awake_c _ (by exact hG.below belr)).mono ?_; rintro e w11 ⟨rfl, hb11⟩)
      go_ret
      exact ⟨rfl, by (repeat (first | (with_reducible exact Below.refl _ _) | (with_reducible assumption) | (with_reducible refine Below.drew ?_) | (with_reducible refine below_drewN ?_ _) | ((with_reducible refine Below.setCell ?_ ?_ _); rotate_left; (focus (first | (simp; done) | (simp; omega) | omega))) | ((with_reducible refine Below.alloc ?_ ?_ _); rotate_left; (focus (first | (simp; done) | (simp; omega) | omega))) | ((with_reducible apply below_step1); (focus (with_reducible assumption)))))⟩
end Go.Proofs.YtjlhapbahecpoaaDoor
