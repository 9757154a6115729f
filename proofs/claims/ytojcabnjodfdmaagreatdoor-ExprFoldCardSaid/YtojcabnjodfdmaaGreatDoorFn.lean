/- Contracts of the reference's fold and Fold. -/
import Derived.Test.YtojcabnjodfdmaaGreatDoorFm
import Derived.Test.YtojcabnjodfdmaaGreatDoorBd
namespace Go.Proofs.YtojcabnjodfdmaaGreatDoor
open Go.RowKit

theorem grown_any {w w1 w2 : World} {r r1 : Option Nat} (h : w.grownBy w1 r) (h1 : w1.grownBy w2 r1) (hr : ∀ k, r1 = some k → r = some k ∨ w.heap.size ≤ k) : w.grownBy w2 r :=
  ⟨h1.os.trans h.os, h1.tape.trans h.tape, h1.output.trans h.output, Nat.le_trans h.size h1.size, fun k hk hne => (h1.block k (Nat.lt_of_lt_of_le hk h.size) (fun e => by
    rcases hr k e.symm with h2 | h2
    · exact hne h2.symm
    · omega)).trans (h.block k hk hne)⟩
/-- After so many operands of the reference's fold. -/
structure FrS (w w1 : World) (g0 : Nat) (t : T) (ks : List X) (i : Nat) (v3 v4 : Value) (wr : World) : Prop where
  own3 : wr.ownsRow w.heap.size 48 5 v3 (1 + (flats (folds (ks.take i))).length) ((t :: flats (folds (ks.take i))).flatMap T.cells)
  at3 : ∃ g, v3.ownBlock = some g ∧ (g = g0 ∨ w1.heap.size ≤ g)
  own4 : wr.ownsRow w1.heap.size 38 3 v4 (cvals (folds (ks.take i))).length ((cvals (folds (ks.take i))).flatMap V.cells)
  ne : v4.ownBlock ≠ v3.ownBlock
  gr : w1.grownBy wr (some g0)
def FrRel (w w1 : World) (g0 : Nat) (t : T) (ks : List X) (v3 v4 v6 : Value) (wr : World) : Prop :=
  ∃ i : Nat, i ≤ ks.length ∧ v6 = .int .i64 (i : Int) ∧ FrS w w1 g0 t ks i v3 v4 wr
/-- The row of terms grows. -/
theorem FrS.out {w w1 wr w2 : World} {g0 i : Nat} {t : T} {ks : List X} {k : X} {v3 v3' v4 : Value} {l : List T} (hki : ks[i]? = some k) (hl : k.fold.flat = l)
    (_h3 : wr.ownsRow w.heap.size 48 5 v3 (1 + (flats (folds (ks.take i))).length) ((t :: flats (folds (ks.take i))).flatMap T.cells)) (a3 : ∃ g, v3.ownBlock = some g ∧ (g = g0 ∨ w1.heap.size ≤ g))
    (h4 : wr.ownsRow w1.heap.size 38 3 v4 (cvals (folds (ks.take (i + 1)))).length ((cvals (folds (ks.take (i + 1)))).flatMap V.cells)) (ne : v4.ownBlock ≠ v3.ownBlock) (gr : w1.grownBy wr (some g0)) (hz : w1.heap.size ≤ wr.heap.size)
    (ho : w2.ownsRow w.heap.size 48 5 v3' (1 + (flats (folds (ks.take i))).length + l.length) ((t :: flats (folds (ks.take i))).flatMap T.cells ++ l.flatMap T.cells)) (hg : wr.grownBy w2 v3.ownBlock) (hat : v3'.ownBlock = v3.ownBlock ∨ v3'.ownBlock = some wr.heap.size) : FrS w w1 g0 t ks (i + 1) v3' v4 w2 := by
  obtain ⟨g, hg3, hgg⟩ := a3
  refine ⟨?_, ?_, h4.kept hg (.inr ne), ?_, grown_any gr hg (fun k hk => ?_)⟩
  · rw [fold_take hki, flats_two]
    have e : flats [k.fold] = l := by rw [← hl]; simp [flats]
    rw [e, List.length_append, ← Nat.add_assoc, ← List.cons_append, List.flatMap_append]
    exact ho
  · rcases hat with e | e
    · exact ⟨g, e.trans hg3, hgg⟩
    · exact ⟨wr.heap.size, e, .inr hz⟩
  · rcases hat with e | e
    · rw [e]; exact ne
    · rw [e]
      intro h
      have := (h4.lt _ h).2
      omega
  · rw [hg3] at hk
    injection hk with hk
    rcases hgg with h | h
    · left; rw [← hk, h]
    · right; omega
/-- A value was appended: the row of terms and the operand stay. -/
theorem FrS.mid {w w1 w4 w5 : World} {g0 n m : Nat} {v3 v4 v5 : Value} {xs ys : List Value} (h3 : w4.ownsRow w.heap.size 48 5 v3 n xs) (h4 : w4.ownsRow w1.heap.size 38 3 v4 m ys)
    (ne : v4.ownBlock ≠ v3.ownBlock) (gr : w1.grownBy w4 (some g0)) (g5 : w4.grownBy w5 v4.ownBlock) (hat : v5.ownBlock = v4.ownBlock ∨ v5.ownBlock = some (w4.heap.size + 1)) :
    w5.ownsRow w.heap.size 48 5 v3 n xs ∧ v5.ownBlock ≠ v3.ownBlock ∧ w1.grownBy w5 (some g0) := by
  refine ⟨h3.kept g5 (.inr (fun e => ne e.symm)), ?_, grown_any gr g5 (fun k hk => .inr (h4.lt k hk).1)⟩
  rcases hat with e | e
  · rw [e]; exact ne
  · rw [e]
    intro h
    have := (h3.lt _ h.symm).2
    omega
theorem opnd_kept {wr w4 w5 : World} {g c4 n : Nat} {v4 : Value} {zs : List Value} (hx : w4.ownsRow wr.heap.size 48 5 (.slice (some ⟨g, 0, none⟩) n c4) n zs) (hlt : ∀ k, v4.ownBlock = some k → k < wr.heap.size) (g5 : w4.grownBy w5 v4.ownBlock) : w5.ownsRow wr.heap.size 48 5 (.slice (some ⟨g, 0, none⟩) n c4) n zs :=
  hx.kept g5 (.inr (fun e => by
    have h1 := (hx.lt g (by simp [Value.ownBlock])).1
    have h2 := hlt g (by rw [← e]; simp [Value.ownBlock])
    omega))
set_option maxRecDepth 100000 in
set_option maxHeartbeats 8000000 in
theorem rfold_c : ∀ (f : Nat) (x : X) (b off n c : Nat) (w : World), x.depth ≤ f → f ≤ 17 → x.wf = true → n ≤ c → c ≤ maxLen → n ≤ 64 → RowT w w.heap.size (some ⟨b, off, none⟩) n x.flat → Calls Tryz.prog 26 #[.slice (some ⟨b, off, none⟩) n c] w (FdPost w x.fold.flat) := by
  intro f
  induction f with
  | zero => intro x b off n c w hd; have := x.depth_pos; omega
  | succ f ih =>
    intro x b off n c w hd hf hw hnc hcm hn hr
    obtain ⟨t, ks⟩ := x
    have hr' := hr
    rw [X.flat_node] at hr'
    obtain ⟨b', off', e1, hb, c0, c1, c2, c3, c4⟩ := RowT.head5 hr'
    injection e1 with e1
    injection e1 with e1 e2
    subst e1 e2
    have hnl : (flats ks).length + 1 = n := by have := hr'.len; simpa using this
    have hn1 : 0 < n := by omega
    clear hr'
    have hw2 := hw
    simp only [X.wf, Bool.and_eq_true, decide_eq_true_eq] at hw2
    obtain ⟨hok, hkl, hkw⟩ := hw2
    have hop := term_op hok
    by_cases hone : n = 1
    · have t1 : ((n : Int) == 1) = true := by rw [hone]; rfl
      have hk0 : ks = [] := by
        have := flats_pos ks
        exact List.eq_nil_of_length_eq_zero (by omega)
      subst hk0
      have HR := Lib.hid (leaf_fold hw)
      clear hone hw hnl hok hkl hkw hr
      go_enter Tryz.func26, Tryz.ntmps26
      go_wp2_with fail
      go_ret
      unfold FdPost
      rw [HR.out]
      refine ⟨_, _, rfl, ?_, by (repeat (first | (with_reducible exact Below.refl _ _) | (with_reducible assumption) | (with_reducible refine Below.drew ?_) | (with_reducible refine below_drewN ?_ _) | ((with_reducible refine Below.setCell ?_ ?_ _); rotate_left; (focus (first | (simp; done) | (simp; omega) | omega))) | ((with_reducible refine Below.alloc ?_ ?_ _); rotate_left; (focus (first | (simp; done) | (simp; omega) | omega))) | ((with_reducible apply below_step1); (focus (with_reducible assumption)))))⟩
      have := own_new w #[.int .i64 t.op, .int .i64 t.v.k, .int .i64 t.v.n, .string t.v.s, .int .i64 t.c] 48 5 1 (by decide) rfl
      simpa [T.cells] using this
    have t1 : ((n : Int) == 1) = false := by rw [beq_eq_false_iff_ne]; omega
    have hop3 : 3 ≤ t.op := by
      rcases Decidable.em (t.op = 1 ∨ t.op = 2) with h | h
      · exfalso
        have : ar t.op = 0 := by rcases h with h | h <;> rw [h] <;> rfl
        rw [this] at hkl
        have := List.eq_nil_of_length_eq_zero hkl
        rw [this] at hnl
        simp [flats] at hnl
        omega
      · omega
    have HNW := Lib.hid (node_folds hw)
    have hkf : wfs (folds ks) = true := by have := HNW.out; simp only [X.wf, Bool.and_eq_true] at this; exact this.2.2
    have HE := Lib.hid (show (X.node t ks).fold = foldN t (folds ks) by rw [X.fold])
    have HEV := Lib.hid (show (X.node t (folds ks)).ev [] = applyR t.op (evs [] (folds ks)) by
      rw [apply_same (by omega) (by omega) (by rw [evs_len, folds_len]; exact hkl) (evs_ok [] _ hkf), X.ev]
      unfold termV
      rw [if_neg (by omega), if_neg (by omega)])
    have hap := fun A n c w hr1 => rapply t.op A n c (evs [] (folds ks)) w (by omega) (by rw [evs_len, folds_len]; exact hkl) (evs_ok [] _ hkf) hr1
    have hk3 : ks.length ≤ 3 := by have := ar_le t.op; omega
    have hdk : deepest ks + 1 ≤ f + 1 := hd
    have hops := fun w hr1 => operands_c b off n c t ks w (by omega) hnc hcm hw (by omega) hr1
    have HKW := Lib.hid hkw
    have HKF := Lib.hid hkf
    have HOP := Lib.hid (show (t.op != 2) = true by rw [bne_iff_ne]; omega)
    have hks64 : (flats ks).length ≤ 64 := by omega
    clear hop hok hkl hw hone hd hkw hkf hnl
    go_enter Tryz.func26, Tryz.ntmps26
    go_wp2_with (go_at_call 44; refine (hops _ (by exact hr.alloc (Nat.le_refl _) _ |>.more (by simp))).mono ?_; rintro e w1 ⟨lv, rfl, ol, hb1⟩; obtain ⟨LA, lc, rfl, _, hlc⟩ := own_slice ol; obtain ⟨hc1, hf1⟩ := bcell hb1; have hz1 := (hb1).size; (try simp at hz1))
    have HOL := Lib.hid ol
    clear ol hops
    have hw1 : Below w.heap.size w w1 := by (repeat (first | (with_reducible exact Below.refl _ _) | (with_reducible assumption) | (with_reducible refine Below.drew ?_) | (with_reducible refine below_drewN ?_ _) | ((with_reducible refine Below.setCell ?_ ?_ _); rotate_left; (focus (first | (simp; done) | (simp; omega) | omega))) | ((with_reducible refine Below.alloc ?_ ?_ _); rotate_left; (focus (first | (simp; done) | (simp; omega) | omega))) | ((with_reducible apply below_step1); (focus (with_reducible assumption)))))
    have ow1 := own_below (own_new w #[.int .i64 t.op, .int .i64 t.v.k, .int .i64 t.v.n, .string t.v.s, .int .i64 t.c] 48 5 1 (by decide) rfl) hb1
    have hw1z : w.heap.size < w1.heap.size := by omega
    go_loopw [3, 4, 6] (fun v3 v4 v6 wr => FrRel w w1 w.heap.size t ks v3 v4 v6 wr) (fun _ _ v6 _ => ks.length - (intOf v6).toNat)
    case atStart =>
      refine ⟨0, Nat.zero_le _, rfl, ⟨?_, ⟨w.heap.size, rfl, .inl rfl⟩, ?_, by simp [Value.ownBlock], grown_refl _ _⟩⟩
      · simpa [folds, flats, T.cells] using ow1
      · simpa [folds, cvals] using World.ownsRow_nil _ _ _ _
    case round =>
      obtain ⟨i, hi, rfl, hS⟩ := hrel
      obtain ⟨own3, at3, own4, hne, hgr⟩ := hS
      have hzz := hgr.size
      have hwr : Below w.heap.size w wr := hw1.grown hgr (by omega) (fun k hk => by injection hk with hk; omega)
      have hft := folds_takes ks i
      have hcl := cvals_le (folds (ks.take i))
      rw [folds_len, List.length_take] at hcl
      by_cases hlt : i < ks.length
      · have hki : ks[i]? = some ks[i] := List.getElem?_eq_getElem hlt
        generalize ks[i] = k at hki
        obtain ⟨k1, k2, k3⟩ := kid_in hki
        obtain ⟨g, q, rfl, hg, hg0, _, hkn, hcell, hqn, hpart⟩ := ops_at (w := w) HOL.out hr hki hw1
        have hcell2 : wr.cell? ⟨g, i, none⟩ = some (.slice (some ⟨b, off + q * 5, none⟩) k.flat.length (c - q)) := (World.cell?_of_block (a := ⟨g, i, none⟩) (hgr.block g hg (by simp at hg0; simp; omega))).trans hcell
        have ihe := ih k b (off + q * 5) k.flat.length (c - q) wr (by omega) (by omega) (k2 HKW.out) (by omega) (by omega) (by omega) ((hpart.below hwr).more hwr.size)
        have hsz : k.fold.flat.length ≤ 64 := by have := (X.fold_size k).1; omega
        obtain ⟨r4, hr4⟩ := flat_head k.fold
        obtain ⟨yl, hyl⟩ : ∃ yl, k.fold.flat = yl := ⟨_, rfl⟩
        have HY := Lib.hid hyl
        have HR4 := Lib.hid hr4
        have HKI := Lib.hid hki
        rw [hyl] at ihe hsz
        have h0 : (0 : Int) ≤ (i : Int) := by omega
        have h1 : (i : Int) < (ks.length : Int) := by omega
        have hiw : IntKind.i64.wrap ((i : Int) + 1) = (i : Int) + 1 := IntWalk.i64_in _ (by omega)
        clear hki k1 k2 k3 ih hcell hpart hr hyl hr4
        unfold FdPost at ihe
        have HNE := Lib.hid hne
        have HAT := Lib.hid at3
        clear hne at3
        cases hq : isC k.fold
        · have hqo : (k.fold.t.op == 1) = false := hq
          have HC := Lib.hid (show cvals (folds (ks.take (i + 1))) = cvals (folds (ks.take i)) by rw [fold_take HKI.out]; exact cvals_no hq)
          clear hq
          go_wp2_with fail
          refine ihe.mono ?_
          rintro e w4 ⟨A4, c4, rfl, o4, hb4⟩
          have hz4 := hb4.size
          have ow3 := own_below own3 hb4
          have ow4 := own_below own4 hb4
          have R4 : RowT w4 w4.heap.size A4 yl.length yl := RowOf.of_own o4 rfl
          have hne4 := Lib.hid (own_none o4)
          have RD4 := Rd.of_own o4
          have hyn : 0 < yl.length := by rw [← HY.out, HR4.out]; simp
          rw [show yl = k.fold.t :: r4 by rw [← HY.out, HR4.out]] at R4
          obtain ⟨b4, off4, e4, hb4', d0, _, _, _, _⟩ := RowT.head5 R4
          subst e4
          clear R4 o4
          have hgr4 : w1.grownBy w4 (some w.heap.size) := only_step hb4 hgr
          go_wp2_with (at_builtin; refine wpList_appAny (v := u3) rfl _ _ stT rfl rfl ow3 rfl (news := yl.flatMap T.cells) (tcells_len _) RD4 hne4.out (tcells_one _) (by omega) (by omega) ?_; intro v5 w5 o5 g5 hat5; have hz5 := g5.size)
          refine ⟨⟨i + 1, by omega, by go_num, FrS.out HKI.out HY.out ow3 HAT.out (by rw [HC.out]; exact ow4) HNE.out hgr4 (by omega) o5 g5 hat5⟩, by simp [intOf]; omega⟩
        · have hqo : (k.fold.t.op == 1) = true := hq
          have HC := Lib.hid (show cvals (folds (ks.take (i + 1))) = cvals (folds (ks.take i)) ++ [k.fold.t.v] by rw [fold_take HKI.out]; exact cvals_yes hq)
          clear hq
          go_wp2_with fail
          refine ihe.mono ?_
          rintro e w4 ⟨A4, c4, rfl, o4, hb4⟩
          have hz4 := hb4.size
          have ow3 := own_below own3 hb4
          have ow4 := own_below own4 hb4
          have R4 : RowT w4 w4.heap.size A4 yl.length yl := RowOf.of_own o4 rfl
          have hne4 := Lib.hid (own_none o4)
          have hyn : 0 < yl.length := by rw [← HY.out, HR4.out]; simp
          rw [show yl = k.fold.t :: r4 by rw [← HY.out, HR4.out]] at R4
          obtain ⟨b4, off4, e4, hb4', d0, d1, d2, d3, _⟩ := RowT.head5 R4
          subst e4
          clear R4
          have hgr4 : w1.grownBy w4 (some w.heap.size) := only_step hb4 hgr
          obtain rfl : off4 = 0 := by
            rcases o4.2 with ⟨e0, _⟩ | ⟨gg, _, _, e0, _⟩
            · injection e0 with e0 _ _; cases e0
            · injection e0 with e0 _ _; injection e0 with e0; injection e0 with _ e0
          have HLT := Lib.hid (fun k hk => (own4.lt k hk).2)
          go_wp2_with (first
            | (at_builtin; refine wpList_app (v := u4) rfl _ _ stV rfl rfl (ow4) rfl (by simp) rfl (by simp [Value.oneCell']) (by omega) (by omega) ?_; intro v5 w5 o5 g5 hat5; have hz5 := g5.size; obtain ⟨ow35, hne5, gg5⟩ := FrS.mid ow3 ow4 HNE.out hgr4 g5 hat5; have RD4 := Rd.of_own (opnd_kept o4 HLT.out g5))
            | (at_builtin; refine wpList_appAny (v := u3) rfl _ _ stT rfl rfl ow35 rfl (news := yl.flatMap T.cells) (tcells_len _) RD4 hne4.out (tcells_one _) (by omega) (by omega) ?_; intro v6 w6 o6 g6 hat6; have hz6 := g6.size))
          refine ⟨⟨i + 1, by omega, by go_num, FrS.out HKI.out HY.out ow35 HAT.out (by rw [HC.out, List.length_append, List.flatMap_append]; simpa [V.cells] using o5) hne5 gg5 (by omega) o6 g6 hat6⟩, by simp [intOf]; omega⟩
      · obtain rfl : i = ks.length := by omega
        rw [List.take_length] at own3 own4
        have hl3 : (1 + (flats (folds ks)).length) = (X.node t (folds ks)).flat.length := by rw [X.flat_node, List.length_cons, Nat.add_comm]
        have hf3 : (t :: flats (folds ks)) = (X.node t (folds ks)).flat := by rw [X.flat_node]
        rw [hl3, hf3] at own3
        obtain ⟨A3, c3, rfl, _, _⟩ := own_slice own3
        obtain ⟨A4, c4, rfl, _, _⟩ := own_slice own4
        have hlt2 : ¬ (ks.length : Int) < (ks.length : Int) := by omega
        have hz3 := hwr.size
        have d0 := (hwr.cell (p := ⟨b, off, none⟩) hb).trans c0
        clear hl3 hf3 ih hr
        cases hall : (folds ks).all isC
        · have hcs := cvals_some hall
          rw [folds_len] at hcs
          have HD := Lib.hid (show (X.node t ks).fold = .node t (folds ks) by rw [HE.out, foldN_no (by rw [hall, Bool.and_false])])
          have hcs2 : ((cvals (folds ks)).length : Int) < (ks.length : Int) := by omega
          clear hall hcs
          go_wp2_with fail
          go_ret
          unfold FdPost
          rw [HD.out]
          exact ⟨A3, c3, rfl, own3, hwr⟩
        · have hcl2 := cvals_all hall
          have hce := cvals_evs HKF.out hall
          rw [folds_len] at hcl2
          have hrow : Row wr wr.heap.size A4 ks.length (evs [] (folds ks)) := by
            have h4 := own4
            rw [hcl2, hce] at h4
            exact RowOf.of_own h4 (by rw [evs_len, folds_len])
          rw [hcl2]
          have HALL := Lib.hid hall
          obtain ⟨ve, hve⟩ : ∃ ve, applyR t.op (evs [] (folds ks)) = ve := ⟨_, rfl⟩
          rw [hve] at hap HEV
          clear hall hcl2 hce hve own4
          by_cases hk0 : ve.k = 0
          · have tk : (ve.k == 0) = true := by simpa using hk0
            have HD := Lib.hid (show (X.node t ks).fold = .node t (folds ks) by rw [HE.out, foldN_null (by rw [HEV.out]; exact hk0)])
            clear hk0
            go_wp2_with (go_at_call 45; refine (hap _ _ _ _ (by exact hrow)).mono ?_; rintro e w8 ⟨rfl, hb8⟩; obtain ⟨hc8, hf8⟩ := bcell hb8; have hz8 := (hb8).size; (try simp at hz8))
            go_ret
            unfold FdPost
            rw [HD.out]
            exact ⟨A3, c3, rfl, (own_below own3 hb8).alloc _, by (repeat (first | (with_reducible exact Below.refl _ _) | (with_reducible assumption) | (with_reducible refine Below.drew ?_) | (with_reducible refine below_drewN ?_ _) | ((with_reducible refine Below.setCell ?_ ?_ _); rotate_left; (focus (first | (simp; done) | (simp; omega) | omega))) | ((with_reducible refine Below.alloc ?_ ?_ _); rotate_left; (focus (first | (simp; done) | (simp; omega) | omega))) | ((with_reducible apply below_step1); (focus (with_reducible assumption)))))⟩
          · have tk : (ve.k == 0) = false := by simpa using hk0
            have HD := Lib.hid (show (X.node t ks).fold = constX ve by rw [HE.out, foldN_yes (by rw [HOP.out, HALL.out]; rfl) (by rw [HEV.out]; exact hk0), HEV.out])
            clear hk0
            go_wp2_with (go_at_call 45; refine (hap _ _ _ _ (by exact hrow)).mono ?_; rintro e w8 ⟨rfl, hb8⟩; obtain ⟨hc8, hf8⟩ := bcell hb8; have hz8 := (hb8).size; (try simp at hz8))
            go_ret
            unfold FdPost
            rw [HD.out, constX_flat]
            refine ⟨_, _, rfl, ?_, by (repeat (first | (with_reducible exact Below.refl _ _) | (with_reducible assumption) | (with_reducible refine Below.drew ?_) | (with_reducible refine below_drewN ?_ _) | ((with_reducible refine Below.setCell ?_ ?_ _); rotate_left; (focus (first | (simp; done) | (simp; omega) | omega))) | ((with_reducible refine Below.alloc ?_ ?_ _); rotate_left; (focus (first | (simp; done) | (simp; omega) | omega))) | ((with_reducible apply below_step1); (focus (with_reducible assumption)))))⟩
            have := own_new (w8.alloc (.cells #[.int .i64 ve.k, .int .i64 ve.n, .string ve.s] 38)) #[.int .i64 ((⟨1, ve, 0⟩ : T)).op, .int .i64 ((⟨1, ve, 0⟩ : T)).v.k, .int .i64 ((⟨1, ve, 0⟩ : T)).v.n, .string ((⟨1, ve, 0⟩ : T)).v.s, .int .i64 ((⟨1, ve, 0⟩ : T)).c] 48 5 1 (by decide) rfl
            simpa [T.cells] using own_base this (by simp; omega)
set_option maxRecDepth 100000 in
set_option maxHeartbeats 1000000 in
theorem rfold (A : Option Addr) (n c : Nat) (es : List T) (w : World) (hnc : n ≤ c) (hcm : c ≤ maxLen) (hr : RowT w w.heap.size A n es) : Calls Tryz.prog 10 #[.slice A n c] w (FdPost w (foldE es)) := by
  have hvd := rvalidE A n c es w (by omega) hr
  cases hval : validE es
  · rw [hval] at hvd
    have HR := Lib.hid (foldE_bad hval)
    clear hval
    go_enter Tryz.func10, Tryz.ntmps10
    go_wp2_with ((go_at_call 25; refine (hvd).mono ?_; rintro e w1 ⟨rfl, hb1⟩; have hz1 := hb1.size; (try simp at hz1)))
    go_ret
    unfold FdPost
    rw [HR.out]
    exact ⟨none, 0, rfl, World.ownsRow_nil _ _ _ _, by (repeat (first | (with_reducible exact Below.refl _ _) | (with_reducible assumption) | (with_reducible refine Below.drew ?_) | (with_reducible refine below_drewN ?_ _) | ((with_reducible refine Below.setCell ?_ ?_ _); rotate_left; (focus (first | (simp; done) | (simp; omega) | omega))) | ((with_reducible refine Below.alloc ?_ ?_ _); rotate_left; (focus (first | (simp; done) | (simp; omega) | omega))) | ((with_reducible apply below_step1); (focus (with_reducible assumption)))))⟩
  · rw [hval] at hvd
    obtain ⟨x, hx, hfl, hw, hd, hl⟩ := treeE_ok hval
    have hl2 := hr.len
    have HR := Lib.hid (foldE_ok hx)
    have hr0 := hr
    rw [hfl, (flat_head x).choose_spec] at hr0
    obtain ⟨b, off, rfl, _⟩ := RowT.head5 hr0
    rw [hfl] at hr
    have hev := fun w1 hr1 => rfold_c 16 x b off n c w1 hd (by omega) hw hnc hcm (by omega) hr1
    unfold FdPost at hev
    clear hval hx hfl hw hd hl hl2 hr0
    go_enter Tryz.func10, Tryz.ntmps10
    go_wp2_with (first
      | ((go_at_call 25; refine (hvd).mono ?_; rintro e w1 ⟨rfl, hb1⟩; have hz1 := hb1.size; (try simp at hz1)))
      | (go_at_call 26; refine (hev w1 ((hr.below hb1).more hb1.size)).mono ?_; rintro e w2 ⟨A2, c2, rfl, o2, hb2⟩))
    go_ret
    unfold FdPost
    rw [HR.out]
    exact ⟨A2, c2, rfl, own_base o2 hb1.size, below_step hb2 hb1 (Nat.le_refl _)⟩
end Go.Proofs.YtojcabnjodfdmaaGreatDoor
