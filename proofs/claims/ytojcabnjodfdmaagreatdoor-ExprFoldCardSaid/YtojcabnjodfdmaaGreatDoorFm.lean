/- Contracts of the program's foldAt and Fold. -/
import Derived.Test.YtojcabnjodfdmaaGreatDoorXFold
import Derived.Test.YtojcabnjodfdmaaGreatDoorBd
import Derived.Test.YtojcabnjodfdmaaGreatDoorBa
namespace Go.Proofs.YtojcabnjodfdmaaGreatDoor
open Go.RowKit

def FoPost (w : World) (x : X) (pe : Nat) (e : Ending) (w' : World) : Prop :=
  ∃ (A : Option Addr) (c : Nat), e = .returned (.tuple #[.slice A x.fold.flat.length c, .int .i64 (pe : Int)]) ∧ w'.ownsRow w.heap.size 48 5 (.slice A x.fold.flat.length c) x.fold.flat.length (x.fold.flat.flatMap T.cells) ∧ Below w.heap.size w w'
/-- After so many operands of foldAt. -/
def FlRel (w : World) (t : T) (ks : List X) (pos : Nat) (v7 v8 v9 v28 : Value) (wr : World) : Prop :=
  ∃ i p : Nat, i ≤ ks.length ∧ v28 = .int .i64 (i : Int) ∧ v8 = .int .i64 (p : Int) ∧ p = pos + 1 + (flats (ks.take i)).length ∧ v9 = .bool ((t.op != 2) && (folds (ks.take i)).all isC) ∧ wr.ownsRow w.heap.size 48 5 v7 (1 + (flats (folds (ks.take i))).length) ((t :: flats (folds (ks.take i))).flatMap T.cells) ∧ Below w.heap.size w wr
set_option maxRecDepth 100000 in
set_option maxHeartbeats 4000000 in
theorem foldAt_c (A : Option Addr) (n c : Nat) (es : List T) (hn : n ≤ 64) : ∀ (f : Nat) (x : X) (r : List T) (pos : Nat) (w : World), x.depth ≤ f → f ≤ 16 → x.wf = true → es.drop pos = x.flat ++ r → RowT w w.heap.size A n es → Calls Tryz.prog 24 #[.slice A n c, .int .i64 (pos : Int)] w (FoPost w x (pos + x.flat.length)) := by
  intro f
  induction f with
  | zero => intro x r pos w hd; have := x.depth_pos; omega
  | succ f ih =>
    intro x r pos w hd hf hw hx hr
    obtain ⟨t, ks⟩ := x
    have hlen := congrArg List.length hx
    rw [List.length_drop, X.flat_node, List.length_append, List.length_cons, hr.len] at hlen
    have hlt : pos < n := by omega
    obtain ⟨b, off, t', rfl, hb, ht, c0, c1, c2, c3, c4⟩ := RowT.at5 hr hlt
    have htt : t' = t := by
      have h2 := drop_term ht
      rw [hx, X.flat_node, List.cons_append] at h2
      injection h2 with h2 _
      exact h2.symm
    subst htt
    have hp0 : (0 : Int) ≤ (pos : Int) := by omega
    have hp1 : (pos : Int) < (n : Int) := by omega
    have hpw : IntKind.i64.wrap ((pos : Int) + 1) = (pos : Int) + 1 := IntWalk.i64_in _ (by omega)
    have HNW := Lib.hid (node_folds hw)
    have hds : deepest (folds ks) ≤ deepest ks := (folds_size ks).2
    have hfl := (folds_size ks).1
    have hw2 := hw
    simp only [X.wf, Bool.and_eq_true, decide_eq_true_eq] at hw2
    obtain ⟨hok, hkl, hkw⟩ := hw2
    have hak : 0 ≤ arity t'.op := by
      rw [T.ok_fok, Bool.and_eq_true, decide_eq_true_eq] at hok
      exact hok.1
    have HN := Lib.hid (show arity t'.op = (ks.length : Int) by rw [hkl]; unfold ar; omega)
    have har := arity_range t'.op
    have hk3 : ks.length ≤ 3 := by have := HN.out; omega
    simp only [X.depth] at hd
    have HX := Lib.hid hx
    have HW := Lib.hid hkw
    have HP := Lib.hid (show pos + (X.node t' ks).flat.length = pos + 1 + (flats ks).length by rw [X.flat_node, List.length_cons]; omega)
    have HE := Lib.hid (show (X.node t' ks).fold = foldN t' (folds ks) by rw [X.fold])
    have hks : (flats ks).length + 1 ≤ 64 := by omega
    generalize pos + (X.node t' ks).flat.length = pe at HP
    obtain ⟨cb, hcb⟩ : ∃ cb, (t'.op != 2) = cb := ⟨_, rfl⟩
    have HCB := Lib.hid hcb
    clear ht hx hok hkw hw hkl hlen
    go_enter Tryz.func24, Tryz.ntmps24
    go_wp2_with (go_at_call 42; refine (xarity t'.op _).mono ?_; rintro e w1 ⟨rfl, rfl⟩; rw [HN.out])
    go_loopw [7, 8, 9, 28] (fun v7 v8 v9 v28 wr => FlRel w t' ks pos v7 v8 v9 v28 wr) (fun _ _ _ v28 _ => ks.length - (intOf v28).toNat)
    case atStart =>
      go_light
      refine ⟨0, pos + 1, Nat.zero_le _, rfl, by go_num, by simp [flats], by rw [HCB.out]; simp [folds], ?_, by (repeat (first | (with_reducible exact Below.refl _ _) | (with_reducible assumption) | (with_reducible refine Below.drew ?_) | (with_reducible refine below_drewN ?_ _) | ((with_reducible refine Below.setCell ?_ ?_ _); rotate_left; (focus (first | (simp; done) | (simp; omega) | omega))) | ((with_reducible refine Below.alloc ?_ ?_ _); rotate_left; (focus (first | (simp; done) | (simp; omega) | omega))) | ((with_reducible apply below_step1); (focus (with_reducible assumption)))))⟩
      have := own_new (w.alloc (.cells #[.int .i64 t'.op, .int .i64 t'.v.k, .int .i64 t'.v.n, .string t'.v.s, .int .i64 t'.c] 48)) #[.int .i64 t'.op, .int .i64 t'.v.k, .int .i64 t'.v.n, .string t'.v.s, .int .i64 t'.c] 48 5 1 (by decide) rfl
      simpa [folds, flats, T.cells] using own_base this (by simp)
    case round =>
      obtain ⟨i, p, hi, rfl, rfl, hp, rfl, hown, hbel⟩ := hrel
      rw [HCB.out]
      have hzz := hbel.size
      have hft := folds_takes ks i
      by_cases hlt2 : i < ks.length
      · have hia : (i : Int) < (ks.length : Int) := by omega
        have hki : ks[i]? = some ks[i] := List.getElem?_eq_getElem hlt2
        generalize ks[i] = k at hki
        obtain ⟨k1, k2, k3⟩ := kid_in hki
        have hka := kid_at HX.out hki
        rw [← hp] at hka
        have ihe := ih k _ p wr (by omega) (by omega) (k2 HW.out) hka ((hr.below hbel).more hzz)
        have HP1 := Lib.hid (show p + k.flat.length = pos + 1 + (flats (ks.take (i + 1))).length by omega)
        have hbnd : p + k.flat.length ≤ 1000 := by
          have h2 := congrArg List.length hka
          rw [List.length_drop, List.length_append, hr.len] at h2
          have h4 := k.flat_pos
          omega
        have hsz : k.fold.flat.length ≤ 64 := by
          have h1 := (X.fold_size k).1
          have h2 := congrArg List.length hka
          rw [List.length_drop, List.length_append, hr.len] at h2
          omega
        generalize p + k.flat.length = p1 at ihe HP1 hbnd
        have HF := Lib.hid (fold_take hki)
        obtain ⟨r4, hr4⟩ := flat_head k.fold
        have HR4 := Lib.hid hr4
        obtain ⟨q, hq⟩ : ∃ q, isC k.fold = q := ⟨_, rfl⟩
        have hqo : (k.fold.t.op == 1) = q := hq
        have HQ := Lib.hid hq
        obtain ⟨g, hg⟩ : ∃ g, (folds (ks.take i)).all isC = g := ⟨_, rfl⟩
        rw [hg]
        have HG := Lib.hid hg
        have hiw : IntKind.i64.wrap ((i : Int) + 1) = (i : Int) + 1 := IntWalk.i64_in _ (by omega)
        unfold FoPost at ihe
        obtain ⟨yl, hyl⟩ : ∃ yl, k.fold.flat = yl := ⟨_, rfl⟩
        rw [hyl] at ihe hsz hr4
        have HY := Lib.hid hyl
        have fin : ∀ (v7' : Value) (w5 : World) (u9 : Bool), w5.ownsRow w.heap.size 48 5 v7' (1 + (flats (folds (ks.take i))).length + yl.length) ((t' :: flats (folds (ks.take i))).flatMap T.cells ++ yl.flatMap T.cells) → u9 = ((cb && g) && q) → Below w.heap.size w w5 → FlRel w t' ks pos v7' (.int .i64 (p1 : Int)) (.bool u9) (.int .i64 ((i : Int) + 1)) w5 := by
          intro v7' w5 u9 h1 h2 h3
          refine ⟨i + 1, p1, by omega, by go_num, rfl, HP1.out, ?_, ?_, h3⟩
          · rw [h2, HF.out, List.all_append, HG.out, HCB.out]
            simp [HQ.out, Bool.and_assoc]
          · rw [HF.out, flats_two]
            have e : flats [k.fold] = yl := by rw [← HY.out]; simp [flats]
            rw [e, List.length_append, ← Nat.add_assoc, ← List.cons_append, List.flatMap_append]
            exact h1
        have FIN := Lib.hid fin
        clear hka hki k1 k2 k3 hp hr ih fin hyl hq hg hr4
        cases hcg : (cb && g)
        · rw [hcg] at FIN
          clear hqo
          go_wp2_with (first
            | (go_at_call 24; refine ihe.mono ?_; rintro e w4 ⟨A4, c4, rfl, o4, hb4⟩; have hz4 := hb4.size; have ow4 := own_below hown hb4)
            | (at_builtin; refine wpList_appAny (v := u7) rfl _ _ stT rfl rfl ow4 rfl (news := yl.flatMap T.cells) (tcells_len _) (Rd.of_own o4) (own_none o4) (tcells_one _) (by omega) (by omega) ?_; intro v5 w5 o5 g5 _; have hz5 := g5.size))
          have hb5 := below_app (below_step hb4 hbel (Nat.le_refl _)) ow4 g5 (Nat.le_refl _) (by omega)
          exact ⟨FIN.out _ _ _ o5 rfl hb5, by simp [intOf]; omega⟩
        · rw [hcg] at FIN
          go_wp2_with fail
          refine ihe.mono ?_
          rintro e w4 ⟨A4, c4, rfl, o4, hb4⟩
          have hz4 := hb4.size
          have ow4 := own_below hown hb4
          have R4 : RowT w4 w4.heap.size A4 yl.length yl := RowOf.of_own o4 rfl
          have hne4 := Lib.hid (own_none o4)
          have RD4 := Rd.of_own o4
          have hyn : 0 < yl.length := by rw [← HY.out, HR4.out]; simp
          rw [show yl = k.fold.t :: r4 by rw [← HY.out, HR4.out]] at R4
          obtain ⟨b4, off4, e4, hb4', d0, _, _, _, _⟩ := RowT.head5 R4
          subst e4
          clear R4 o4
          go_wp2_with (at_builtin; refine wpList_appAny (v := u7) rfl _ _ stT rfl rfl ow4 rfl (news := yl.flatMap T.cells) (tcells_len _) RD4 hne4.out (tcells_one _) (by omega) (by omega) ?_; intro v5 w5 o5 g5 _; have hz5 := g5.size)
          have hb5 := below_app (below_step hb4 hbel (Nat.le_refl _)) ow4 g5 (Nat.le_refl _) (by omega)
          exact ⟨FIN.out _ _ _ o5 (by simp) hb5, by simp [intOf]; omega⟩
      · have hia : ¬ (i : Int) < (ks.length : Int) := by omega
        obtain rfl : i = ks.length := by omega
        rw [List.take_length] at hp hown
        rw [List.take_length]
        have HPE := Lib.hid (show p = pe by rw [hp, HP.out])
        obtain ⟨A7, c7, rfl, _, _⟩ := own_slice hown
        have hl7 : (1 + (flats (folds ks)).length) = (X.node t' (folds ks)).flat.length := by rw [X.flat_node, List.length_cons, Nat.add_comm]
        have hf7 : (t' :: flats (folds ks)) = (X.node t' (folds ks)).flat := by rw [X.flat_node]
        rw [hl7, hf7] at hown
        rw [hl7]
        have hz7 : (X.node t' (folds ks)).flat.length ≤ 64 := by rw [← hl7]; omega
        obtain ⟨g, hg⟩ : ∃ g, (cb && (folds ks).all isC) = g := ⟨_, rfl⟩
        rw [hg]
        have hev := fun w1 h1 => evalAt_c A7 none (X.node t' (folds ks)).flat.length c7 0 0 (X.node t' (folds ks)).flat [] (by omega) (by decide) 16 (X.node t' (folds ks)) [] 0 w1 (by simp only [X.depth]; omega) HNW.out (by simp) h1 RowOf.nil_
        obtain ⟨ve, hve⟩ : ∃ ve, (X.node t' (folds ks)).ev [] = ve := ⟨_, rfl⟩
        rw [hve] at hev
        have HVE := Lib.hid hve
        have HGG := Lib.hid hg
        clear hl7 hf7 hve hg hp ih hr
        cases g
        · have HD := Lib.hid (show (X.node t' ks).fold = .node t' (folds ks) by rw [HE.out, foldN_no (by rw [HCB.out, HGG.out])])
          clear hev
          go_wp2_with fail
          refine bodyPost_ret (by simp [results, Tryz.results24, go_sem]; rfl) rfl ?_
          unfold FoPost
          rw [HD.out, ← HPE.out]
          exact ⟨A7, c7, rfl, hown, hbel⟩
        · have R7 : RowT wr wr.heap.size A7 (X.node t' (folds ks)).flat.length (X.node t' (folds ks)).flat := RowOf.of_own hown rfl
          have hev7 := hev wr R7
          unfold EvPost at hev7
          by_cases hk0 : ve.k = 0
          · have tk : (ve.k != 0) = false := by simpa using hk0
            have HD := Lib.hid (show (X.node t' ks).fold = .node t' (folds ks) by rw [HE.out, foldN_null (by rw [HVE.out]; exact hk0)])
            clear hev R7 hk0
            go_wp2_with (go_at_call 32; refine hev7.mono ?_; rintro e w8 ⟨rfl, hb8⟩; obtain ⟨hc8, hf8⟩ := bcell hb8; have hz8 := (hb8).size; (try simp at hz8))
            refine bodyPost_ret (by simp [results, Tryz.results24, go_sem, *]; rfl) rfl ?_
            unfold FoPost
            rw [HD.out, ← HPE.out]
            exact ⟨A7, c7, rfl, (own_below hown hb8).alloc _, by (repeat (first | (with_reducible exact Below.refl _ _) | (with_reducible assumption) | (with_reducible refine Below.drew ?_) | (with_reducible refine below_drewN ?_ _) | ((with_reducible refine Below.setCell ?_ ?_ _); rotate_left; (focus (first | (simp; done) | (simp; omega) | omega))) | ((with_reducible refine Below.alloc ?_ ?_ _); rotate_left; (focus (first | (simp; done) | (simp; omega) | omega))) | ((with_reducible apply below_step1); (focus (with_reducible assumption)))))⟩
          · have tk : (ve.k != 0) = true := by rw [bne_iff_ne]; exact hk0
            have HD := Lib.hid (show (X.node t' ks).fold = constX ve by rw [HE.out, foldN_yes (by rw [HCB.out, HGG.out]) (by rw [HVE.out]; exact hk0), HVE.out])
            clear hev R7 hk0
            go_wp2_with (go_at_call 32; refine hev7.mono ?_; rintro e w8 ⟨rfl, hb8⟩; obtain ⟨hc8, hf8⟩ := bcell hb8; have hz8 := (hb8).size; (try simp at hz8))
            refine bodyPost_ret (by simp [results, Tryz.results24, go_sem, *]; rfl) rfl ?_
            unfold FoPost
            rw [HD.out, ← HPE.out, constX_flat]
            refine ⟨_, _, rfl, ?_, by (repeat (first | (with_reducible exact Below.refl _ _) | (with_reducible assumption) | (with_reducible refine Below.drew ?_) | (with_reducible refine below_drewN ?_ _) | ((with_reducible refine Below.setCell ?_ ?_ _); rotate_left; (focus (first | (simp; done) | (simp; omega) | omega))) | ((with_reducible refine Below.alloc ?_ ?_ _); rotate_left; (focus (first | (simp; done) | (simp; omega) | omega))) | ((with_reducible apply below_step1); (focus (with_reducible assumption)))))⟩
            have := own_new (w8.alloc (.cells #[.int .i64 ve.k, .int .i64 ve.n, .string ve.s] 38)) #[.int .i64 ((⟨1, ve, 0⟩ : T)).op, .int .i64 ((⟨1, ve, 0⟩ : T)).v.k, .int .i64 ((⟨1, ve, 0⟩ : T)).v.n, .string ((⟨1, ve, 0⟩ : T)).v.s, .int .i64 ((⟨1, ve, 0⟩ : T)).c] 48 5 1 (by decide) rfl
            simpa [T.cells] using own_base this (by simp; omega)

def FdPost (w : World) (l : List T) (e : Ending) (w' : World) : Prop :=
  ∃ (A : Option Addr) (c : Nat), e = .returned (.slice A l.length c) ∧ w'.ownsRow w.heap.size 48 5 (.slice A l.length c) l.length (l.flatMap T.cells) ∧ Below w.heap.size w w'
theorem idle_Fold (w : World) : CallsD Tryz.prog 23 #[] .returning w fun e u' w' => e = .returned (.tuple #[]) ∧ u' = .returning ∧ w' = w := by
  refine callsD_of_wpS Tryz.func23 rfl fun c₀ cs hu => ?_
  apply wpS_region
  cases c₀
  simp_all [wpOpsS, go_sem, recoverD, Tryz.ntmps23, bodyPostS, results, Tryz.results23]
set_option maxRecDepth 100000 in
set_option maxHeartbeats 1000000 in
theorem xfold (A : Option Addr) (n c : Nat) (es : List T) (w : World) (hn : n ≤ maxLen) (hr : RowT w w.heap.size A n es) : Calls Tryz.prog 8 #[.slice A n c] w (FdPost w (foldE es)) := by
  have hmf : ∀ (fn : Fn) (first cap : Array Value) (w : World), (Instr.makeFunc fn first cap).run Tryz.prog w = .ok (.func fn first cap) w := fun _ _ _ _ => rfl
  have hvd := xvalidE A n c es w hn hr
  cases hval : validE es
  · rw [hval] at hvd
    have HR := Lib.hid (foldE_bad hval)
    clear hval
    go_enter_defers Tryz.func8, Tryz.ntmps8
    go_wp2_with ((go_at_call 11; refine (hvd).mono ?_; rintro e w1 ⟨rfl, hb1⟩; have hz1 := hb1.size; (try simp at hz1)))
    refine leave_idle idle_Fold (by simp [go_sem]) (by simp [results, Tryz.results8, go_sem]; rfl) ?_
    unfold FdPost
    rw [HR.out]
    exact ⟨none, 0, rfl, World.ownsRow_nil _ _ _ _, by (repeat (first | (with_reducible exact Below.refl _ _) | (with_reducible assumption) | (with_reducible refine Below.drew ?_) | (with_reducible refine below_drewN ?_ _) | ((with_reducible refine Below.setCell ?_ ?_ _); rotate_left; (focus (first | (simp; done) | (simp; omega) | omega))) | ((with_reducible refine Below.alloc ?_ ?_ _); rotate_left; (focus (first | (simp; done) | (simp; omega) | omega))) | ((with_reducible apply below_step1); (focus (with_reducible assumption)))))⟩
  · rw [hval] at hvd
    obtain ⟨x, hx, hfl, hw, hd, hl⟩ := treeE_ok hval
    have hl2 := hr.len
    have HR := Lib.hid (foldE_ok hx)
    have hev := fun w1 hr1 => foldAt_c A n c es (by omega) 16 x [] 0 w1 hd (by omega) hw (by simpa using hfl) hr1
    unfold FoPost at hev
    clear hval hx hfl hw hd hl hl2
    go_enter_defers Tryz.func8, Tryz.ntmps8
    go_wp2_with (first
      | ((go_at_call 11; refine (hvd).mono ?_; rintro e w1 ⟨rfl, hb1⟩; have hz1 := hb1.size; (try simp at hz1)))
      | (go_at_call 24; refine (hev w1 ((hr.below hb1).more hb1.size)).mono ?_; rintro e w2 ⟨A2, c2, rfl, o2, hb2⟩))
    refine leave_idle idle_Fold (by simp [go_sem]) (by simp [results, Tryz.results8, go_sem]; rfl) ?_
    unfold FdPost
    rw [HR.out]
    exact ⟨A2, c2, rfl, own_base o2 hb1.size, below_step hb2 hb1 (Nat.le_refl _)⟩
end Go.Proofs.YtojcabnjodfdmaaGreatDoor
