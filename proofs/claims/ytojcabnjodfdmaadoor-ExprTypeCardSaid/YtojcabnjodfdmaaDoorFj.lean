/- Contract of the reference's Type. -/
import Derived.Test.YtojcabnjodfdmaaDoorFi
namespace Go.Proofs.YtojcabnjodfdmaaDoor
open Go.RowKit

theorem tyd_ok {op a b c k : Int} (h : opT op a b c = .ok k) : tyd op a b c = k := by unfold tyd; rw [h]
theorem tyd_err {op a b c e : Int} (h : opT op a b c = .error e) : tyd op a b c = 0 := by unfold tyd; rw [h]
set_option maxRecDepth 100000 in
set_option maxHeartbeats 4000000 in
theorem rtypeOf_c (R : Option Addr) (m d : Nat) (types : List Int) (hm : m ≤ maxLen) (hT : ∀ z ∈ types, z = 1 ∨ z = 2) : ∀ (f : Nat) (x : X) (b off n c : Nat) (w : World), x.depth ≤ f → f ≤ 17 → x.wf = true → n ≤ c → c ≤ maxLen → n ≤ 1000 → RowT w w.heap.size (some ⟨b, off, none⟩) n x.flat → RowI w w.heap.size R m types → Calls Tryd.prog 57 #[.slice (some ⟨b, off, none⟩) n c, .slice R m d] w (TyePost w (tyRes (x.ty types))) := by
  intro f
  induction f with
  | zero => intro x b off n c w hd; have := x.depth_pos; omega
  | succ f ih =>
    intro x b off n c w hd hf hw hnc hcm hn hr hv
    obtain ⟨t, ks⟩ := x
    have hr' := hr
    rw [X.flat_node] at hr'
    obtain ⟨b', off', e1, hb, c0, c1, c2, c3, c4⟩ := RowT.head5 hr'
    injection e1 with e1
    injection e1 with e1 e2
    subst e1 e2
    have hn1 : 0 < n := by have := hr'.len; simp at this; omega
    clear hr'
    have h12 := X.ty_12 types hT _ hw
    have hw2 := hw
    simp only [X.wf, Bool.and_eq_true, decide_eq_true_eq] at hw2
    obtain ⟨hok, hkl, hkw⟩ := hw2
    have hop := term_op hok
    have HE := Lib.hid (show (X.node t ks).ty types = (match tys types ks with | .error e => .error e | .ok l => termT types t l) by rw [X.ty]; cases tys types ks <;> rfl)
    generalize (X.node t ks).ty types = ve at HE h12
    have H12 := Lib.hid h12
    clear h12
    have hks0 : (t.op = 1 ∨ t.op = 2) → ks = [] := fun h => by
      have h0 : ar t.op = 0 := by
        unfold ar arity
        rw [if_pos h]
        rfl
      exact List.eq_nil_of_length_eq_zero (by omega)
    by_cases h1 : t.op = 1
    · have t1 : (t.op == 1) = true := by simpa using h1
      have hk := hks0 (.inl h1)
      subst hk
      have HR := Lib.hid (show ve = .ok t.v.k by
        rw [HE.out]
        simp only [tys]
        unfold termT
        rw [if_neg (by omega), if_pos h1])
      clear h1 hop hok hkl hkw hw hks0
      go_enter Tryd.func57, Tryd.ntmps57
      go_wp2_with fail
      refine bodyPost_ret (by simp [results, Tryd.results57, go_sem]; rfl) rfl ?_
      rw [HR.out]
      exact ⟨rfl, by (repeat (first | (with_reducible exact Below.refl _ _) | (with_reducible assumption) | (with_reducible refine Below.drew ?_) | (with_reducible refine below_drewN ?_ _) | ((with_reducible refine Below.setCell ?_ ?_ _); rotate_left; (focus (first | (simp; done) | (simp; omega) | omega))) | ((with_reducible refine Below.alloc ?_ ?_ _); rotate_left; (focus (first | (simp; done) | (simp; omega) | omega))) | ((with_reducible apply below_step1); (focus (with_reducible assumption)))))⟩
    have t1 : (t.op == 1) = false := by simpa using h1
    by_cases h2 : t.op = 2
    · have t2 : (t.op == 2) = true := by simpa using h2
      have hk := hks0 (.inr h2)
      subst hk
      have hc0 := (term_col hok h2).1
      have hl := hv.len
      have hm' := hm
      unfold maxLen at hm'
      by_cases hc : t.c ≥ types.length
      · have HR := Lib.hid (show ve = .error 3 by
          rw [HE.out]
          simp only [tys]
          unfold termT
          rw [if_pos ⟨h2, hc⟩])
        have h3 : (m : Int) ≤ t.c := by omega
        clear h1 h2 hop hok hkl hkw hw hks0 hc hl
        go_enter Tryd.func57, Tryd.ntmps57
        go_wp2_with fail
        refine bodyPost_ret (by simp [results, Tryd.results57, go_sem]; rfl) rfl ?_
        rw [HR.out]
        exact ⟨rfl, by (repeat (first | (with_reducible exact Below.refl _ _) | (with_reducible assumption) | (with_reducible refine Below.drew ?_) | (with_reducible refine below_drewN ?_ _) | ((with_reducible refine Below.setCell ?_ ?_ _); rotate_left; (focus (first | (simp; done) | (simp; omega) | omega))) | ((with_reducible refine Below.alloc ?_ ?_ _); rotate_left; (focus (first | (simp; done) | (simp; omega) | omega))) | ((with_reducible apply below_step1); (focus (with_reducible assumption)))))⟩
      · obtain ⟨i, hi⟩ := Int.eq_ofNat_of_zero_le hc0
        obtain ⟨b2, off2, z, rfl, hb2, hs, hcell⟩ := RowI.at1 hv (show i < m by omega)
        have HR := Lib.hid (show ve = .ok z by
          rw [HE.out]
          simp only [tys]
          unfold termT
          rw [if_neg (fun h => hc h.2), if_neg h1, if_pos h2, hi, Int.toNat_natCast, List.getD_eq_getElem?_getD, hs]
          rfl)
        have h3 : ¬ (m : Int) ≤ (i : Int) := by omega
        have h4 : (i : Int) < (m : Int) := by omega
        have h5 : (0 : Int) ≤ (i : Int) := by omega
        rw [hi] at c4
        clear h1 h2 hop hok hkl hkw hw hks0 hc hl hi hs hc0
        go_enter Tryd.func57, Tryd.ntmps57
        go_wp2_with fail
        refine bodyPost_ret (by simp [results, Tryd.results57, go_sem]; rfl) rfl ?_
        rw [HR.out]
        exact ⟨rfl, by (repeat (first | (with_reducible exact Below.refl _ _) | (with_reducible assumption) | (with_reducible refine Below.drew ?_) | (with_reducible refine below_drewN ?_ _) | ((with_reducible refine Below.setCell ?_ ?_ _); rotate_left; (focus (first | (simp; done) | (simp; omega) | omega))) | ((with_reducible refine Below.alloc ?_ ?_ _); rotate_left; (focus (first | (simp; done) | (simp; omega) | omega))) | ((with_reducible apply below_step1); (focus (with_reducible assumption)))))⟩
    have t2 : (t.op == 2) = false := by simpa using h2
    have hk3 : ks.length ≤ 3 := by have := ar_le t.op; omega
    have hdk : deepest ks + 1 ≤ f + 1 := hd
    have hops := fun w hr1 => operands_c b off n c t ks w hn hnc hcm hw (by omega) hr1
    have HT := Lib.hid (show ∀ l, tys types ks = .ok l → ve = opT t.op (l.getD 0 0) (l.getD 1 0) (l.getD 2 0) by
      intro l hl
      rw [HE.out, hl]
      simp only
      unfold termT
      rw [if_neg (fun h => h2 h.1), if_neg h1, if_neg h2])
    have hop2 : 3 ≤ t.op ∧ t.op ≤ 18 := by omega
    have HKW := Lib.hid hkw
    have HKL := Lib.hid hkl
    clear hop hok hkl hw h1 h2 hd hkw hks0
    go_enter Tryd.func57, Tryd.ntmps57
    go_wp2_with (go_at_call 69; refine (hops _ (by exact hr)).mono ?_; rintro e w1 ⟨lv, rfl, ol, hb1⟩; obtain ⟨LA, lc, rfl, _, hlc⟩ := own_slice ol; have hz1 := hb1.size)
    have HOL := Lib.hid ol
    clear ol
    go_loopw [6, 8] (fun v6 v8 wr => ∃ (i : Nat) (l : List Int), i ≤ ks.length ∧ v8 = .int .i64 (i : Int) ∧ Hid (tys types (ks.take i) = .ok l) ∧ Hid (l.length = i) ∧ wr.ownsRow w1.heap.size 3 1 v6 i (l.flatMap (fun z => [Value.int .i64 z])) ∧ Below w1.heap.size w1 wr) (fun _ v8 _ => ks.length - (intOf v8).toNat)
    case atStart => exact ⟨0, [], Nat.zero_le _, rfl, (show tys types (ks.take 0) = .ok [] by simp [tys]), (rfl : ([] : List Int).length = 0), World.ownsRow_nil _ _ _ _, by (repeat (first | (with_reducible exact Below.refl _ _) | (with_reducible assumption) | (with_reducible refine Below.drew ?_) | (with_reducible refine below_drewN ?_ _) | ((with_reducible refine Below.setCell ?_ ?_ _); rotate_left; (focus (first | (simp; done) | (simp; omega) | omega))) | ((with_reducible refine Below.alloc ?_ ?_ _); rotate_left; (focus (first | (simp; done) | (simp; omega) | omega))) | ((with_reducible apply below_step1); (focus (with_reducible assumption)))))⟩
    case round =>
      obtain ⟨i, l, hi, rfl, HTL, HLL, hown, hbel⟩ := hrel
      have hzz := hbel.size
      by_cases hlt : i < ks.length
      · have hki : ks[i]? = some ks[i] := List.getElem?_eq_getElem hlt
        generalize ks[i] = k at hki
        obtain ⟨k1, k2, k3⟩ := kid_in hki
        obtain ⟨g, q, rfl, hg, hg0, _, hkn, hcell, hqn, hpart⟩ := ops_at (w := w) HOL.out hr hki hb1
        have hcell2 : wr.cell? ⟨g, i, none⟩ = some (.slice (some ⟨b, off + q * 5, none⟩) k.flat.length (c - q)) := (hbel.cell (p := ⟨g, i, none⟩) hg).trans hcell
        have hwr : Below w.heap.size w wr := by (repeat (first | (with_reducible exact Below.refl _ _) | (with_reducible assumption) | (with_reducible refine Below.drew ?_) | (with_reducible refine below_drewN ?_ _) | ((with_reducible refine Below.setCell ?_ ?_ _); rotate_left; (focus (first | (simp; done) | (simp; omega) | omega))) | ((with_reducible refine Below.alloc ?_ ?_ _); rotate_left; (focus (first | (simp; done) | (simp; omega) | omega))) | ((with_reducible apply below_step1); (focus (with_reducible assumption)))))
        have ihe := ih k b (off + q * 5) k.flat.length (c - q) wr (by omega) (by omega) (k2 HKW.out) (by omega) (by omega) (by omega) ((hpart.below hwr).more hwr.size) ((hv.below hwr).more hwr.size)
        have h0 : (0 : Int) ≤ (i : Int) := by omega
        have h1 : (i : Int) < (ks.length : Int) := by omega
        have hiw : IntKind.i64.wrap ((i : Int) + 1) = (i : Int) + 1 := IntWalk.i64_in _ (by omega)
        cases hkt : k.ty types with
        | error er =>
          rw [hkt] at ihe
          unfold TyePost at ihe
          simp only [tyRes] at ihe
          have hne := X.ty_err types k er hkt
          have HR := Lib.hid (show ve = .error er by rw [HE.out, tys_fail HTL.out hki hkt])
          have ter : (er != 0) = true := by rw [bne_iff_ne]; omega
          clear hki k1 k2 k3 ih hcell hpart hr hv hkt
          go_wp2_with (go_at_call 57; refine ihe.mono ?_; rintro e2 w2 ⟨rfl, hb2⟩)
          refine bodyPost_ret (by simp [results, Tryd.results57, go_sem]; rfl) rfl ?_
          rw [HR.out]
          exact ⟨rfl, by (repeat (first | (with_reducible exact Below.refl _ _) | (with_reducible assumption) | (with_reducible refine Below.drew ?_) | (with_reducible refine below_drewN ?_ _) | ((with_reducible refine Below.setCell ?_ ?_ _); rotate_left; (focus (first | (simp; done) | (simp; omega) | omega))) | ((with_reducible refine Below.alloc ?_ ?_ _); rotate_left; (focus (first | (simp; done) | (simp; omega) | omega))) | ((with_reducible apply below_step1); (focus (with_reducible assumption)))))⟩
        | ok kt =>
          rw [hkt] at ihe
          unfold TyePost at ihe
          simp only [tyRes] at ihe
          have HS := Lib.hid (tys_succ HTL.out hki hkt)
          clear hki k1 k2 k3 ih hcell hpart hr hv hkt
          go_wp2_with (first
            | (go_at_call 57; refine ihe.mono ?_; rintro e2 w2 ⟨rfl, hb2⟩; have hz2 := hb2.size; have own2 := own_below hown hb2)
            | (at_builtin; refine wpList_app (v := u6) rfl _ _ stI rfl rfl (own2) rfl (by simp) rfl (by simp [Value.oneCell']) (by omega) (by omega) ?_; intro v' w3 own3 hg3 hat3))
          have hb3 := below_app (below_step hb2 hbel (Nat.le_refl _)) own2 hg3 (Nat.le_refl _) (by omega)
          go_roundw
          case rel =>
            refine ⟨i + 1, l ++ [kt], by omega, by go_num, HS, (show (l ++ [kt]).length = i + 1 by simp [HLL.out]), ?_, hb3⟩
            rw [List.flatMap_append]
            exact own3
          case measure => simp [intOf]; omega
      · obtain rfl : i = ks.length := by omega
        have htl := HTL.out
        rw [List.take_length] at htl
        obtain ⟨A6, c6, rfl, _, _⟩ := own_slice hown
        have hrow : RowI wr wr.heap.size A6 ks.length l := RowOf.of_own hown HLL.out
        have htd := rtyped t.op A6 ks.length c6 l wr hop2 (by rw [HLL.out]; exact HKL.out) hrow
        have HV := Lib.hid (HT.out l htl)
        obtain ⟨hc2, hf2⟩ := bcell hbel
        obtain ⟨hc1, hf1⟩ := bcell hb1
        have hlt2 : ¬ (ks.length : Int) < (ks.length : Int) := by omega
        have hb2 : b < w1.heap.size := by omega
        clear ih hr hv htl
        cases hty : opT t.op (l.getD 0 0) (l.getD 1 0) (l.getD 2 0) with
        | ok kt =>
          rw [tyd_ok hty] at htd
          rw [hty] at HV
          have hk12 := H12.out kt HV.out
          have tk : (kt == 0) = false := by simp; omega
          clear hty
          go_wp2_with (go_at_call 77; refine htd.mono ?_; rintro e2 w3 ⟨rfl, hb3⟩)
          refine bodyPost_ret (by simp [results, Tryd.results57, go_sem]; rfl) rfl ?_
          rw [HV.out]
          exact ⟨rfl, by (repeat (first | (with_reducible exact Below.refl _ _) | (with_reducible assumption) | (with_reducible refine Below.drew ?_) | (with_reducible refine below_drewN ?_ _) | ((with_reducible refine Below.setCell ?_ ?_ _); rotate_left; (focus (first | (simp; done) | (simp; omega) | omega))) | ((with_reducible refine Below.alloc ?_ ?_ _); rotate_left; (focus (first | (simp; done) | (simp; omega) | omega))) | ((with_reducible apply below_step1); (focus (with_reducible assumption)))))⟩
        | error er =>
          rw [tyd_err hty] at htd
          have her : er = 5 := by
            have h5 : ∀ (p : Prop) [Decidable p] (k' : Int), (if p then (Except.ok k' : Except Int Int) else .error 5) = .error er → er = 5 := by
              intro p _ k' hh
              split at hh
              · cases hh
              · injection hh with hh; omega
            unfold opT at hty
            repeat (first | exact h5 _ _ hty | (cases hty; done) | (split at hty; · exact h5 _ _ hty) | (split at hty; · cases hty))
          rw [hty, her] at HV
          clear hty her
          go_wp2_with (go_at_call 77; refine htd.mono ?_; rintro e2 w3 ⟨rfl, hb3⟩)
          refine bodyPost_ret (by simp [results, Tryd.results57, go_sem]; rfl) rfl ?_
          rw [HV.out]
          exact ⟨rfl, by (repeat (first | (with_reducible exact Below.refl _ _) | (with_reducible assumption) | (with_reducible refine Below.drew ?_) | (with_reducible refine below_drewN ?_ _) | ((with_reducible refine Below.setCell ?_ ?_ _); rotate_left; (focus (first | (simp; done) | (simp; omega) | omega))) | ((with_reducible refine Below.alloc ?_ ?_ _); rotate_left; (focus (first | (simp; done) | (simp; omega) | omega))) | ((with_reducible apply below_step1); (focus (with_reducible assumption)))))⟩
set_option maxRecDepth 100000 in
set_option maxHeartbeats 4000000 in
theorem rtype (A R : Option Addr) (n c m d : Nat) (es : List T) (types : List Int) (w : World) (hn : n ≤ c) (hc : c ≤ maxLen) (hm : m ≤ maxLen) (hr : RowT w w.heap.size A n es) (hv : RowI w w.heap.size R m types) : Calls Tryd.prog 36 #[.slice A n c, .slice R m d] w (TyePost w (typeE es types)) := by
  have hvd := rvalidE A n c es w (by omega) hr
  have HM := Lib.hid hv.len
  cases hval : validE es
  · rw [hval] at hvd
    have HE := Lib.hid (typeE_bad types hval)
    clear hval
    go_enter Tryd.func36, Tryd.ntmps36
    go_wp2_with ((go_at_call 19; refine (hvd).mono ?_; rintro e w1 ⟨rfl, hb1⟩; have hz1 := hb1.size; (try simp at hz1)))
    refine bodyPost_ret (by simp [results, Tryd.results36, go_sem]; rfl) rfl ?_
    rw [HE.out]
    exact ⟨rfl, by (repeat (first | (with_reducible exact Below.refl _ _) | (with_reducible assumption) | (with_reducible refine Below.drew ?_) | (with_reducible refine below_drewN ?_ _) | ((with_reducible refine Below.setCell ?_ ?_ _); rotate_left; (focus (first | (simp; done) | (simp; omega) | omega))) | ((with_reducible refine Below.alloc ?_ ?_ _); rotate_left; (focus (first | (simp; done) | (simp; omega) | omega))) | ((with_reducible apply below_step1); (focus (with_reducible assumption)))))⟩
  rw [hval] at hvd
  obtain ⟨x, hx, hfl, hw, hd, hl⟩ := treeE_ok hval
  have hl2 := hr.len
  obtain ⟨b, off, rfl⟩ : ∃ b off, A = some ⟨b, off, none⟩ := by
    obtain ⟨b, off, t, h, _⟩ := RowT.at5 hr (k := 0) (by have := x.flat_pos; rw [← hfl] at this; omega)
    exact ⟨b, off, h⟩
  subst hfl
  have hev := fun hT w1 hr1 hv1 => rtypeOf_c R m d types hm hT 16 x b off n c w1 hd (by omega) hw hn hc (by omega) hr1 hv1
  have HX := Lib.hid hx
  clear hval hx hw hd hl hl2
  unfold maxLen at hm
  go_enter Tryd.func36, Tryd.ntmps36
  go_wp2_with ((go_at_call 19; refine (hvd).mono ?_; rintro e w1 ⟨rfl, hb1⟩; have hz1 := hb1.size; (try simp at hz1)))
  go_loopw [6] (fun v16 wr => ∃ k : Nat, v16 = .int .i64 (k : Int) ∧ k ≤ m ∧ Hid ((types.take k).all okT = true) ∧ Below w.heap.size w wr) (fun v16 _ => m - (intOf v16).toNat)
  case atStart => exact ⟨0, rfl, by omega, rfl, by (repeat (first | (with_reducible exact Below.refl _ _) | (with_reducible assumption) | (with_reducible refine Below.drew ?_) | (with_reducible refine below_drewN ?_ _) | ((with_reducible refine Below.setCell ?_ ?_ _); rotate_left; (focus (first | (simp; done) | (simp; omega) | omega))) | ((with_reducible refine Below.alloc ?_ ?_ _); rotate_left; (focus (first | (simp; done) | (simp; omega) | omega))) | ((with_reducible apply below_step1); (focus (with_reducible assumption)))))⟩
  case round =>
    obtain ⟨k, rfl, hk, hH, hbel⟩ := hrel
    have hzz := hbel.size
    by_cases hlt : k < m
    · have h1 : (k : Int) < (m : Int) := by omega
      have h0 : (0 : Int) ≤ (k : Int) := by omega
      have hkw : IntKind.i64.wrap ((k : Int) + 1) = (k : Int) + 1 := IntWalk.i64_in _ (by omega)
      obtain ⟨b', off', z, rfl, hb, hz, hcell⟩ := RowI.at1 ((hv.below hbel).more hzz) hlt
      have HZ := Lib.hid hz
      clear hz
      by_cases z1 : z = 1
      · have t1 : (z != 1) = false := by simpa using z1
        have HO := Lib.hid (show okT z = true by rw [okT_iff]; exact .inl z1)
        clear z1
        go_wp2_with fail
        go_roundw
        case rel => exact ⟨k + 1, by go_num, by omega, by show _ = true; rw [take_all_succ _ _ _ _ HZ.out, hH.out, HO.out]; rfl, hbel⟩
        case measure => simp [intOf]; omega
      have t1 : (z != 1) = true := by simpa using z1
      by_cases z2 : z = 2
      · have t2 : (z != 2) = false := by simpa using z2
        have HO := Lib.hid (show okT z = true by rw [okT_iff]; exact .inr z2)
        clear z1 z2
        go_wp2_with fail
        go_roundw
        case rel => exact ⟨k + 1, by go_num, by omega, by show _ = true; rw [take_all_succ _ _ _ _ HZ.out, hH.out, HO.out]; rfl, hbel⟩
        case measure => simp [intOf]; omega
      · have t2 : (z != 2) = true := by simpa using z2
        have HE := Lib.hid (typeE_types (es := x.flat) (all_not_at okT types k z HZ.out (by rw [Bool.eq_false_iff, Ne, okT_iff]; omega)))
        clear z1 z2
        go_wp2_with fail
        refine bodyPost_ret (by simp [results, Tryd.results36, go_sem]; rfl) rfl ?_
        rw [HE.out]
        exact ⟨rfl, by (repeat (first | (with_reducible exact Below.refl _ _) | (with_reducible assumption) | (with_reducible refine Below.drew ?_) | (with_reducible refine below_drewN ?_ _) | ((with_reducible refine Below.setCell ?_ ?_ _); rotate_left; (focus (first | (simp; done) | (simp; omega) | omega))) | ((with_reducible refine Below.alloc ?_ ?_ _); rotate_left; (focus (first | (simp; done) | (simp; omega) | omega))) | ((with_reducible apply below_step1); (focus (with_reducible assumption)))))⟩
    · have h1 : ¬ (k : Int) < (m : Int) := by omega
      have hall : types.all okT = true := by
        have := hH.out
        rwa [List.take_of_length_le (by rw [HM.out]; omega)] at this
      have HE := Lib.hid (typeE_ok HX.out hall)
      have hev2 := hev (fun z hz => okT_iff.1 (List.all_eq_true.1 hall z hz)) wr ((hr.below hbel).more hzz) ((hv.below hbel).more hzz)
      clear hev hall hH
      unfold TyePost at hev2
      generalize tyRes (x.ty types) = tr at hev2 HE
      obtain ⟨tk, te⟩ := tr
      simp only at hev2
      go_wp2_with (go_at_call 57; refine hev2.mono ?_; rintro e2 w2 ⟨rfl, hb2⟩)
      refine bodyPost_ret (by simp [results, Tryd.results36, go_sem]; rfl) rfl ?_
      rw [HE.out]
      exact ⟨rfl, by (repeat (first | (with_reducible exact Below.refl _ _) | (with_reducible assumption) | (with_reducible refine Below.drew ?_) | (with_reducible refine below_drewN ?_ _) | ((with_reducible refine Below.setCell ?_ ?_ _); rotate_left; (focus (first | (simp; done) | (simp; omega) | omega))) | ((with_reducible refine Below.alloc ?_ ?_ _); rotate_left; (focus (first | (simp; done) | (simp; omega) | omega))) | ((with_reducible apply below_step1); (focus (with_reducible assumption)))))⟩
end Go.Proofs.YtojcabnjodfdmaaDoor
