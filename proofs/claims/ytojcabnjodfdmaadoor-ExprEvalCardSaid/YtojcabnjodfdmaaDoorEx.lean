/- The law ExprEval, the walk; the table of powers of ten is as it is laid. -/
import Derived.Test.YtojcabnjodfdmaaDoorEw
import Derived.Test.YtojcabnjodfdmaaDoorBa
import Derived.Test.YtojcabnjodfdmaaDoorBd
import Derived.Deep.CutBlock
namespace Go.Proofs.YtojcabnjodfdmaaDoor
open Go.RowKit

theorem own_cap {w : World} {base : Nat} {e : TypeId} {size n c : Nat} {A : Option Addr} {xs : List Value} (h : w.ownsRow base e size (.slice A n c) n xs) : n ≤ c ∧ c ≤ maxLen := by
  obtain ⟨A', c', e1, h1, h2⟩ := own_slice h
  injection e1 with _ _ e3
  subst e3
  exact ⟨h1, h2⟩
/-- Two slices as arguments of Eval. -/
def SelXY (w1 : World) (b g : Nat) (v9 v10 : Value) (wx : World) : Prop := ∃ A n c es R m d vs, v9 = .slice A n c ∧ v10 = .slice R m d ∧ n ≤ c ∧ c ≤ maxLen ∧ m ≤ maxLen ∧ RowT wx wx.heap.size A n es ∧ Row wx wx.heap.size R m vs ∧ Tp wx b g ∧ w1.grownBy wx (some b)
def SelArgs (w w1 : World) (v1 v2 : Value) (wx : World) : Prop := ∃ A n c es R m d vs, v1 = .slice A n c ∧ v2 = .slice R m d ∧ n ≤ c ∧ c ≤ maxLen ∧ m ≤ maxLen ∧ RowT w w.heap.size A n es ∧ Row w w.heap.size R m vs ∧ w1 = wx
set_option maxRecDepth 100000 in
set_option maxHeartbeats 4000000 in
theorem exprEval_w (Z A R : Option Addr) (zn zc n c m d : Nat) (zs : List Int) (es : List T) (vs : List V) (w : World) (hz : IntsR w Z zn zc zs) (hn : n ≤ c) (hc : c ≤ maxLen) (hm : m ≤ maxLen) (hr : RowT w w.heap.size A n es) (hv : Row w w.heap.size R m vs) (hG : G w) :
    Calls Tryd.prog 7 #[.slice Z zn zc, .slice A n c, .slice R m d] w fun e w' => e = .returned (.bool true) ∧ Below w.heap.size w w' := by
  have hnew := new_c Z zn zc zs w hz
  clear hz
  go_enter Tryd.func7, Tryd.ntmps7
  go_wp2_with fail
  refine hnew.mono ?_
  rintro e w1 ⟨b, g, rfl, htp, hb0, hg0, hb1⟩
  have hz1 := hb1.size
  have hr1 := hr.to hb1
  have hv1 := hv.to hb1
  have hli := light_c A R n c m d es vs w1 (by omega) hm hr1 hv1
  obtain ⟨lb, hlb⟩ : ∃ lb, lightB es vs = lb := ⟨_, rfl⟩
  rw [hlb] at hli
  clear hlb hnew
  go_upto_if 16 with (go_at_call 13; refine hli.mono ?_; rintro e w2 ⟨rfl, rfl⟩)
  go_cut [1, 2] (fun v1 v2 wx => SelArgs w w1 v1 v2 wx)
  case first =>
    cases lb
    · go_wp2_with fail
      go_meet
      exact ⟨none, 0, 0, [], none, 0, 0, [], rfl, rfl, by omega, by decide, by decide, RowOf.nil_, RowOf.nil_, rfl⟩
    · go_wp2_with fail
      go_meet
      exact ⟨A, n, c, es, R, m, d, vs, rfl, rfl, hn, hc, hm, hr, hv, rfl⟩
  case rest =>
    clear hli hn hc hm hr1 hv1 hr hv
    obtain ⟨A, n, c, es, R, m, d, vs, rfl, rfl, hn, hc, hm, hr, hv, rfl⟩ := hcut
    go_wp2_with fail
    go_loopw [8] (fun v8 wr => ∃ i : Nat, v8 = .int .i64 (i : Int) ∧ i ≤ 5 ∧ Tp wr b g ∧ w1.grownBy wr (some b)) (fun v8 _ => 5 - (intOf v8).toNat)
    case atStart => exact ⟨0, rfl, by omega, htp, grown_refl _ _⟩
    case round =>
      obtain ⟨i, rfl, hi, htr, hgr⟩ := hrel
      have hzr := hgr.size
      by_cases hi5 : i < 5
      · have t5 : (i : Int) < 5 := by omega
        have hiw : IntKind.i64.wrap ((i : Int) + 1) = (i : Int) + 1 := IntWalk.i64_in _ (by omega)
        go_upto_block 2 with (first
          | (go_at_call 15; refine (texpr b g 4 (by omega) (by omega) 3 _ (by omega) (by omega) htr).mono ?_; rintro e w4 ⟨A4, c4, x4, rfl, o4, f4, d4, cl4, ht4, hg4⟩; have hz4 := hg4.size; have HF := Lib.hid f4; have HCL := Lib.hid cl4; clear f4 cl4)
          | (go_at_call 28; refine (trow b g 4 _ (by omega) ht4).mono ?_; rintro e w5 ⟨v5, r5, rfl, o5, ok5, l5, ht5, hg5⟩; have hz5 := hg5.size; have HOK := Lib.hid ok5; clear ok5; obtain ⟨A5, c5, rfl, _, _⟩ := own_slice o5))
        go_cut [9, 10] (fun v9 v10 wx => SelXY w1 b g v9 v10 wx)
        case first =>
          have g5 := grown_trans (grown_trans hgr hg4) hg5
          have hb5 : Below w.heap.size w w5 := hb1.grown g5 hz1 (fun k hk => by injection hk with hk; omega)
          have rx : RowT w5 w5.heap.size A4 x4.flat.length x4.flat := RowOf.of_own (own_tape o4 hg5 (by have := htr.lt; omega)) rfl
          have ry : Row w5 w5.heap.size A5 r5.length r5 := RowOf.of_own o5 rfl
          have sx := X.size4 HF.out (by omega)
          obtain ⟨hc4, hc4'⟩ := own_cap o4
          clear hg4 hg5 hgr o4 o5 ht4 htr
          by_cases h3 : i = 3
          · have t3 : ((i : Int) == 3) = true := by simp; omega
            clear h3
            go_wp2_with fail
            go_meet
            exact ⟨A, n, c, es, _, _, _, _, rfl, rfl, hn, hc, by unfold maxLen; omega, hr.to hb5, ry, ht5, g5⟩
          have t3 : ((i : Int) == 3) = false := by simp; omega
          by_cases h4 : i = 4
          · have t4 : ((i : Int) == 4) = true := by simp; omega
            clear h3 h4
            go_wp2_with fail
            go_meet
            exact ⟨_, _, _, _, R, m, d, vs, rfl, rfl, hc4, hc4', hm, rx, hv.to hb5, ht5, g5⟩
          · have t4 : ((i : Int) == 4) = false := by simp; omega
            clear h3 h4
            go_wp2_with fail
            go_meet
            exact ⟨_, _, _, _, _, _, _, _, rfl, rfl, hc4, hc4', by unfold maxLen; omega, rx, ry, ht5, g5⟩
        case rest =>
          clear hr hv hn hc hm o4 o5 ht4 ht5 hg4 hg5 htr hgr HF HCL HOK d4 l5
          obtain ⟨A, n, c, es, R, m, d, vs, rfl, rfl, hn, hc, hm, hr, hv, htr, hgr⟩ := hcut
          have hbx : Below w.heap.size w wc := hb1.grown hgr hz1 (fun k hk => by injection hk with hk; omega)
          have X1 := fun w1 h1 h2 => xeval A R n c m d es vs w1 (by omega) hm h1 h2
          have X2 := fun w1 h1 h2 => rval_c A R n c m d es vs w1 hn hc hm h1 h2
          have X3 := fun w1 h1 h2 => xholds A R n c m d es vs w1 (by omega) hm h1 h2
          have X4 := fun w1 h1 h2 => rholds_c A R n c m d es vs w1 hn hc hm h1 h2
          have hneq := neq_self (evalE es vs)
          generalize evalE es vs = ev at X1 X2 X3 X4 hneq
          generalize isTrueV ev = tv at X3 X4
          go_wp2_with (first
            | (go_at_call 24; refine (X1 _ (by exact hr) (by exact hv)).mono ?_; rintro e w11 ⟨rfl, hb11⟩; have hz11 := hb11.size; (try simp at hz11))
            | (go_at_call 25; refine (X2 _ (by exact hr.to (by (repeat (first | (with_reducible exact Below.refl _ _) | (with_reducible assumption) | (with_reducible refine Below.drew ?_) | (with_reducible refine below_drewN ?_ _) | ((with_reducible refine Below.setCell ?_ ?_ _); rotate_left; (focus (first | (simp; done) | (simp; omega) | omega))) | ((with_reducible refine Below.alloc ?_ ?_ _); rotate_left; (focus (first | (simp; done) | (simp; omega) | omega))) | ((with_reducible apply below_step1); (focus (with_reducible assumption))))))) (by exact hv.to (by (repeat (first | (with_reducible exact Below.refl _ _) | (with_reducible assumption) | (with_reducible refine Below.drew ?_) | (with_reducible refine below_drewN ?_ _) | ((with_reducible refine Below.setCell ?_ ?_ _); rotate_left; (focus (first | (simp; done) | (simp; omega) | omega))) | ((with_reducible refine Below.alloc ?_ ?_ _); rotate_left; (focus (first | (simp; done) | (simp; omega) | omega))) | ((with_reducible apply below_step1); (focus (with_reducible assumption)))))))).mono ?_; rintro e w12 ⟨rfl, hb12⟩; have hz12 := hb12.size; (try simp at hz12))
            | (go_at_call 29; refine (X3 _ (by exact hr.to (by (repeat (first | (with_reducible exact Below.refl _ _) | (with_reducible assumption) | (with_reducible refine Below.drew ?_) | (with_reducible refine below_drewN ?_ _) | ((with_reducible refine Below.setCell ?_ ?_ _); rotate_left; (focus (first | (simp; done) | (simp; omega) | omega))) | ((with_reducible refine Below.alloc ?_ ?_ _); rotate_left; (focus (first | (simp; done) | (simp; omega) | omega))) | ((with_reducible apply below_step1); (focus (with_reducible assumption))))))) (by exact hv.to (by (repeat (first | (with_reducible exact Below.refl _ _) | (with_reducible assumption) | (with_reducible refine Below.drew ?_) | (with_reducible refine below_drewN ?_ _) | ((with_reducible refine Below.setCell ?_ ?_ _); rotate_left; (focus (first | (simp; done) | (simp; omega) | omega))) | ((with_reducible refine Below.alloc ?_ ?_ _); rotate_left; (focus (first | (simp; done) | (simp; omega) | omega))) | ((with_reducible apply below_step1); (focus (with_reducible assumption)))))))).mono ?_; rintro e w13 ⟨rfl, hb13⟩; have hz13 := hb13.size; (try simp at hz13))
            | (go_at_call 30; refine (X4 _ (by exact hr.to (by (repeat (first | (with_reducible exact Below.refl _ _) | (with_reducible assumption) | (with_reducible refine Below.drew ?_) | (with_reducible refine below_drewN ?_ _) | ((with_reducible refine Below.setCell ?_ ?_ _); rotate_left; (focus (first | (simp; done) | (simp; omega) | omega))) | ((with_reducible refine Below.alloc ?_ ?_ _); rotate_left; (focus (first | (simp; done) | (simp; omega) | omega))) | ((with_reducible apply below_step1); (focus (with_reducible assumption))))))) (by exact hv.to (by (repeat (first | (with_reducible exact Below.refl _ _) | (with_reducible assumption) | (with_reducible refine Below.drew ?_) | (with_reducible refine below_drewN ?_ _) | ((with_reducible refine Below.setCell ?_ ?_ _); rotate_left; (focus (first | (simp; done) | (simp; omega) | omega))) | ((with_reducible refine Below.alloc ?_ ?_ _); rotate_left; (focus (first | (simp; done) | (simp; omega) | omega))) | ((with_reducible apply below_step1); (focus (with_reducible assumption)))))))).mono ?_; rintro e w14 ⟨rfl, hb14⟩; have hz14 := hb14.size; (try simp at hz14)))
          go_roundw
          case rel =>
            go_light
            exact ⟨i + 1, by go_num, by omega, by (repeat (first | (with_reducible assumption) | (with_reducible refine Tp.drew ?_) | (with_reducible refine Tp.drewN ?_ _) | (with_reducible refine Tp.alloc ?_ _) | ((with_reducible refine Tp.setFar ?_ ?_ ?_ _); rotate_left; (focus (first | (simp; done) | (simp; omega) | omega)); (focus (first | (simp; done) | (simp; omega) | omega))) | ((with_reducible apply Tp.step); (focus (with_reducible assumption))))), by (repeat (first | (with_reducible exact grown_refl _ _) | (with_reducible assumption) | (with_reducible refine only_drew ?_) | (with_reducible refine only_drewN ?_ _) | ((with_reducible refine only_setCell ?_ ?_ _); rotate_left; (focus (first | (simp; done) | (simp; omega) | omega | (right; simp; done) | (right; simp; omega) | (right; omega)))) | (with_reducible refine only_alloc ?_ _) | ((with_reducible apply only_step); (focus (with_reducible assumption))) | ((with_reducible apply only_trans); (focus (with_reducible assumption)))))⟩
          case measure => simp [intOf]; omega
      · have t5 : ¬ (i : Int) < 5 := by omega
        have hbx : Below w.heap.size w wr := hb1.grown hgr hz1 (fun k hk => by injection hk with hk; omega)
        go_wp2_with ((go_at_call 20; refine (awake_c _ (by exact hG.below (by (repeat (first | (with_reducible exact Below.refl _ _) | (with_reducible assumption) | (with_reducible refine Below.drew ?_) | (with_reducible refine below_drewN ?_ _) | ((with_reducible refine Below.setCell ?_ ?_ _); rotate_left; (focus (first | (simp; done) | (simp; omega) | omega))) | ((with_reducible refine Below.alloc ?_ ?_ _); rotate_left; (focus (first | (simp; done) | (simp; omega) | omega))) | ((with_reducible apply below_step1); (focus (with_reducible assumption)))))))).mono ?_; rintro e w11 ⟨rfl, hb11⟩; have hz11 := hb11.size; (try simp at hz11)))
        go_ret
        exact ⟨rfl, by (repeat (first | (with_reducible exact Below.refl _ _) | (with_reducible assumption) | (with_reducible refine Below.drew ?_) | (with_reducible refine below_drewN ?_ _) | ((with_reducible refine Below.setCell ?_ ?_ _); rotate_left; (focus (first | (simp; done) | (simp; omega) | omega))) | ((with_reducible refine Below.alloc ?_ ?_ _); rotate_left; (focus (first | (simp; done) | (simp; omega) | omega))) | ((with_reducible apply below_step1); (focus (with_reducible assumption)))))⟩
end Go.Proofs.YtojcabnjodfdmaaDoor
