/- The law ExprType, the walk; the table of powers of ten is as it is laid. -/
import Derived.Test.YtojcabnjodfdmaaDoorFj
import Derived.Test.YtojcabnjodfdmaaDoorBd
import Derived.Test.YtojcabnjodfdmaaDoorTm
import Derived.Deep.DeepCutAuto
namespace Go.Proofs.YtojcabnjodfdmaaDoor
open Go.RowKit

theorem own_cap {w : World} {base : Nat} {e : TypeId} {size n c : Nat} {A : Option Addr} {xs : List Value} (h : w.ownsRow base e size (.slice A n c) n xs) : n ≤ c ∧ c ≤ maxLen := by
  obtain ⟨A', c', e1, h1, h2⟩ := own_slice h
  injection e1 with _ _ e3
  subst e3
  exact ⟨h1, h2⟩
theorem icells_flat (zs : List Int) : zs.flatMap (fun z => [Value.int .i64 z]) = icells zs := by
  induction zs with
  | nil => rfl
  | cons z zs ih => simp only [List.flatMap_cons, ih]; rfl
theorem rowI_ints {w : World} {A : Option Addr} {n c : Nat} {zs : List Int} (h : IntsR w A n c zs) : RowI w w.heap.size A n zs := ⟨h.len, by rw [icells_flat]; exact h.rd⟩
theorem rowI_take {w : World} {B : Nat} {A : Option Addr} {n : Nat} {zs : List Int} (h : RowI w B A n zs) {k : Nat} (hk : k ≤ n) : RowI w B A k (zs.take k) := by
  refine ⟨by rw [List.length_take, h.len]; omega, fun hne => ?_⟩
  have hx : zs.flatMap (fun z => [Value.int .i64 z]) = (zs.take k).flatMap (fun z => [Value.int .i64 z]) ++ (zs.drop k).flatMap (fun z => [Value.int .i64 z]) := by
    conv => lhs; rw [← List.take_append_drop k zs]
    rw [List.flatMap_append]
  obtain ⟨b, off, e, hb, hc⟩ := h.rd (by rw [hx]; intro h0; exact hne (List.append_eq_nil_iff.1 h0).1)
  refine ⟨b, off, e, hb, fun j u hu => hc j u ?_⟩
  rw [hx, List.getElem?_append_left (List.getElem?_eq_some_iff.1 hu).1]
  exact hu
/-- A block of numbers as a row. -/
theorem rowI_blk {w : World} {lb n : Nat} {cs : Array Value} {t : TypeId} {zs : List Int} (hc : w.heap[lb]? = some (.cells cs t (0, 0))) (hn : zs.length = n) (hz : cs.toList = zs.flatMap (fun z => [Value.int .i64 z])) : RowI w w.heap.size (some ⟨lb, 0, none⟩) n zs := by
  have hlt : lb < w.heap.size := by
    rcases Nat.lt_or_ge lb w.heap.size with hl | hl
    · exact hl
    · rw [Array.getElem?_eq_none hl] at hc; cases hc
  obtain ⟨cc, _⟩ := blk_rules hc
  refine ⟨hn, fun _ => ⟨lb, 0, rfl, hlt, fun j u hu => ?_⟩⟩
  rw [← hz] at hu
  rw [Nat.zero_add, cc j]
  simpa using hu
def SelTA (w w1 : World) (v1 v2 : Value) (wx : World) : Prop := ∃ A n c es I m d types, v1 = .slice A n c ∧ v2 = .slice I m d ∧ n ≤ c ∧ c ≤ maxLen ∧ m ≤ 20 ∧ RowT w w.heap.size A n es ∧ RowI w w.heap.size I m types ∧ w1 = wx
def SelTy (w1 : World) (b g : Nat) (v10 v11 : Value) (wx : World) : Prop := ∃ A n c es I m d types, v10 = .slice A n c ∧ v11 = .slice I m d ∧ n ≤ c ∧ c ≤ maxLen ∧ m ≤ 1000 ∧ RowT wx wx.heap.size A n es ∧ RowI wx wx.heap.size I m types ∧ Tp wx b g ∧ w1.grownBy wx (some b)
set_option maxRecDepth 100000 in
set_option maxHeartbeats 8000000 in
theorem exprType_w (Z A I : Option Addr) (zn zc n c m d : Nat) (zs : List Int) (es : List T) (types : List Int) (w : World) (hz : IntsR w Z zn zc zs) (hn : n ≤ c) (hc : c ≤ maxLen) (hr : RowT w w.heap.size A n es) (hvi : IntsR w I m d types) (hG : G w) :
    Calls Tryd.prog 10 #[.slice Z zn zc, .slice A n c, .slice I m d] w fun e w' => e = .returned (.bool true) ∧ Below w.heap.size w w' := by
  have hnew := new_c Z zn zc zs w hz
  have hm := hvi.size
  have hv := rowI_ints hvi
  clear hz hvi
  go_enter Tryd.func10, Tryd.ntmps10
  go_wp2_with fail
  refine hnew.mono ?_
  rintro e w1 ⟨b, g, rfl, htp, hb0, hg0, hb1⟩
  have hz1 := hb1.size
  have hr1 := hr.to hb1
  have hli := light_c A none n c 0 0 es [] w1 (by omega) (by decide) hr1 RowOf.nil_
  obtain ⟨lb, hlb⟩ : ∃ lb, lightB es [] = lb := ⟨_, rfl⟩
  rw [hlb] at hli
  clear hlb hnew
  go_upto_region 2 with fail
  go_cut [24] (fun v25 wx => v25 = .bool (!lb || decide (20 < m)) ∧ w1 = wx)
  case first =>
    cases lb
    · go_wp2_with (go_at_call 13; refine hli.mono ?_; rintro e w2 ⟨rfl, rfl⟩)
      go_meet
      exact ⟨rfl, rfl⟩
    · by_cases h10 : 20 < m
      · have t10 : (20 : Int) < (m : Int) := by omega
        go_wp2_with (go_at_call 13; refine hli.mono ?_; rintro e w2 ⟨rfl, rfl⟩)
        go_meet
        exact ⟨by simp [h10], rfl⟩
      · have t10 : ¬ (20 : Int) < (m : Int) := by omega
        go_wp2_with (go_at_call 13; refine hli.mono ?_; rintro e w2 ⟨rfl, rfl⟩)
        go_meet
        exact ⟨by simp [h10]; omega, rfl⟩
  case rest =>
    obtain ⟨rfl, rfl⟩ := hcut
    obtain ⟨q, hq⟩ : ∃ q, (!lb || decide (20 < m)) = q := ⟨_, rfl⟩
    rw [hq]
    have HQ := Lib.hid (show q = false → m ≤ 20 by rintro rfl; simp at hq; omega)
    clear hq hli
    go_upto_if 24 with fail
    go_cut [1, 2] (fun v1 v2 wx => SelTA w w1 v1 v2 wx)
    case first =>
      cases q
      · go_wp2_with fail
        go_meet
        exact ⟨A, n, c, es, I, m, d, types, rfl, rfl, hn, hc, HQ.out (by simp), hr, hv, rfl⟩
      · go_wp2_with fail
        go_meet
        exact ⟨none, 0, 0, [], none, 0, 0, [], rfl, rfl, by omega, by decide, by decide, RowOf.nil_, RowOf.nil_, rfl⟩
    case rest =>
      clear hn hc hm hr1 hr hv HQ
      obtain ⟨A, n, c, es, I, m, d, types, rfl, rfl, hn, hc, hm, hr, hv, rfl⟩ := hcut
      go_wp2_with fail
      go_loopw [8] (fun v9 wr => ∃ i : Nat, v9 = .int .i64 (i : Int) ∧ i ≤ 4 ∧ Tp wr b g ∧ w1.grownBy wr (some b)) (fun v9 _ => 4 - (intOf v9).toNat)
      case atStart => exact ⟨0, rfl, by omega, htp, grown_refl _ _⟩
      case round =>
        obtain ⟨i, rfl, hi, htr, hgr⟩ := hrel
        have hzr := hgr.size
        by_cases hi3 : i < 4
        · have t5 : (i : Int) < 4 := by omega
          have hiw : IntKind.i64.wrap ((i : Int) + 1) = (i : Int) + 1 := IntWalk.i64_in _ (by omega)
          go_wp2_with fail
          refine (texpr b g 4 (by omega) (by omega) 3 _ (by omega) (by omega) htr).mono ?_
          rintro e w11 ⟨A11, c11, x11, rfl, o11, f11, d11, cl11, ht11, hg11⟩
          have hz11 := hg11.size
          have S11 := X.size4 f11 (by omega)
          have P11 := own_cap o11
          have R11 := RowX.of_own (b := b) o11 rfl (by have := htr.lt; omega)
          clear o11 f11 d11 cl11
          go_wp2_with fail
          refine (next_c b g 2 _ (by omega) ht11).mono ?_
          rintro e w12 ⟨r12, rfl, hr12, ht12, hg12, hzz12⟩
          have hz12 := hg12.size
          have hr12' : r12 < 2 := by have : (r12 : Int) < max 2 1 := hr12; omega
          clear hzz12 hr12
          have hw12 : IntKind.i64.wrap (1 + (r12 : Int)) = 1 + (r12 : Int) := IntWalk.i64_in _ (by omega)
          go_wp2_with fail
          refine (next_c b g 2 _ (by omega) ht12).mono ?_
          rintro e w13 ⟨r13, rfl, hr13, ht13, hg13, hzz13⟩
          have hz13 := hg13.size
          have hr13' : r13 < 2 := by have : (r13 : Int) < max 2 1 := hr13; omega
          clear hzz13 hr13
          have hw13 : IntKind.i64.wrap (1 + (r13 : Int)) = 1 + (r13 : Int) := IntWalk.i64_in _ (by omega)
          go_wp2_with fail
          refine (next_c b g 4 _ (by omega) ht13).mono ?_
          rintro e w14 ⟨r14, rfl, hr14, ht14, hg14, hzz14⟩
          have hz14 := hg14.size
          have hr14' : r14 < 4 := by have : (r14 : Int) < max 4 1 := hr14; omega
          clear hzz14 hr14
          have hw14 : IntKind.i64.wrap (1 + (r14 : Int)) = 1 + (r14 : Int) := IntWalk.i64_in _ (by omega)
          go_wp2_with fail
          refine (next_c b g 2 _ (by omega) ht14).mono ?_
          rintro e w15 ⟨r15, rfl, hr15, ht15, hg15, hzz15⟩
          have hz15 := hg15.size
          have hr15' : r15 < 2 := by have : (r15 : Int) < max 2 1 := hr15; omega
          clear hzz15 hr15
          have hw15 : IntKind.i64.wrap (1 + (r15 : Int)) = 1 + (r15 : Int) := IntWalk.i64_in _ (by omega)
          go_wp2_with fail
          refine (next_c b g 4 _ (by omega) (ht15.alloc _)).mono ?_
          rintro e w18 ⟨z, rfl, hz', ht18, hg18, hzz⟩
          have hz18 := hg18.size
          simp at hz18
          have hz4 : z < 4 := by have : (z : Int) < max 4 1 := hz'; omega
          clear hzz hz'
          have hzw : IntKind.i64.wrap (1 + (z : Int)) = 1 + (z : Int) := IntWalk.i64_in _ (by omega)
          have hz0 : (0 : Int) ≤ 1 + (z : Int) := by omega
          have hz5 : 1 + (z : Int) ≤ 4 := by omega
          have hzt : (1 + (z : Int)).toNat = z + 1 := by omega
          have hlblk := (hg18.block w15.heap.size (by simp) (by have := ht15.lt; simp; omega)).trans (heap_alloc_new w15 _)
          go_upto_if 48 with fail
          go_cut [9, 10] (fun v10 v11 wx => SelTy w1 b g v10 v11 wx)
          case first =>
            have hal := (Below.refl w15.heap.size w15).alloc (Nat.le_refl _) (.cells #[.int .i64 (1 + (r12 : Int)), .int .i64 (1 + (r13 : Int)), .int .i64 (r14 : Int), .int .i64 (1 + (r15 : Int))] 3)
            have Q11 := ((((((R11.tape hg12).tape hg13).tape hg14).tape hg15).step hal).tape hg18).row
            have g18 : w1.grownBy w18 (some b) := grown_trans (only_step hal (grown_trans (grown_trans (grown_trans (grown_trans (grown_trans hgr hg11) hg12) hg13) hg14) hg15)) hg18
            have hb18 : Below w.heap.size w w18 := hb1.grown g18 hz1 (fun k hk => by injection hk with hk; omega)
            have IT := rowI_take (rowI_blk (zs := [1 + (r12 : Int), 1 + (r13 : Int), (r14 : Int), 1 + (r15 : Int)]) hlblk rfl rfl) (show z + 1 ≤ 4 by omega)
            clear R11 hal hlblk hg11 hg12 hg13 hg14 hg15 hg18 ht11 ht12 ht13 ht14 ht15 htr hgr
            by_cases h2 : i = 3
            · have t2 : ((i : Int) == 3) = true := by simp; omega
              clear h2
              go_wp2_with fail
              go_meet
              exact ⟨A, n, c, es, I, m, d, types, rfl, rfl, hn, hc, by omega, hr.to hb18, hv.to hb18, ht18, g18⟩
            · have t2 : ((i : Int) == 3) = false := by simp; omega
              clear h2
              go_wp2_with fail
              go_meet
              exact ⟨_, _, _, _, _, _, _, _, rfl, rfl, P11.1, P11.2, by omega, Q11, IT, ht18, g18⟩
          case rest =>
            clear R11 hlblk hg11 hg12 hg13 hg14 hg15 hg18 ht11 ht12 ht13 ht14 ht15 ht18 htr hgr hr hv hn hc hm hzt hz0 hz5 hzw P11 hw12 hw13 hw14 hw15
            obtain ⟨A, n, c, es, I, m, d, types, rfl, rfl, hn, hc, hm, hr, hv, htr, hgr⟩ := hcut
            have hbx : Below w.heap.size w wc := hb1.grown hgr hz1 (fun k hk => by injection hk with hk; omega)
            have T1 := fun w1 h1 h2 => xtype A I n c m d es types w1 (by omega) (by unfold maxLen; omega) h1 h2
            have T2 := fun w1 h1 h2 => rtype A I n c m d es types w1 hn hc (by unfold maxLen; omega) h1 h2
            unfold TyePost at T1 T2
            generalize typeE es types = x at T1 T2
            obtain ⟨xk, xe⟩ := x
            simp only at T1 T2
            go_wp2_with (first
              | (go_at_call 35; refine (T1 _ (by exact hr) (by exact hv)).mono ?_; rintro e w21 ⟨rfl, hb21⟩; have hz21 := hb21.size; (try simp at hz21))
              | (go_at_call 36; refine (T2 _ (by exact hr.to (by (repeat (first | (with_reducible exact Below.refl _ _) | (with_reducible assumption) | (with_reducible refine Below.drew ?_) | (with_reducible refine below_drewN ?_ _) | ((with_reducible refine Below.setCell ?_ ?_ _); rotate_left; (focus (first | (simp; done) | (simp; omega) | omega))) | ((with_reducible refine Below.alloc ?_ ?_ _); rotate_left; (focus (first | (simp; done) | (simp; omega) | omega))) | ((with_reducible apply below_step1); (focus (with_reducible assumption))))))) (by exact hv.to (by (repeat (first | (with_reducible exact Below.refl _ _) | (with_reducible assumption) | (with_reducible refine Below.drew ?_) | (with_reducible refine below_drewN ?_ _) | ((with_reducible refine Below.setCell ?_ ?_ _); rotate_left; (focus (first | (simp; done) | (simp; omega) | omega))) | ((with_reducible refine Below.alloc ?_ ?_ _); rotate_left; (focus (first | (simp; done) | (simp; omega) | omega))) | ((with_reducible apply below_step1); (focus (with_reducible assumption)))))))).mono ?_; rintro e w22 ⟨rfl, hb22⟩; have hz22 := hb22.size; (try simp at hz22)))
            go_roundw
            case rel =>
              go_light
              exact ⟨i + 1, by go_num, by omega, by (repeat (first | (with_reducible assumption) | (with_reducible refine Tp.drew ?_) | (with_reducible refine Tp.drewN ?_ _) | (with_reducible refine Tp.alloc ?_ _) | ((with_reducible refine Tp.setFar ?_ ?_ ?_ _); rotate_left; (focus (first | (simp; done) | (simp; omega) | omega)); (focus (first | (simp; done) | (simp; omega) | omega))) | ((with_reducible apply Tp.step); (focus (with_reducible assumption))))), by (repeat (first | (with_reducible exact grown_refl _ _) | (with_reducible assumption) | (with_reducible refine only_drew ?_) | (with_reducible refine only_drewN ?_ _) | ((with_reducible refine only_setCell ?_ ?_ _); rotate_left; (focus (first | (simp; done) | (simp; omega) | omega | (right; simp; done) | (right; simp; omega) | (right; omega)))) | (with_reducible refine only_alloc ?_ _) | ((with_reducible apply only_step); (focus (with_reducible assumption))) | ((with_reducible apply only_trans); (focus (with_reducible assumption)))))⟩
            case measure => simp [intOf]; omega
        · have t5 : ¬ (i : Int) < 4 := by omega
          have hbx : Below w.heap.size w wr := hb1.grown hgr hz1 (fun k hk => by injection hk with hk; omega)
          go_wp2_with ((go_at_call 20; refine (awake_c _ (by exact hG.below (by (repeat (first | (with_reducible exact Below.refl _ _) | (with_reducible assumption) | (with_reducible refine Below.drew ?_) | (with_reducible refine below_drewN ?_ _) | ((with_reducible refine Below.setCell ?_ ?_ _); rotate_left; (focus (first | (simp; done) | (simp; omega) | omega))) | ((with_reducible refine Below.alloc ?_ ?_ _); rotate_left; (focus (first | (simp; done) | (simp; omega) | omega))) | ((with_reducible apply below_step1); (focus (with_reducible assumption)))))))).mono ?_; rintro e w11 ⟨rfl, hb11⟩; have hz11 := hb11.size; (try simp at hz11)))
          go_ret
          exact ⟨rfl, by (repeat (first | (with_reducible exact Below.refl _ _) | (with_reducible assumption) | (with_reducible refine Below.drew ?_) | (with_reducible refine below_drewN ?_ _) | ((with_reducible refine Below.setCell ?_ ?_ _); rotate_left; (focus (first | (simp; done) | (simp; omega) | omega))) | ((with_reducible refine Below.alloc ?_ ?_ _); rotate_left; (focus (first | (simp; done) | (simp; omega) | omega))) | ((with_reducible apply below_step1); (focus (with_reducible assumption)))))⟩
end Go.Proofs.YtojcabnjodfdmaaDoor
