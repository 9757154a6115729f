/- The law ExprFormat, the walk; the table of powers of ten is as it is laid. -/
import Derived.Test.YtojcabnjodfdmaaDoorEy
import Derived.Test.YtojcabnjodfdmaaDoorBd
import Derived.Test.YtojcabnjodfdmaaDoorBa
import Derived.Test.YtojcabnjodfdmaaDoorOpenS
import Derived.Deep.DeepCutAuto
namespace Go.Proofs.YtojcabnjodfdmaaDoor
open Go.RowKit

def SelFmt (w w1 : World) (v1 v2 : Value) (wx : World) : Prop := ∃ A n c es R m d names, v1 = .slice A n c ∧ v2 = .slice R m d ∧ n ≤ c ∧ c ≤ maxLen ∧ m ≤ 10 ∧ RowT w w.heap.size A n es ∧ RowS w w.heap.size R m names ∧ w1 = wx
def smallS (s : ByteArray) : Bool := decide (s.size ≤ 50)
theorem str_eq (s : ByteArray) (w : World) : (binOp .eql 9 (.string s) (.string s)).run Tryd.prog w = .ok (.bool true) w := by
  have hu := Tryd.underlying9
  simp [go_sem, hu]
set_option maxRecDepth 100000 in
set_option maxHeartbeats 4000000 in
theorem exprFormat_w (Z A R : Option Addr) (zn zc n c m d : Nat) (zs : List Int) (es : List T) (names : List ByteArray) (w : World) (hz : IntsR w Z zn zc zs) (hn : n ≤ c) (hc : c ≤ maxLen) (hm : m ≤ maxLen) (hr : RowT w w.heap.size A n es) (hv : RowS w w.heap.size R m names) (hG : G w) :
    Calls Tryd.prog 6 #[.slice Z zn zc, .slice A n c, .slice R m d] w fun e w' => e = .returned (.bool true) ∧ Below w.heap.size w w' := by
  have hnew := new_c Z zn zc zs w hz
  clear hz
  unfold maxLen at hm
  go_enter Tryd.func6, Tryd.ntmps6
  go_wp2_with fail
  refine hnew.mono ?_
  rintro e w1 ⟨b, g, rfl, htp, hb0, hg0, hb1⟩
  have hz1 := hb1.size
  have hr1 := hr.to hb1
  have hli := light_c A none n c 0 0 es [] w1 (by omega) (by decide) hr1 RowOf.nil_
  obtain ⟨lb, hlb⟩ : ∃ lb, lightB es [] = lb := ⟨_, rfl⟩
  rw [hlb] at hli
  clear hlb hnew
  go_upto_region 2 with fail
  go_cut [19] (fun v19 wx => v19 = .bool (!lb || decide (10 < m)) ∧ w1 = wx)
  case first =>
    cases lb
    · go_wp2_with (go_at_call 13; refine hli.mono ?_; rintro e w2 ⟨rfl, rfl⟩)
      go_meet
      exact ⟨rfl, rfl⟩
    · by_cases h10 : 10 < m
      · have t10 : (10 : Int) < (m : Int) := by omega
        go_wp2_with (go_at_call 13; refine hli.mono ?_; rintro e w2 ⟨rfl, rfl⟩)
        go_meet
        exact ⟨by simp [h10], rfl⟩
      · have t10 : ¬ (10 : Int) < (m : Int) := by omega
        go_wp2_with (go_at_call 13; refine hli.mono ?_; rintro e w2 ⟨rfl, rfl⟩)
        go_meet
        exact ⟨by simp [h10]; omega, rfl⟩
  case rest =>
    obtain ⟨rfl, rfl⟩ := hcut
    obtain ⟨q, hq⟩ : ∃ q, (!lb || decide (10 < m)) = q := ⟨_, rfl⟩
    rw [hq]
    have HQ := Lib.hid (show q = false → m ≤ 10 by rintro rfl; simp at hq; omega)
    clear hq hli
    go_upto_if 19 with fail
    go_cut [1, 2] (fun v1 v2 wx => SelFmt w w1 v1 v2 wx)
    case first =>
      cases q
      · go_wp2_with fail
        go_meet
        exact ⟨A, n, c, es, R, m, d, names, rfl, rfl, hn, hc, HQ.out (by simp), hr, hv, rfl⟩
      · go_wp2_with fail
        go_meet
        exact ⟨none, 0, 0, [], none, 0, 0, [], rfl, rfl, by omega, by decide, by decide, RowOf.nil_, RowOf.nil_, rfl⟩
    case rest =>
      clear hn hc hm hr1 hr hv HQ
      obtain ⟨A, n, c, es, R, m, d, names, rfl, rfl, hn, hc, hm, hr, hv, rfl⟩ := hcut
      have HM := Lib.hid hv.len
      have hvw := hv.to hb1
      go_wp2_with fail
      go_loopw [8] (fun v8 wr => ∃ i : Nat, v8 = .int .i64 (i : Int) ∧ i ≤ m ∧ Hid ((names.take i).all smallS = true) ∧ w1 = wr) (fun v8 _ => m - (intOf v8).toNat)
      case atStart => exact ⟨0, rfl, by omega, rfl, rfl⟩
      case round =>
        obtain ⟨i, rfl, hi, hH, rfl⟩ := hrel
        by_cases hlt : i < m
        · obtain ⟨b', off, s, rfl, hb', hs, hcell⟩ := RowS.at1 hvw hlt
          have HS := Lib.hid hs
          clear hs
          have h0 : (0 : Int) ≤ (i : Int) := by omega
          have h1 : (i : Int) < (m : Int) := by omega
          have hiw : IntKind.i64.wrap ((i : Int) + 1) = (i : Int) + 1 := IntWalk.i64_in _ (by omega)
          by_cases hs50 : 50 < s.size
          · have t50 : (50 : Int) < (s.size : Int) := by omega
            go_wp2_with ((go_at_call 20; refine (awake_c _ (by exact hG.below (by (repeat (first | (with_reducible exact Below.refl _ _) | (with_reducible assumption) | (with_reducible refine Below.drew ?_) | (with_reducible refine below_drewN ?_ _) | ((with_reducible refine Below.setCell ?_ ?_ _); rotate_left; (focus (first | (simp; done) | (simp; omega) | omega))) | ((with_reducible refine Below.alloc ?_ ?_ _); rotate_left; (focus (first | (simp; done) | (simp; omega) | omega))) | ((with_reducible apply below_step1); (focus (with_reducible assumption)))))))).mono ?_; rintro e w11 ⟨rfl, hb11⟩; have hz11 := hb11.size; (try simp at hz11)))
            go_ret
            exact ⟨rfl, by (repeat (first | (with_reducible exact Below.refl _ _) | (with_reducible assumption) | (with_reducible refine Below.drew ?_) | (with_reducible refine below_drewN ?_ _) | ((with_reducible refine Below.setCell ?_ ?_ _); rotate_left; (focus (first | (simp; done) | (simp; omega) | omega))) | ((with_reducible refine Below.alloc ?_ ?_ _); rotate_left; (focus (first | (simp; done) | (simp; omega) | omega))) | ((with_reducible apply below_step1); (focus (with_reducible assumption)))))⟩
          · have t50 : ¬ (50 : Int) < (s.size : Int) := by omega
            go_wp2_with fail
            go_roundw
            case rel => exact ⟨i + 1, by go_num, by omega, by show _ = true; rw [take_all_succ _ _ _ _ HS.out, hH.out]; simp [smallS]; omega, trivial⟩
            case measure => simp [intOf]; omega
        · have HN := Lib.hid (show ∀ s ∈ names, s.size ≤ 100 by
            have h1 := hH.out
            rw [List.take_of_length_le (by rw [HM.out]; omega)] at h1
            intro s hs
            have := List.all_eq_true.1 h1 s hs
            simp [smallS] at this
            omega)
          have h1 : ¬ (i : Int) < (m : Int) := by omega
          clear hH
          go_wp2_with fail
          refine (texpr b g 4 (by omega) (by omega) 3 _ (by omega) (by omega) htp).mono ?_
          rintro e w4 ⟨A4, c4, x4, rfl, o4, f4, d4, cl4, ht4, hg4⟩
          have hz4 := hg4.size
          have sx := X.size4 f4 (by omega)
          have hcap : x4.flat.length ≤ c4 ∧ c4 ≤ maxLen := by
            obtain ⟨A', c', e1, h1, h2⟩ := own_slice o4
            injection e1 with _ _ e3
            subst e3
            exact ⟨h1, h2⟩
          have hb4 : Below w.heap.size w w4 := hb1.grown hg4 hz1 (fun k hk => by injection hk with hk; omega)
          have rx : RowT w4 w4.heap.size A4 x4.flat.length x4.flat := RowOf.of_own o4 rfl
          clear f4 d4 cl4 o4 hvw
          obtain ⟨xl, hxl⟩ : ∃ xl, x4.flat = xl := ⟨_, rfl⟩
          rw [hxl] at rx hcap sx
          rw [hxl]
          clear hxl
          have re := hr.to hb4
          have rn := hv.to hb4
          have hN2 : ∀ s ∈ ([⟨#[97]⟩, ⟨#[98]⟩] : List ByteArray), s.size ≤ 100 := by
            intro s hs
            simp at hs
            rcases hs with rfl | rfl <;> decide
          have P1 := fun w hG hr hv => xformat A4 R xl.length c4 m d xl names w (by unfold maxLen; omega) (by unfold maxLen; omega) HN.out hG hr hv
          have P2 := fun w hr hv => rfmt_c A4 R xl.length c4 m d xl names w hcap.1 hcap.2 (by unfold maxLen; omega) HN.out hr hv
          have P3 := fun B w hG hr hv => xformat A4 B xl.length c4 2 2 xl [⟨#[97]⟩, ⟨#[98]⟩] w (by unfold maxLen; omega) (by decide) hN2 hG hr hv
          have P4 := fun B w hr hv => rfmt_c A4 B xl.length c4 2 2 xl [⟨#[97]⟩, ⟨#[98]⟩] w hcap.1 hcap.2 (by decide) hN2 hr hv
          have P5 := fun w hG hr hv => xformat A R n c m d es names w (by omega) (by unfold maxLen; omega) HN.out hG hr hv
          have P6 := fun w hr hv => rfmt_c A R n c m d es names w hn hc (by unfold maxLen; omega) HN.out hr hv
          generalize (⟨(formatE xl names).toArray⟩ : ByteArray) = s1 at P1 P2
          generalize (⟨(formatE xl [⟨#[97]⟩, ⟨#[98]⟩]).toArray⟩ : ByteArray) = s2 at P3 P4
          generalize (⟨(formatE es names).toArray⟩ : ByteArray) = s3 at P5 P6
          ((go_wp2_with fail); refine (P1 _ (by exact hG.below (by (repeat (first | (with_reducible exact Below.refl _ _) | (with_reducible assumption) | (with_reducible refine Below.drew ?_) | (with_reducible refine below_drewN ?_ _) | ((with_reducible refine Below.setCell ?_ ?_ _); rotate_left; (focus (first | (simp; done) | (simp; omega) | omega))) | ((with_reducible refine Below.alloc ?_ ?_ _); rotate_left; (focus (first | (simp; done) | (simp; omega) | omega))) | ((with_reducible apply below_step1); (focus (with_reducible assumption))))))) (by exact rx) (by exact rn)).mono ?_; rintro e w21 ⟨rfl, hb21⟩; have hz21 := hb21.size; (try simp at hz21))
          ((go_wp2_with fail); refine (P2 _ (by exact rx.to (by (repeat (first | (with_reducible exact Below.refl _ _) | (with_reducible assumption) | (with_reducible refine Below.drew ?_) | (with_reducible refine below_drewN ?_ _) | ((with_reducible refine Below.setCell ?_ ?_ _); rotate_left; (focus (first | (simp; done) | (simp; omega) | omega))) | ((with_reducible refine Below.alloc ?_ ?_ _); rotate_left; (focus (first | (simp; done) | (simp; omega) | omega))) | ((with_reducible apply below_step1); (focus (with_reducible assumption))))))) (by exact rn.to (by (repeat (first | (with_reducible exact Below.refl _ _) | (with_reducible assumption) | (with_reducible refine Below.drew ?_) | (with_reducible refine below_drewN ?_ _) | ((with_reducible refine Below.setCell ?_ ?_ _); rotate_left; (focus (first | (simp; done) | (simp; omega) | omega))) | ((with_reducible refine Below.alloc ?_ ?_ _); rotate_left; (focus (first | (simp; done) | (simp; omega) | omega))) | ((with_reducible apply below_step1); (focus (with_reducible assumption)))))))).mono ?_; rintro e w22 ⟨rfl, hb22⟩; have hz22 := hb22.size; (try simp at hz22))
          ((go_wp2_with fail); refine (P3 _ _ (by exact hG.below (by (repeat (first | (with_reducible exact Below.refl _ _) | (with_reducible assumption) | (with_reducible refine Below.drew ?_) | (with_reducible refine below_drewN ?_ _) | ((with_reducible refine Below.setCell ?_ ?_ _); rotate_left; (focus (first | (simp; done) | (simp; omega) | omega))) | ((with_reducible refine Below.alloc ?_ ?_ _); rotate_left; (focus (first | (simp; done) | (simp; omega) | omega))) | ((with_reducible apply below_step1); (focus (with_reducible assumption))))))) (by exact rx.to (by (repeat (first | (with_reducible exact Below.refl _ _) | (with_reducible assumption) | (with_reducible refine Below.drew ?_) | (with_reducible refine below_drewN ?_ _) | ((with_reducible refine Below.setCell ?_ ?_ _); rotate_left; (focus (first | (simp; done) | (simp; omega) | omega))) | ((with_reducible refine Below.alloc ?_ ?_ _); rotate_left; (focus (first | (simp; done) | (simp; omega) | omega))) | ((with_reducible apply below_step1); (focus (with_reducible assumption))))))) (by exact rowOf_new (cells := fun s => [Value.string s]) w22 _ _ 2 [(⟨#[97]⟩ : ByteArray), ⟨#[98]⟩] rfl rfl)).mono ?_; rintro e w23 ⟨rfl, hb23⟩; have hz23 := hb23.size; (try simp at hz23))
          ((go_wp2_with fail); refine (P4 _ _ (by exact rx.to (by (repeat (first | (with_reducible exact Below.refl _ _) | (with_reducible assumption) | (with_reducible refine Below.drew ?_) | (with_reducible refine below_drewN ?_ _) | ((with_reducible refine Below.setCell ?_ ?_ _); rotate_left; (focus (first | (simp; done) | (simp; omega) | omega))) | ((with_reducible refine Below.alloc ?_ ?_ _); rotate_left; (focus (first | (simp; done) | (simp; omega) | omega))) | ((with_reducible apply below_step1); (focus (with_reducible assumption))))))) (by exact rowOf_new (cells := fun s => [Value.string s]) w23 _ _ 2 [(⟨#[97]⟩ : ByteArray), ⟨#[98]⟩] rfl rfl)).mono ?_; rintro e w24 ⟨rfl, hb24⟩; have hz24 := hb24.size; (try simp at hz24))
          ((go_wp2_with fail); refine (P5 _ (by exact hG.below (by (repeat (first | (with_reducible exact Below.refl _ _) | (with_reducible assumption) | (with_reducible refine Below.drew ?_) | (with_reducible refine below_drewN ?_ _) | ((with_reducible refine Below.setCell ?_ ?_ _); rotate_left; (focus (first | (simp; done) | (simp; omega) | omega))) | ((with_reducible refine Below.alloc ?_ ?_ _); rotate_left; (focus (first | (simp; done) | (simp; omega) | omega))) | ((with_reducible apply below_step1); (focus (with_reducible assumption))))))) (by exact re.to (by (repeat (first | (with_reducible exact Below.refl _ _) | (with_reducible assumption) | (with_reducible refine Below.drew ?_) | (with_reducible refine below_drewN ?_ _) | ((with_reducible refine Below.setCell ?_ ?_ _); rotate_left; (focus (first | (simp; done) | (simp; omega) | omega))) | ((with_reducible refine Below.alloc ?_ ?_ _); rotate_left; (focus (first | (simp; done) | (simp; omega) | omega))) | ((with_reducible apply below_step1); (focus (with_reducible assumption))))))) (by exact rn.to (by (repeat (first | (with_reducible exact Below.refl _ _) | (with_reducible assumption) | (with_reducible refine Below.drew ?_) | (with_reducible refine below_drewN ?_ _) | ((with_reducible refine Below.setCell ?_ ?_ _); rotate_left; (focus (first | (simp; done) | (simp; omega) | omega))) | ((with_reducible refine Below.alloc ?_ ?_ _); rotate_left; (focus (first | (simp; done) | (simp; omega) | omega))) | ((with_reducible apply below_step1); (focus (with_reducible assumption)))))))).mono ?_; rintro e w25 ⟨rfl, hb25⟩; have hz25 := hb25.size; (try simp at hz25))
          ((go_wp2_with fail); refine (P6 _ (by exact re.to (by (repeat (first | (with_reducible exact Below.refl _ _) | (with_reducible assumption) | (with_reducible refine Below.drew ?_) | (with_reducible refine below_drewN ?_ _) | ((with_reducible refine Below.setCell ?_ ?_ _); rotate_left; (focus (first | (simp; done) | (simp; omega) | omega))) | ((with_reducible refine Below.alloc ?_ ?_ _); rotate_left; (focus (first | (simp; done) | (simp; omega) | omega))) | ((with_reducible apply below_step1); (focus (with_reducible assumption))))))) (by exact rn.to (by (repeat (first | (with_reducible exact Below.refl _ _) | (with_reducible assumption) | (with_reducible refine Below.drew ?_) | (with_reducible refine below_drewN ?_ _) | ((with_reducible refine Below.setCell ?_ ?_ _); rotate_left; (focus (first | (simp; done) | (simp; omega) | omega))) | ((with_reducible refine Below.alloc ?_ ?_ _); rotate_left; (focus (first | (simp; done) | (simp; omega) | omega))) | ((with_reducible apply below_step1); (focus (with_reducible assumption)))))))).mono ?_; rintro e w26 ⟨rfl, hb26⟩; have hz26 := hb26.size; (try simp at hz26))
          ((go_wp2_with fail); refine (awake_c _ (by exact hG.below (by (repeat (first | (with_reducible exact Below.refl _ _) | (with_reducible assumption) | (with_reducible refine Below.drew ?_) | (with_reducible refine below_drewN ?_ _) | ((with_reducible refine Below.setCell ?_ ?_ _); rotate_left; (focus (first | (simp; done) | (simp; omega) | omega))) | ((with_reducible refine Below.alloc ?_ ?_ _); rotate_left; (focus (first | (simp; done) | (simp; omega) | omega))) | ((with_reducible apply below_step1); (focus (with_reducible assumption)))))))).mono ?_; rintro e w27 ⟨rfl, hb27⟩; have hz27 := hb27.size; (try simp at hz27))
          go_wp2_with fail
          go_ret
          exact ⟨rfl, by (repeat (first | (with_reducible exact Below.refl _ _) | (with_reducible assumption) | (with_reducible refine Below.drew ?_) | (with_reducible refine below_drewN ?_ _) | ((with_reducible refine Below.setCell ?_ ?_ _); rotate_left; (focus (first | (simp; done) | (simp; omega) | omega))) | ((with_reducible refine Below.alloc ?_ ?_ _); rotate_left; (focus (first | (simp; done) | (simp; omega) | omega))) | ((with_reducible apply below_step1); (focus (with_reducible assumption)))))⟩
end Go.Proofs.YtojcabnjodfdmaaDoor
