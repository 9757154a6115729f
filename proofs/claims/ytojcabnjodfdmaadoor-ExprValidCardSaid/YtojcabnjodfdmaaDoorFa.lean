/- The law ExprValid, the walk; the table of powers of ten is as it is laid. -/
import Derived.Test.YtojcabnjodfdmaaDoorBc
import Derived.Test.YtojcabnjodfdmaaDoorBd
import Derived.Test.YtojcabnjodfdmaaDoorBa
import Derived.Test.YtojcabnjodfdmaaDoorTn
import Derived.Deep.DeepCutAuto
namespace Go.Proofs.YtojcabnjodfdmaaDoor
open Go.RowKit

def SelE (w w1 : World) (v1 : Value) (wx : World) : Prop := ∃ A n c es, v1 = .slice A n c ∧ n ≤ 80 ∧ n ≤ c ∧ c ≤ maxLen ∧ (A = none → c = 0) ∧ RowT w w.heap.size A n es ∧ w1 = wx
set_option maxRecDepth 100000 in
set_option maxHeartbeats 4000000 in
theorem exprValid_w (Z A : Option Addr) (zn zc n c : Nat) (zs : List Int) (es : List T) (op : Int) (w : World) (hz : IntsR w Z zn zc zs) (hn : n ≤ c) (hc : c ≤ maxLen) (hnil : A = none → c = 0) (hr : RowT w w.heap.size A n es) (hG : G w) :
    Calls Tryd.prog 3 #[.slice Z zn zc, .slice A n c, .int .i64 op] w fun e w' => e = .returned (.bool true) ∧ Below w.heap.size w w' := by
  have hnew := new_c Z zn zc zs w hz
  clear hz
  have HNL := Lib.hid hnil
  clear hnil
  go_enter Tryd.func3, Tryd.ntmps3
  go_wp2_with fail
  refine hnew.mono ?_
  rintro e w1 ⟨b, g, rfl, htp, hb0, hg0, hb1⟩
  have hz1 := hb1.size
  have hr1 := hr.to hb1
  have hli := light_c A none n c 0 0 es [] w1 (by omega) (by decide) hr1 RowOf.nil_
  have HL := Lib.hid (fun h => (light_len (es := es) (row := []) h).1)
  have hlen := hr.len
  obtain ⟨lb, hlb⟩ : ∃ lb, lightB es [] = lb := ⟨_, rfl⟩
  rw [hlb] at hli HL
  clear hlb hnew
  go_upto_if 13 with (go_at_call 13; refine hli.mono ?_; rintro e w2 ⟨rfl, rfl⟩)
  go_cut [1] (fun v1 wx => SelE w w1 v1 wx)
  case first =>
    cases lb
    · go_wp2_with fail
      go_meet
      exact ⟨none, 0, 0, [], rfl, by omega, by omega, by decide, fun _ => rfl, RowOf.nil_, rfl⟩
    · go_wp2_with fail
      go_meet
      exact ⟨A, n, c, es, rfl, by have := HL.out (by simp); omega, hn, hc, HNL.out, hr, rfl⟩
  case rest =>
    clear hli hn hc hr1 hr HNL HL hlen
    obtain ⟨A, n, c, es, rfl, hn80, hn, hc, hnil, hr, rfl⟩ := hcut
    clear hnil
    go_wp2_with fail
    refine (texpr b g 4 (by omega) (by omega) 3 _ (by omega) (by omega) htp).mono ?_
    rintro e w4 ⟨A4, c4, x4, rfl, o4, f4, d4, cl4, ht4, hg4⟩
    have hz4 := hg4.size
    have sx := X.size4 f4 (by omega)
    have rx : RowT w4 w4.heap.size A4 x4.flat.length x4.flat := RowOf.of_own o4 rfl
    have hnil4 : A4 = none → c4 = 0 := own_none o4
    have HN4 := Lib.hid hnil4
    clear f4 d4 cl4 o4 hnil4
    go_wp2_with fail
    refine (tspoil b g _ c4 A4 x4.flat _ (by omega) HN4.out ht4 rx).mono ?_
    rintro e w5 ⟨A5, m5, c5, xs, rfl, hm5, hc5, hm5', hnil5, hx5, ht5, hg5⟩
    have hz5 := hg5.size
    have g5 := grown_trans hg4 hg5
    have hb5 : Below w.heap.size w w5 := hb1.grown g5 hz1 (fun k hk => by injection hk with hk; omega)
    have re := hr.to hb5
    have rs := hx5.row
    clear HN4 hnil5 hx5 rx ht4 hg4 hg5 ht5 g5 hr htp
    have V1 := fun w h => xvalidE A n c es w (by omega) h
    have V2 := fun w h => rvalidE A n c es w (by omega) h
    have V3 := fun w h => xvalidE A5 m5 c5 xs w (by omega) h
    have V4 := fun w h => rvalidE A5 m5 c5 xs w (by omega) h
    generalize validE es = ve at V1 V2
    generalize validE xs = vx at V3 V4
    go_wp2_with (first
      | (go_at_call 16; refine (xarity _ _).mono ?_; rintro e w6 ⟨rfl, rfl⟩)
      | (go_at_call 17; refine (rarity _ _).mono ?_; rintro e w6 ⟨rfl, rfl⟩)
      | fail)
    refine (V1 _ (by exact re)).mono ?_
    rintro e w6 ⟨rfl, hb6⟩
    have hz6 := hb6.size
    ((go_wp2_with fail); refine (V2 _ (by exact re.to (by (repeat (first | (with_reducible exact Below.refl _ _) | (with_reducible assumption) | (with_reducible refine Below.drew ?_) | (with_reducible refine below_drewN ?_ _) | ((with_reducible refine Below.setCell ?_ ?_ _); rotate_left; (focus (first | (simp; done) | (simp; omega) | omega))) | ((with_reducible refine Below.alloc ?_ ?_ _); rotate_left; (focus (first | (simp; done) | (simp; omega) | omega))) | ((with_reducible apply below_step1); (focus (with_reducible assumption)))))))).mono ?_; rintro e w7 ⟨rfl, hb7⟩; have hz7 := hb7.size; (try simp at hz7))
    ((go_wp2_with fail); refine (V3 _ (by exact rs.to (by (repeat (first | (with_reducible exact Below.refl _ _) | (with_reducible assumption) | (with_reducible refine Below.drew ?_) | (with_reducible refine below_drewN ?_ _) | ((with_reducible refine Below.setCell ?_ ?_ _); rotate_left; (focus (first | (simp; done) | (simp; omega) | omega))) | ((with_reducible refine Below.alloc ?_ ?_ _); rotate_left; (focus (first | (simp; done) | (simp; omega) | omega))) | ((with_reducible apply below_step1); (focus (with_reducible assumption)))))))).mono ?_; rintro e w8 ⟨rfl, hb8⟩; have hz8 := hb8.size; (try simp at hz8))
    ((go_wp2_with fail); refine (V4 _ (by exact rs.to (by (repeat (first | (with_reducible exact Below.refl _ _) | (with_reducible assumption) | (with_reducible refine Below.drew ?_) | (with_reducible refine below_drewN ?_ _) | ((with_reducible refine Below.setCell ?_ ?_ _); rotate_left; (focus (first | (simp; done) | (simp; omega) | omega))) | ((with_reducible refine Below.alloc ?_ ?_ _); rotate_left; (focus (first | (simp; done) | (simp; omega) | omega))) | ((with_reducible apply below_step1); (focus (with_reducible assumption)))))))).mono ?_; rintro e w9 ⟨rfl, hb9⟩; have hz9 := hb9.size; (try simp at hz9))
    ((go_wp2_with fail); refine (awake_c _ (by exact hG.below (by (repeat (first | (with_reducible exact Below.refl _ _) | (with_reducible assumption) | (with_reducible refine Below.drew ?_) | (with_reducible refine below_drewN ?_ _) | ((with_reducible refine Below.setCell ?_ ?_ _); rotate_left; (focus (first | (simp; done) | (simp; omega) | omega))) | ((with_reducible refine Below.alloc ?_ ?_ _); rotate_left; (focus (first | (simp; done) | (simp; omega) | omega))) | ((with_reducible apply below_step1); (focus (with_reducible assumption)))))))).mono ?_; rintro e w10 ⟨rfl, hb10⟩; have hz10 := hb10.size; (try simp at hz10))
    go_wp2_with fail
    go_ret
    exact ⟨rfl, by (repeat (first | (with_reducible exact Below.refl _ _) | (with_reducible assumption) | (with_reducible refine Below.drew ?_) | (with_reducible refine below_drewN ?_ _) | ((with_reducible refine Below.setCell ?_ ?_ _); rotate_left; (focus (first | (simp; done) | (simp; omega) | omega))) | ((with_reducible refine Below.alloc ?_ ?_ _); rotate_left; (focus (first | (simp; done) | (simp; omega) | omega))) | ((with_reducible apply below_step1); (focus (with_reducible assumption)))))⟩
end Go.Proofs.YtojcabnjodfdmaaDoor
