/- The law ExprOperators, the walk; the table of powers of ten is as it is laid. -/
import Derived.Test.YtojcabnjodfdmaaDoorBd
import Derived.Test.YtojcabnjodfdmaaDoorBc
import Derived.Test.YtojcabnjodfdmaaDoorEn
import Derived.Test.YtojcabnjodfdmaaDoorBa
namespace Go.Proofs.YtojcabnjodfdmaaDoor
open Go.RowKit

/-- A slice of at most so many values that reads as a list. -/
def SelV (w : World) (k : Nat) (v : Value) (wx : World) : Prop := ∃ A n c vs, v = .slice A n c ∧ n ≤ k ∧ n ≤ c ∧ c ≤ maxLen ∧ (A = none → c = 0) ∧ Row wx wx.heap.size A n vs ∧ Below w.heap.size w wx
theorem vcells_one (l : List V) : ∀ u ∈ l.flatMap V.cells, u.oneCell' = true := by
  intro u hu
  obtain ⟨t, _, ht⟩ := List.mem_flatMap.1 hu
  simp only [V.cells, List.mem_cons, List.not_mem_nil, or_false] at ht
  rcases ht with rfl | rfl | rfl <;> rfl
theorem vcells_len (l : List V) : (l.flatMap V.cells).length = l.length * 3 := flatMap_len 3 (fun _ => rfl) l
theorem RowOf.take_ {α : Type} {cells : α → List Value} {w : World} {B n : Nat} {A : Option Addr} {xs : List α} (h : RowOf cells w B A n xs) {k : Nat} (hk : k ≤ n) : RowOf cells w B A k (xs.take k) := by
  refine ⟨by rw [List.length_take, h.len]; omega, fun hne => ?_⟩
  have hx : xs.flatMap cells = (xs.take k).flatMap cells ++ (xs.drop k).flatMap cells := by
    conv => lhs; rw [← List.take_append_drop k xs]
    rw [List.flatMap_append]
  obtain ⟨b, off, e, hb, hc⟩ := h.rd (by rw [hx]; intro h0; exact hne (List.append_eq_nil_iff.1 h0).1)
  refine ⟨b, off, e, hb, fun j u hu => hc j u ?_⟩
  rw [hx, List.getElem?_append_left (List.getElem?_eq_some_iff.1 hu).1]
  exact hu
/-- Some value comes back. -/
def AnyV (w : World) (e : Ending) (w' : World) : Prop := ∃ v : V, e = .returned (.agg #[.int .i64 v.k, .int .i64 v.n, .string v.s]) ∧ Below w.heap.size w w'
theorem rint_any (n : Int) (w : World) : Calls Tryd.prog 22 #[.int .i64 n] w (AnyV w) := (rint n w).mono fun _ _ h => ⟨_, h⟩
theorem rtext_any (s : ByteArray) (w : World) : Calls Tryd.prog 23 #[.string s] w (AnyV w) := (rtext s w).mono fun _ _ h => ⟨_, h⟩
def SelL (w : World) (v : Value) (wx : World) : Prop := ∃ b off n c vs, v = .slice (some ⟨b, off, none⟩) n c ∧ 9 ≤ n ∧ n ≤ 12 ∧ Row wx wx.heap.size (some ⟨b, off, none⟩) n vs ∧ Below w.heap.size w wx
def SelR (w : World) (v : Value) (wx : World) : Prop := ∃ b r, v = .slice (some ⟨b, 0, none⟩) 3 3 ∧ Row wx wx.heap.size (some ⟨b, 0, none⟩) 3 r ∧ Below w.heap.size w wx
theorem neq_self (v : V) (w : World) : (binOp .neq 34 (.agg #[.int .i64 v.k, .int .i64 v.n, .string v.s]) (.agg #[.int .i64 v.k, .int .i64 v.n, .string v.s])).run Tryd.prog w = .ok (.bool false) w := by
  rw [run_neqV, show eqB v.k v.n v.s v.k v.n v.s = v.beq v from rfl, (V.beq_iff v v).2 rfl]
  rfl
set_option maxRecDepth 100000 in
set_option maxHeartbeats 4000000 in
theorem exprOperators_w (op : Int) (A : Option Addr) (n c : Nat) (vs : List V) (w : World) (h0 : 0 ≤ op) (hop : op ≤ 255) (hn : n ≤ c) (hc : c ≤ maxLen) (hnil : A = none → c = 0) (hr : Row w w.heap.size A n vs) (hG : G w) :
    Calls Tryd.prog 5 #[.int .u8 op, .slice A n c] w fun e w' => e = .returned (.bool true) ∧ Below w.heap.size w w' := by
  obtain ⟨o, ho⟩ : ∃ o, op.tmod 16 = o := ⟨_, rfl⟩
  have b1 := Int.tmod_lt_of_pos op (show (0 : Int) < 16 by omega)
  have b2 := Int.tmod_nonneg 16 h0
  rw [ho] at b1 b2
  have how : IntKind.i64.wrap o = o := IntWalk.i64_in _ (by omega)
  have hopw : IntKind.i64.wrap op = op := IntWalk.i64_in _ (by omega)
  have ho3 : IntKind.i64.wrap (3 + o) = 3 + o := IntWalk.i64_in _ (by omega)
  have hli := light_c none A 0 0 n c [] vs w (by decide) (by omega) RowOf.nil_ hr
  have HNL := Lib.hid hnil
  clear hnil
  have hlen := hr.len
  have HL := Lib.hid (fun h => (light_len (es := []) (row := vs) h).2)
  obtain ⟨lb, hlb⟩ : ∃ lb, lightB [] vs = lb := ⟨_, rfl⟩
  rw [hlb] at hli HL
  clear hlb
  go_enter Tryd.func5, Tryd.ntmps5
  go_upto_if 18 with (go_at_call 13; refine hli.mono ?_; rintro e w1 ⟨rfl, rfl⟩)
  go_cut [1] (fun v1 wx => SelV w 20 v1 wx)
  case first =>
    cases lb
    · go_wp2_with fail
      go_meet
      exact ⟨none, 0, 0, [], rfl, by omega, by omega, by decide, fun _ => rfl, RowOf.nil_, by (repeat (first | (with_reducible exact Below.refl _ _) | (with_reducible assumption) | (with_reducible refine Below.drew ?_) | (with_reducible refine below_drewN ?_ _) | ((with_reducible refine Below.setCell ?_ ?_ _); rotate_left; (focus (first | (simp; done) | (simp; omega) | omega))) | ((with_reducible refine Below.alloc ?_ ?_ _); rotate_left; (focus (first | (simp; done) | (simp; omega) | omega))) | ((with_reducible apply below_step1); (focus (with_reducible assumption)))))⟩
    · go_wp2_with fail
      go_meet
      exact ⟨A, n, c, vs, rfl, by have := HL.out (by simp); omega, hn, hc, HNL.out, hr, by (repeat (first | (with_reducible exact Below.refl _ _) | (with_reducible assumption) | (with_reducible refine Below.drew ?_) | (with_reducible refine below_drewN ?_ _) | ((with_reducible refine Below.setCell ?_ ?_ _); rotate_left; (focus (first | (simp; done) | (simp; omega) | omega))) | ((with_reducible refine Below.alloc ?_ ?_ _); rotate_left; (focus (first | (simp; done) | (simp; omega) | omega))) | ((with_reducible apply below_step1); (focus (with_reducible assumption)))))⟩
  case rest =>
    clear hli hn hc hlen HL hr HNL
    obtain ⟨A, n, c, vs, rfl, hn20, hn, hc, hnil, hr, hwc⟩ := hcut
    have HNL := Lib.hid hnil
    clear hnil
    have hwcz := hwc.size
    ((go_wp2_with fail); refine (rint_any _ _).mono ?_; rintro e w1 ⟨x1, rfl, hb1⟩; have hz1 := hb1.size; (try simp at hz1))
    ((go_wp2_with fail); refine (rint_any _ _).mono ?_; rintro e w2 ⟨x2, rfl, hb2⟩; have hz2 := hb2.size; (try simp at hz2))
    ((go_wp2_with fail); refine (rint_any _ _).mono ?_; rintro e w3 ⟨x3, rfl, hb3⟩; have hz3 := hb3.size; (try simp at hz3))
    ((go_wp2_with fail); refine (rint_any _ _).mono ?_; rintro e w4 ⟨x4, rfl, hb4⟩; have hz4 := hb4.size; (try simp at hz4))
    ((go_wp2_with fail); refine (rint_any _ _).mono ?_; rintro e w5 ⟨x5, rfl, hb5⟩; have hz5 := hb5.size; (try simp at hz5))
    ((go_wp2_with fail); refine (rint_any _ _).mono ?_; rintro e w6 ⟨x6, rfl, hb6⟩; have hz6 := hb6.size; (try simp at hz6))
    ((go_wp2_with fail); refine (rtext_any _ _).mono ?_; rintro e w7 ⟨x7, rfl, hb7⟩; have hz7 := hb7.size; (try simp at hz7))
    ((go_wp2_with fail); refine (rtext_any _ _).mono ?_; rintro e w8 ⟨x8, rfl, hb8⟩; have hz8 := hb8.size; (try simp at hz8))
    go_upto_if 33 with (at_builtin; refine wpList_appAny (v := .slice (some ⟨w8.heap.size, 0, none⟩) 9 9) rfl _ _ stV rfl rfl (own_new w8 ([V.null, x1, x2, x3, x4, x5, x6, x7, x8].flatMap V.cells).toArray 34 3 9 (by decide) rfl) rfl (news := vs.flatMap V.cells) (by rw [vcells_len, hr.len]) (by exact (hr.to (by (repeat (first | (with_reducible exact Below.refl _ _) | (with_reducible assumption) | (with_reducible refine Below.drew ?_) | (with_reducible refine below_drewN ?_ _) | ((with_reducible refine Below.setCell ?_ ?_ _); rotate_left; (focus (first | (simp; done) | (simp; omega) | omega))) | ((with_reducible refine Below.alloc ?_ ?_ _); rotate_left; (focus (first | (simp; done) | (simp; omega) | omega))) | ((with_reducible apply below_step1); (focus (with_reducible assumption))))))).rd) HNL.out (vcells_one _) (by omega) (by simp) ?_; intro v9 w9 own9 hg9 hat9; have hz9 := hg9.size; obtain ⟨B9, c9, rfl, hc9, _⟩ := own_slice own9)
    have hb9 : Below w.heap.size w w9 := below_app (W := w8.alloc (.cells ([V.null, x1, x2, x3, x4, x5, x6, x7, x8].flatMap V.cells).toArray 34)) (by (repeat (first | (with_reducible exact Below.refl _ _) | (with_reducible assumption) | (with_reducible refine Below.drew ?_) | (with_reducible refine below_drewN ?_ _) | ((with_reducible refine Below.setCell ?_ ?_ _); rotate_left; (focus (first | (simp; done) | (simp; omega) | omega))) | ((with_reducible refine Below.alloc ?_ ?_ _); rotate_left; (focus (first | (simp; done) | (simp; omega) | omega))) | ((with_reducible apply below_step1); (focus (with_reducible assumption)))))) (own_new w8 ([V.null, x1, x2, x3, x4, x5, x6, x7, x8].flatMap V.cells).toArray 34 3 9 (by decide) rfl) hg9 (by have := hwc.size; omega) (by have := hwc.size; simp; omega)
    have r9 : Row w9 w9.heap.size B9 (9 + n) ([V.null, x1, x2, x3, x4, x5, x6, x7, x8] ++ vs) := RowOf.of_own (by rw [List.flatMap_append]; exact own9) (by have := hr.len; simp; omega)
    obtain ⟨b, off, _, rfl, _⟩ := Row.at3 r9 (k := 0) (by omega)
    clear own9 hg9 hat9
    go_cut [6] (fun v6 wx => SelL w v6 wx)
    case first =>
      by_cases h12 : 12 < 9 + n
      · have t12 : (12 : Int) < 9 + (n : Int) := by omega
        have h2 : 12 ≤ c9 := by omega
        go_wp2_with fail
        go_meet
        exact ⟨b, off, 12, _, _, rfl, by omega, by omega, r9.take_ (by omega), hb9⟩
      · have t12 : ¬ (12 : Int) < 9 + (n : Int) := by omega
        go_wp2_with fail
        go_meet
        exact ⟨b, off, 9 + n, _, _, rfl, by omega, by omega, r9, hb9⟩
    case rest =>
      clear hb1 hb2 hb3 hb4 hb5 hb6 hb7 hb8 hb9 hz1 hz2 hz3 hz4 hz5 hz6 hz7 hz8 hz9 r9 hr hn hc hc9 HNL hn20 hwc hwcz
      obtain ⟨b, off, ln, lc, lvs, rfl, hl9, hl12, hrl, hwl⟩ := hcut
      obtain ⟨W0, rfl⟩ : ∃ W0, W0 = wc := ⟨_, rfl⟩
      have hwz := hwl.size
      have har := arity_range (3 + o)
      go_wp2_with fail
      go_loopw [7, 8] (fun v7 v8 wr => ∃ (i : Nat) (es : List T), v8 = .int .i64 (i : Int) ∧ es.length = i + 1 ∧ i ≤ 3 ∧ wr.ownsRow W0.heap.size 36 5 v7 (i + 1) (es.flatMap T.cells) ∧ Below W0.heap.size W0 wr) (fun _ v8 _ => 3 - (intOf v8).toNat)
      case atStart => exact ⟨0, [⟨3 + o, V.null, 0⟩], rfl, rfl, by omega, own_new W0 _ 36 5 1 (by decide) rfl, by (repeat (first | (with_reducible exact Below.refl _ _) | (with_reducible assumption) | (with_reducible refine Below.drew ?_) | (with_reducible refine below_drewN ?_ _) | ((with_reducible refine Below.setCell ?_ ?_ _); rotate_left; (focus (first | (simp; done) | (simp; omega) | omega))) | ((with_reducible refine Below.alloc ?_ ?_ _); rotate_left; (focus (first | (simp; done) | (simp; omega) | omega))) | ((with_reducible apply below_step1); (focus (with_reducible assumption)))))⟩
      case round =>
        obtain ⟨i, es, rfl, hes, hi, hown, hbel⟩ := hrel
        have HES := Lib.hid hes
        clear hes
        have hzz := hbel.size
        by_cases hlt : (i : Int) < arity (3 + o)
        · have hiw : IntKind.i64.wrap ((i : Int) + 1) = (i : Int) + 1 := IntWalk.i64_in _ (by omega)
          go_wp2_with (first
            | (go_at_call 17; refine (rarity _ _).mono ?_; rintro e w1 ⟨rfl, rfl⟩)
            | (at_builtin; refine wpList_app (v := u7) rfl _ _ stT rfl rfl (hown) rfl (by simp) rfl (by simp [Value.oneCell']) (by omega) (by omega) ?_; intro v' w3 own3 hg3 hat3))
          have hb3 := below_app hbel hown hg3 (Nat.le_refl _) (by omega)
          go_roundw
          case rel => exact ⟨i + 1, es ++ [tCol i], by go_num, by simp [HES.out], by omega, by rw [List.flatMap_append]; exact own3, hb3⟩
          case measure => simp [intOf]; omega
        · obtain ⟨EA, ec, rfl, hec1, hec2⟩ := own_slice hown
          have hre : RowT wr wr.heap.size EA (i + 1) es := RowOf.of_own hown HES.out
          have hw1 : Below w.heap.size w wr := below_up hbel hwl hwz
          have hrl1 := hrl.to hbel
          obtain ⟨W1, rfl⟩ : ∃ W1, W1 = wr := ⟨_, rfl⟩
          go_wp2_with (go_at_call 17; refine (rarity _ _).mono ?_; rintro e w1 ⟨rfl, rfl⟩)
          clear hown hbel hrl hwl hzz hwz
          go_loopw [9] (fun v9 wr => ∃ i : Nat, v9 = .int .i64 (i : Int) ∧ i ≤ ln ∧ Below W1.heap.size W1 wr) (fun v9 _ => ln - (intOf v9).toNat)
          case atStart => exact ⟨0, rfl, by omega, by (repeat (first | (with_reducible exact Below.refl _ _) | (with_reducible assumption) | (with_reducible refine Below.drew ?_) | (with_reducible refine below_drewN ?_ _) | ((with_reducible refine Below.setCell ?_ ?_ _); rotate_left; (focus (first | (simp; done) | (simp; omega) | omega))) | ((with_reducible refine Below.alloc ?_ ?_ _); rotate_left; (focus (first | (simp; done) | (simp; omega) | omega))) | ((with_reducible apply below_step1); (focus (with_reducible assumption)))))⟩
          case round =>
            obtain ⟨p, rfl, hp, hbel⟩ := hrel
            by_cases hpl : p < ln
            · have hpi : (p : Int) < (ln : Int) := by omega
              have hpw : IntKind.i64.wrap ((p : Int) + 1) = (p : Int) + 1 := IntWalk.i64_in _ (by omega)
              go_wp2_with fail
              go_loopw [10] (fun v10 wr => ∃ j : Nat, v10 = .int .i64 (j : Int) ∧ j ≤ ln ∧ Below W1.heap.size W1 wr) (fun v10 _ => ln - (intOf v10).toNat)
              case atStart => exact ⟨0, rfl, by omega, hbel⟩
              case round =>
                clear hbel
                obtain ⟨q, rfl, hq, hbel⟩ := hrel
                by_cases hql : q < ln
                · have hqi : (q : Int) < (ln : Int) := by omega
                  have hqw : IntKind.i64.wrap ((q : Int) + 1) = (q : Int) + 1 := IntWalk.i64_in _ (by omega)
                  have hrw := hrl1.to hbel
                  obtain ⟨b', off', x1, e1, hb1, _, c0, c1, c2⟩ := Row.at3 hrw hpl
                  obtain ⟨b'', off'', x2, e2, _, _, d0, d1, d2⟩ := Row.at3 hrw hql
                  obtain ⟨b3, off3, x3, e3, _, _, g0, g1, g2⟩ := Row.at3 hrw (show (p + q) % ln < ln from Nat.mod_lt _ (by omega))
                  injection e1 with e1
                  injection e1 with e11 e12
                  subst e11 e12
                  injection e2 with e2
                  injection e2 with e21 e22
                  subst e21 e22
                  injection e3 with e3
                  injection e3 with e31 e32
                  subst e31 e32
                  have hm1 : ((p : Int) + (q : Int)).tmod (ln : Int) = (((p + q) % ln : Nat) : Int) := by rw [Int.tmod_eq_emod_of_nonneg (by omega), Int.natCast_emod, Int.natCast_add]
                  have hml : (p + q) % ln < ln := Nat.mod_lt _ (by omega)
                  generalize (p + q) % ln = r at hm1 hml g0 g1 g2
                  have hri : (r : Int) < (ln : Int) := by omega
                  have hsw : IntKind.i64.wrap ((p : Int) + (q : Int)) = (p : Int) + (q : Int) := IntWalk.i64_in _ (by omega)
                  have hrw2 : IntKind.i64.wrap (r : Int) = (r : Int) := IntWalk.i64_in _ (by omega)
                  have p0 : (0 : Int) ≤ (p : Int) := by omega
                  have q0 : (0 : Int) ≤ (q : Int) := by omega
                  have r0 : (0 : Int) ≤ (r : Int) := by omega
                  have z0 : ((ln : Int) == 0) = false := by simp; omega
                  go_upto_region 18 with fail
                  go_cut [11] (fun v11 wx => SelR wr v11 wx)
                  case first =>
                    go_region_with (fail)
                    all_goals go_wp2_with fail
                    all_goals go_meet
                    all_goals exact ⟨_, [x1, x2, x3], rfl, (rowOf_new wr _ _ 3 [x1, x2, x3] rfl rfl).drew, by (repeat (first | (with_reducible exact Below.refl _ _) | (with_reducible assumption) | (with_reducible refine Below.drew ?_) | (with_reducible refine below_drewN ?_ _) | ((with_reducible refine Below.setCell ?_ ?_ _); rotate_left; (focus (first | (simp; done) | (simp; omega) | omega))) | ((with_reducible refine Below.alloc ?_ ?_ _); rotate_left; (focus (first | (simp; done) | (simp; omega) | omega))) | ((with_reducible apply below_step1); (focus (with_reducible assumption)))))⟩
                  case rest =>
                    obtain ⟨rb, rv, rfl, hrr, hbr⟩ := hcut
                    clear c0 c1 c2 d0 d1 d2 g0 g1 g2 hm1 hml hri hsw hrw2 p0 q0 r0 z0 hrw
                    have X1 := fun w1 h1 h2 => xeval EA (some ⟨rb, 0, none⟩) (i + 1) ec 3 3 es rv w1 (by unfold maxLen at *; omega) (by decide) h1 h2
                    have X2 := fun w1 h1 h2 => rval_c EA (some ⟨rb, 0, none⟩) (i + 1) ec 3 3 es rv w1 hec1 hec2 (by decide) h1 h2
                    have hneq := neq_self (evalE es rv)
                    generalize evalE es rv = ev at X1 X2 hneq
                    have hwq : Below W1.heap.size W1 wc := by (repeat (first | (with_reducible exact Below.refl _ _) | (with_reducible assumption) | (with_reducible refine Below.drew ?_) | (with_reducible refine below_drewN ?_ _) | ((with_reducible refine Below.setCell ?_ ?_ _); rotate_left; (focus (first | (simp; done) | (simp; omega) | omega))) | ((with_reducible refine Below.alloc ?_ ?_ _); rotate_left; (focus (first | (simp; done) | (simp; omega) | omega))) | ((with_reducible apply below_step1); (focus (with_reducible assumption)))))
                    go_wp2_with (first
                      | (go_at_call 24; refine (X1 _ (by exact hre.to hwq) (by exact hrr)).mono ?_; rintro e w1 ⟨rfl, hb1⟩; have hz1 := hb1.size; (try simp at hz1))
                      | (go_at_call 25; refine (X2 _ (by exact hre.to (by (repeat (first | (with_reducible exact Below.refl _ _) | (with_reducible assumption) | (with_reducible refine Below.drew ?_) | (with_reducible refine below_drewN ?_ _) | ((with_reducible refine Below.setCell ?_ ?_ _); rotate_left; (focus (first | (simp; done) | (simp; omega) | omega))) | ((with_reducible refine Below.alloc ?_ ?_ _); rotate_left; (focus (first | (simp; done) | (simp; omega) | omega))) | ((with_reducible apply below_step1); (focus (with_reducible assumption))))))) (by exact hrr.to (by (repeat (first | (with_reducible exact Below.refl _ _) | (with_reducible assumption) | (with_reducible refine Below.drew ?_) | (with_reducible refine below_drewN ?_ _) | ((with_reducible refine Below.setCell ?_ ?_ _); rotate_left; (focus (first | (simp; done) | (simp; omega) | omega))) | ((with_reducible refine Below.alloc ?_ ?_ _); rotate_left; (focus (first | (simp; done) | (simp; omega) | omega))) | ((with_reducible apply below_step1); (focus (with_reducible assumption)))))))).mono ?_; rintro e w2 ⟨rfl, hb2⟩; have hz2 := hb2.size; (try simp at hz2)))
                    go_roundw
                    case rel =>
                      go_light
                      exact ⟨q + 1, by go_num, by omega, by (repeat (first | (with_reducible exact Below.refl _ _) | (with_reducible assumption) | (with_reducible refine Below.drew ?_) | (with_reducible refine below_drewN ?_ _) | ((with_reducible refine Below.setCell ?_ ?_ _); rotate_left; (focus (first | (simp; done) | (simp; omega) | omega))) | ((with_reducible refine Below.alloc ?_ ?_ _); rotate_left; (focus (first | (simp; done) | (simp; omega) | omega))) | ((with_reducible apply below_step1); (focus (with_reducible assumption)))))⟩
                    case measure => simp [intOf]; omega
                · have hqi : ¬ (q : Int) < (ln : Int) := by omega
                  go_wp2_with fail
                  go_roundw
                  case rel => exact ⟨p + 1, by go_num, by omega, hbel⟩
                  case measure => simp [intOf]; omega
            · have hpi : ¬ (p : Int) < (ln : Int) := by omega
              go_wp2_with ((go_at_call 20; refine (awake_c _ (by exact hG.below (by (repeat (first | (with_reducible exact Below.refl _ _) | (with_reducible assumption) | (with_reducible refine Below.drew ?_) | (with_reducible refine below_drewN ?_ _) | ((with_reducible refine Below.setCell ?_ ?_ _); rotate_left; (focus (first | (simp; done) | (simp; omega) | omega))) | ((with_reducible refine Below.alloc ?_ ?_ _); rotate_left; (focus (first | (simp; done) | (simp; omega) | omega))) | ((with_reducible apply below_step1); (focus (with_reducible assumption)))))))).mono ?_; rintro e w1 ⟨rfl, hb1⟩; have hz1 := hb1.size; (try simp at hz1)))
              go_ret
              exact ⟨rfl, by (repeat (first | (with_reducible exact Below.refl _ _) | (with_reducible assumption) | (with_reducible refine Below.drew ?_) | (with_reducible refine below_drewN ?_ _) | ((with_reducible refine Below.setCell ?_ ?_ _); rotate_left; (focus (first | (simp; done) | (simp; omega) | omega))) | ((with_reducible refine Below.alloc ?_ ?_ _); rotate_left; (focus (first | (simp; done) | (simp; omega) | omega))) | ((with_reducible apply below_step1); (focus (with_reducible assumption)))))⟩
end Go.Proofs.YtojcabnjodfdmaaDoor
