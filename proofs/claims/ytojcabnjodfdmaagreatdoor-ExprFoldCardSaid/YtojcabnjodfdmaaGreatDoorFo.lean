/- The law ExprFold, the walk; the table of powers of ten is as it is laid. -/
import Derived.Test.YtojcabnjodfdmaaGreatDoorBc
import Derived.Test.YtojcabnjodfdmaaGreatDoorBd
import Derived.Test.YtojcabnjodfdmaaGreatDoorBa
import Derived.Test.YtojcabnjodfdmaaGreatDoorTm
import Derived.Test.YtojcabnjodfdmaaGreatDoorFc
import Derived.Test.YtojcabnjodfdmaaGreatDoorFi
import Derived.Test.YtojcabnjodfdmaaGreatDoorFn
import Derived.Test.YtojcabnjodfdmaaGreatDoorXComp
import Derived.Deep.DeepCutAuto
namespace Go.Proofs.YtojcabnjodfdmaaGreatDoor
open Go.RowKit

theorem fold_law {x : X} (hw : x.wf = true) (hd : x.depth ≤ 4) : ∃ yl, foldE x.flat = yl ∧ foldE yl = yl ∧ validE yl = true ∧ (∀ row, evalE yl row = evalE x.flat row) ∧ (∀ types, types.all okT = true → (typeE x.flat types).2 = 0 → typeE yl types = typeE x.flat types) ∧ yl.length ≤ 40 := by
  have hs := X.size4 hw hd
  have fs := X.fold_size x
  have fw := X.fold_wf x hw
  have ht := treeE_flat (by omega) hw (by omega : x.depth ≤ 16)
  have hu := treeE_flat (x := x.fold) (by omega) fw (by omega)
  refine ⟨x.fold.flat, foldE_ok ht, ?_, valid4 fw (by omega), fun row => ?_, fun types hT h0 => ?_, by omega⟩
  · rw [foldE_ok hu, X.fold_fold]
  · rw [evalE_flat fw (valid4 fw (by omega)), evalE_flat hw (valid4 hw hd), X.fold_ev x hw]
  · rw [typeE_ok ht hT] at h0 ⊢
    rw [typeE_ok hu hT]
    cases h : x.ty types with
    | error e => rw [h] at h0; have h1 := X.ty_err types x e h; exfalso; simp [tyRes] at h0; omega
    | ok k => rw [X.fold_ty types x hw k h]
theorem own_room {w : World} {base : Nat} {e : TypeId} {size n c : Nat} {A : Option Addr} {xs : List Value} (h : w.ownsRow base e size (.slice A n c) n xs) : n ≤ c ∧ c ≤ maxLen := by
  obtain ⟨A', c', e1, h1, h2⟩ := own_slice h
  injection e1 with _ _ e1
  subst e1
  exact ⟨h1, h2⟩
theorem rowI_new {w : World} {lb n : Nat} {cs : Array Value} {t : TypeId} {zs : List Int} (hc : w.heap[lb]? = some (.cells cs t (0, 0))) (hn : zs.length = n) (hz : cs.toList = zs.flatMap (fun z => [Value.int .i64 z])) : RowI w w.heap.size (some ⟨lb, 0, none⟩) n zs := by
  have hlt : lb < w.heap.size := by
    rcases Nat.lt_or_ge lb w.heap.size with hl | hl
    · exact hl
    · rw [Array.getElem?_eq_none hl] at hc; cases hc
  obtain ⟨cc, _⟩ := blk_rules hc
  refine ⟨hn, fun _ => ⟨lb, 0, rfl, hlt, fun j u hu => ?_⟩⟩
  rw [← hz] at hu
  rw [Nat.zero_add, cc j]
  simpa using hu
theorem eqV_self (v : V) (w : World) : (binOp .eql 38 (.agg #[.int .i64 v.k, .int .i64 v.n, .string v.s]) (.agg #[.int .i64 v.k, .int .i64 v.n, .string v.s])).run Tryz.prog w = .ok (.bool true) w := by
  rw [run_eqV, show eqB v.k v.n v.s v.k v.n v.s = v.beq v from rfl, (V.beq_iff v v).2 rfl]
def SelF (w w1 : World) (v1 : Value) (wx : World) : Prop := ∃ A n c es, v1 = .slice A n c ∧ n ≤ 80 ∧ n ≤ c ∧ c ≤ maxLen ∧ RowT w w.heap.size A n es ∧ w1 = wx
set_option maxRecDepth 100000 in
set_option maxHeartbeats 4000000 in
theorem exprFold_w (Z A : Option Addr) (zn zc n c : Nat) (zs : List Int) (es : List T) (w : World) (hz : IntsR w Z zn zc zs) (hn : n ≤ c) (hc : c ≤ maxLen) (hr : RowT w w.heap.size A n es) (hG : G w) :
    Calls Tryz.prog 3 #[.slice Z zn zc, .slice A n c] w fun e w' => e = .returned (.bool true) ∧ Below w.heap.size w w' := by
  have hnew := new_c Z zn zc zs w hz
  clear hz
  go_enter Tryz.func3, Tryz.ntmps3
  go_wp2_with fail
  refine hnew.mono ?_
  rintro e w1 ⟨b, g, rfl, htp, hb0, hg0, hb1⟩
  have hz1 := hb1.size
  have hr1 := hr.to hb1
  have hli := light_c A none n c 0 0 es [] w1 (by omega) (by decide) hr1 RowOf.nil_
  have HL := Lib.hid (fun h => (light_len (es := es) (row := []) h).1)
  have hlen := hr.len
  obtain ⟨lb, hlb⟩ : ∃ lb, lightB es [] = lb := ⟨_, rfl⟩
  rw [hlb] at hli HL
  clear hlb hnew
  go_upto_if 18 with (go_at_call 6; refine hli.mono ?_; rintro e w2 ⟨rfl, rfl⟩)
  go_cut [1] (fun v1 wx => SelF w w1 v1 wx)
  case first =>
    cases lb
    · go_wp2_with fail
      go_meet
      exact ⟨none, 0, 0, [], rfl, by omega, by omega, by decide, RowOf.nil_, rfl⟩
    · go_wp2_with fail
      go_meet
      exact ⟨A, n, c, es, rfl, by have := HL.out (by simp); omega, hn, hc, hr, rfl⟩
  case rest =>
    clear hli hn hc hr1 hr HL hlen
    obtain ⟨A, n, c, es, rfl, hn80, hn, hc, hr, rfl⟩ := hcut
    go_wp2_with fail
    refine (texpr b g 2 (by omega) (by omega) 3 _ (by omega) (by omega) htp).mono ?_
    rintro e w4 ⟨A4, c4, x4, rfl, o4, f4, d4, cl4, ht4, hg4⟩
    have hz4 := hg4.size
    have hb4 : Below w.heap.size w w4 := hb1.grown hg4 hz1 (fun k hk => by injection hk with hk; omega)
    have S4 := X.size4 f4 (by omega)
    have P4 := own_room o4
    have K4 := RowX.of_own (b := b) o4 rfl (by have := htp.lt; omega)
    obtain ⟨yl, hy, hyy, hyv, hye, hyt, hyl⟩ := fold_law f4 (by omega)
    generalize x4.flat = xl at S4 P4 K4 hy hye hyt
    have HYE := Lib.hid hye
    have HYT := Lib.hid hyt
    clear o4 f4 d4 cl4 hg4 htp hye hyt
    have hfx := xfold A4 xl.length c4 xl w4 (by unfold maxLen; omega) K4.row
    have hgx := fun w h => rfold A4 xl.length c4 xl w P4.1 P4.2 h
    have hfe := fun w h => xfold A n c es w (by omega) h
    have hge := fun w h => rfold A n c es w hn hc h
    obtain ⟨zl, hzl⟩ : ∃ zl, foldE es = zl := ⟨_, rfl⟩
    rw [hzl] at hge hfe
    rw [hy] at hfx hgx
    clear hzl hy
    unfold FdPost at hfx
    go_wp2_with fail
    refine hfx.mono ?_
    rintro e w5 ⟨A5, c5, rfl, o5, hb5⟩
    have hz5 := hb5.size
    have ht5 := ht4.step hb5
    have L4 := K4.step hb5
    have L5 := RowX.of_own (b := b) o5 rfl (by have := ht4.lt; omega)
    have re := hr.to (below_step1 hb5 hb4)
    have hb15 := below_step1 hb5 hb4
    have hfy := fun w h => xfold A5 yl.length c5 yl w (by unfold maxLen; omega) h
    rw [hyy] at hfy
    have hvy := fun w h => xvalidE A5 yl.length c5 yl w (by unfold maxLen; omega) h
    rw [hyv] at hvy
    clear hfx o5 K4 ht4 hr hyy hyv hb5 hb4
    have e5 : Below w5.heap.size w5 w5 := Below.refl _ _
    unfold FdPost at hgx hfe hge hfy
    go_wp2_with fail
    refine (hgx _ L4.row).mono ?_
    rintro e w6 ⟨A6, c6, rfl, o6, hb6⟩
    have hz6 := hb6.size
    have r6 : RowT w6 w6.heap.size A6 yl.length yl := RowOf.of_own o6 rfl
    clear o6 hgx
    ((go_wp2_with fail); refine (rsame A5 A6 yl.length c5 c6 yl _ (by unfold maxLen; omega) (by exact L5.row.to (by (repeat (first | (with_reducible exact Below.refl _ _) | (with_reducible assumption) | (with_reducible refine Below.drew ?_) | (with_reducible refine below_drewN ?_ _) | ((with_reducible refine Below.setCell ?_ ?_ _); rotate_left; (focus (first | (simp; done) | (simp; omega) | omega))) | ((with_reducible refine Below.alloc ?_ ?_ _); rotate_left; (focus (first | (simp; done) | (simp; omega) | omega))) | ((with_reducible apply below_step1); (focus (with_reducible assumption))))))) r6).mono ?_; rintro e w7 ⟨rfl, hb7⟩; have hz7 := hb7.size; (try simp at hz7))
    have e7 : Below w5.heap.size w5 w7 := by (repeat (first | (with_reducible exact Below.refl _ _) | (with_reducible assumption) | (with_reducible refine Below.drew ?_) | (with_reducible refine below_drewN ?_ _) | ((with_reducible refine Below.setCell ?_ ?_ _); rotate_left; (focus (first | (simp; done) | (simp; omega) | omega))) | ((with_reducible refine Below.alloc ?_ ?_ _); rotate_left; (focus (first | (simp; done) | (simp; omega) | omega))) | ((with_reducible apply below_step1); (focus (with_reducible assumption)))))
    go_wp2_with fail
    refine (hfe _ (by exact re.to (by (repeat (first | (with_reducible exact Below.refl _ _) | (with_reducible assumption) | (with_reducible refine Below.drew ?_) | (with_reducible refine below_drewN ?_ _) | ((with_reducible refine Below.setCell ?_ ?_ _); rotate_left; (focus (first | (simp; done) | (simp; omega) | omega))) | ((with_reducible refine Below.alloc ?_ ?_ _); rotate_left; (focus (first | (simp; done) | (simp; omega) | omega))) | ((with_reducible apply below_step1); (focus (with_reducible assumption)))))))).mono ?_
    rintro e w8 ⟨A8, c8, rfl, o8, hb8⟩
    have hz8 := hb8.size
    have P8 := own_room o8
    have r8 : RowT w8 w8.heap.size A8 zl.length zl := RowOf.of_own o8 rfl
    clear o8 hfe r6
    go_wp2_with fail
    refine (hge _ (by exact re.to (by (repeat (first | (with_reducible exact Below.refl _ _) | (with_reducible assumption) | (with_reducible refine Below.drew ?_) | (with_reducible refine below_drewN ?_ _) | ((with_reducible refine Below.setCell ?_ ?_ _); rotate_left; (focus (first | (simp; done) | (simp; omega) | omega))) | ((with_reducible refine Below.alloc ?_ ?_ _); rotate_left; (focus (first | (simp; done) | (simp; omega) | omega))) | ((with_reducible apply below_step1); (focus (with_reducible assumption)))))))).mono ?_
    rintro e w9 ⟨A9, c9, rfl, o9, hb9⟩
    have hz9 := hb9.size
    have r9 : RowT w9 w9.heap.size A9 zl.length zl := RowOf.of_own o9 rfl
    clear o9 hge
    ((go_wp2_with fail); refine (rsame A8 A9 zl.length c8 c9 zl _ (by omega) (by exact r8.to (by (repeat (first | (with_reducible exact Below.refl _ _) | (with_reducible assumption) | (with_reducible refine Below.drew ?_) | (with_reducible refine below_drewN ?_ _) | ((with_reducible refine Below.setCell ?_ ?_ _); rotate_left; (focus (first | (simp; done) | (simp; omega) | omega))) | ((with_reducible refine Below.alloc ?_ ?_ _); rotate_left; (focus (first | (simp; done) | (simp; omega) | omega))) | ((with_reducible apply below_step1); (focus (with_reducible assumption))))))) r9).mono ?_; rintro e w10 ⟨rfl, hb10⟩; have hz10 := hb10.size; (try simp at hz10))
    clear r8 r9
    go_wp2_with fail
    refine (hfy _ (by exact L5.row.to (by (repeat (first | (with_reducible exact Below.refl _ _) | (with_reducible assumption) | (with_reducible refine Below.drew ?_) | (with_reducible refine below_drewN ?_ _) | ((with_reducible refine Below.setCell ?_ ?_ _); rotate_left; (focus (first | (simp; done) | (simp; omega) | omega))) | ((with_reducible refine Below.alloc ?_ ?_ _); rotate_left; (focus (first | (simp; done) | (simp; omega) | omega))) | ((with_reducible apply below_step1); (focus (with_reducible assumption)))))))).mono ?_
    rintro e w11 ⟨A11, c11, rfl, o11, hb11⟩
    have hz11 := hb11.size
    have r11 : RowT w11 w11.heap.size A11 yl.length yl := RowOf.of_own o11 rfl
    clear o11 hfy
    ((go_wp2_with fail); refine (rsame A11 A5 yl.length c11 c5 yl _ (by unfold maxLen; omega) r11 (by exact L5.row.to (by (repeat (first | (with_reducible exact Below.refl _ _) | (with_reducible assumption) | (with_reducible refine Below.drew ?_) | (with_reducible refine below_drewN ?_ _) | ((with_reducible refine Below.setCell ?_ ?_ _); rotate_left; (focus (first | (simp; done) | (simp; omega) | omega))) | ((with_reducible refine Below.alloc ?_ ?_ _); rotate_left; (focus (first | (simp; done) | (simp; omega) | omega))) | ((with_reducible apply below_step1); (focus (with_reducible assumption)))))))).mono ?_; rintro e w12 ⟨rfl, hb12⟩; have hz12 := hb12.size; (try simp at hz12))
    ((go_wp2_with fail); refine (hvy _ (by exact L5.row.to (by (repeat (first | (with_reducible exact Below.refl _ _) | (with_reducible assumption) | (with_reducible refine Below.drew ?_) | (with_reducible refine below_drewN ?_ _) | ((with_reducible refine Below.setCell ?_ ?_ _); rotate_left; (focus (first | (simp; done) | (simp; omega) | omega))) | ((with_reducible refine Below.alloc ?_ ?_ _); rotate_left; (focus (first | (simp; done) | (simp; omega) | omega))) | ((with_reducible apply below_step1); (focus (with_reducible assumption)))))))).mono ?_; rintro e w13 ⟨rfl, hb13⟩; have hz13 := hb13.size; (try simp at hz13))
    have e13 : Below w5.heap.size w5 w13 := by (repeat (first | (with_reducible exact Below.refl _ _) | (with_reducible assumption) | (with_reducible refine Below.drew ?_) | (with_reducible refine below_drewN ?_ _) | ((with_reducible refine Below.setCell ?_ ?_ _); rotate_left; (focus (first | (simp; done) | (simp; omega) | omega))) | ((with_reducible refine Below.alloc ?_ ?_ _); rotate_left; (focus (first | (simp; done) | (simp; omega) | omega))) | ((with_reducible apply below_step1); (focus (with_reducible assumption)))))
    have M4 := L4.step e13
    have M5 := L5.step e13
    have ht13 := ht5.step e13
    have hb113 : Below w.heap.size w w13 := by (repeat (first | (with_reducible exact Below.refl _ _) | (with_reducible assumption) | (with_reducible refine Below.drew ?_) | (with_reducible refine below_drewN ?_ _) | ((with_reducible refine Below.setCell ?_ ?_ _); rotate_left; (focus (first | (simp; done) | (simp; omega) | omega))) | ((with_reducible refine Below.alloc ?_ ?_ _); rotate_left; (focus (first | (simp; done) | (simp; omega) | omega))) | ((with_reducible apply below_step1); (focus (with_reducible assumption)))))
    clear r11 hvy L4 L5 ht5 re hb15 e5 e7 hb6 hb7 hb8 hb9 hb10 hb11 hb12 hb13 P8
    go_wp2_with fail
    refine (trow b g 2 _ (by omega) ht13).mono ?_
    rintro e w14 ⟨v14, r14, rfl, o14, ok14, l14, ht14, hg14⟩
    have hz14 := hg14.size
    obtain ⟨A14, c14, rfl, hc14, hc14'⟩ := own_slice o14
    go_wp2_with fail
    refine (next_c b g 2 _ (by omega) ht14).mono ?_
    rintro e w15 ⟨r15, rfl, hr15, ht15, hg15, hs15⟩
    have hz15 := hg15.size
    have hr15' : r15 < 2 := by have : (r15 : Int) < max 2 1 := hr15; omega
    have hw15 : IntKind.i64.wrap (1 + (r15 : Int)) = 1 + (r15 : Int) := IntWalk.i64_in _ (by omega)
    obtain ⟨t1, ht1⟩ : ∃ t1 : Int, 1 + (r15 : Int) = t1 := ⟨_, rfl⟩
    have h12 : t1 = 1 ∨ t1 = 2 := by omega
    have hx15 := hw15.trans ht1
    clear hw15
    clear hs15 hr15 ht1
    go_wp2_with fail
    refine (next_c b g 2 _ (by omega) ht15).mono ?_
    rintro e w16 ⟨r16, rfl, hr16, ht16, hg16, hs16⟩
    have hz16 := hg16.size
    have hr16' : r16 < 2 := by have : (r16 : Int) < max 2 1 := hr16; omega
    have hw16 : IntKind.i64.wrap (1 + (r16 : Int)) = 1 + (r16 : Int) := IntWalk.i64_in _ (by omega)
    obtain ⟨t2, ht2⟩ : ∃ t2 : Int, 1 + (r16 : Int) = t2 := ⟨_, rfl⟩
    have h22 : t2 = 1 ∨ t2 = 2 := by omega
    have hx16 := hw16.trans ht2
    clear hw16
    clear hs16 hr16 ht2
    have g16 := grown_trans (grown_trans hg14 hg15) hg16
    have N4 := M4.tape g16
    have N5 := M5.tape g16
    have O14 := own_tape (own_tape o14 hg15 (by have := ht13.lt; omega)) hg16 (by have := ht13.lt; omega)
    have q14 : Row w16 w16.heap.size A14 r14.length r14 := RowOf.of_own O14 rfl
    have hb16 : Below w.heap.size w w16 := hb113.grown g16 (by omega) (fun k hk => by injection hk with hk; omega)
    have hal := (Below.refl w16.heap.size w16).alloc (Nat.le_refl _) (.cells #[.int .i64 t1, .int .i64 t2] 3)
    have hK := rowI_new (zs := [t1, t2]) (heap_alloc_new w16 (.cells #[.int .i64 t1, .int .i64 t2] 3)) rfl rfl
    have hT : [t1, t2].all okT = true := by
      rcases h12 with rfl | rfl <;> rcases h22 with rfl | rfl <;> rfl
    have TY := HYT.out _ hT
    have EV := HYE.out r14
    clear M4 M5 o14 O14 ok14 ht14 ht15 ht16 hg14 hg15 hg16 ht13 e13 hb113 HYT HYE hT h12 h22
    go_wp2_with fail
    obtain ⟨W, hW⟩ : ∃ W, w16.alloc (.cells #[.int .i64 t1, .int .i64 t2] 3) = W := ⟨_, rfl⟩
    rw [hW] at hK hal
    rw [hW]
    have hzW := hal.size
    have R4 := N4.row.to hal
    have R5 := N5.row.to hal
    have R14 := q14.to hal
    have hbW := below_step1 hal hb16
    clear hW hal N4 N5 q14 hb16 g16 hx15 hx16 hr15' hr16'
    have X1 := xtype A4 (some ⟨w16.heap.size, 0, none⟩) xl.length c4 2 2 xl [t1, t2] W (by unfold maxLen; omega) (by decide) R4 hK
    have X2 := fun w h1 h2 => xtype A5 (some ⟨w16.heap.size, 0, none⟩) yl.length c5 2 2 yl [t1, t2] w (by unfold maxLen; omega) (by decide) h1 h2
    have X3 := fun w h1 h2 => xeval A4 A14 xl.length c4 r14.length c14 xl r14 w (by unfold maxLen; omega) (by unfold maxLen; omega) h1 h2
    have X4 := fun w h1 h2 => xeval A5 A14 yl.length c5 r14.length c14 yl r14 w (by unfold maxLen; omega) (by unfold maxLen; omega) h1 h2
    obtain ⟨⟨ta, tf⟩, hta⟩ : ∃ p, typeE xl [t1, t2] = p := ⟨_, rfl⟩
    obtain ⟨⟨tb, tg⟩, htb⟩ : ∃ p, typeE yl [t1, t2] = p := ⟨_, rfl⟩
    obtain ⟨ev, hev⟩ : ∃ ev, evalE xl r14 = ev := ⟨_, rfl⟩
    rw [hta] at X1 TY
    rw [htb] at X2 TY
    rw [EV] at X4
    rw [hev] at X3 X4
    have heq := eqV_self ev
    clear hta htb hev EV
    unfold TyePost at X1 X2
    simp only at X1 X2 TY
    obtain ⟨kb, hkb⟩ : ∃ kb, w16.heap.size = kb := ⟨_, rfl⟩
    rw [hkb] at X1 X2 hK
    rw [hkb]
    clear hkb
    refine X1.mono ?_
    rintro e w17 ⟨rfl, hb17⟩
    have hz17 := hb17.size
    ((go_wp2_with fail); refine (X2 _ (by exact R5.to (by (repeat (first | (with_reducible exact Below.refl _ _) | (with_reducible assumption) | (with_reducible refine Below.drew ?_) | (with_reducible refine below_drewN ?_ _) | ((with_reducible refine Below.setCell ?_ ?_ _); rotate_left; (focus (first | (simp; done) | (simp; omega) | omega))) | ((with_reducible refine Below.alloc ?_ ?_ _); rotate_left; (focus (first | (simp; done) | (simp; omega) | omega))) | ((with_reducible apply below_step1); (focus (with_reducible assumption))))))) (by exact hK.to (by (repeat (first | (with_reducible exact Below.refl _ _) | (with_reducible assumption) | (with_reducible refine Below.drew ?_) | (with_reducible refine below_drewN ?_ _) | ((with_reducible refine Below.setCell ?_ ?_ _); rotate_left; (focus (first | (simp; done) | (simp; omega) | omega))) | ((with_reducible refine Below.alloc ?_ ?_ _); rotate_left; (focus (first | (simp; done) | (simp; omega) | omega))) | ((with_reducible apply below_step1); (focus (with_reducible assumption)))))))).mono ?_; rintro e w18 ⟨rfl, hb18⟩; have hz18 := hb18.size; (try simp at hz18))
    ((go_wp2_with fail); refine (X3 _ (by exact R4.to (by (repeat (first | (with_reducible exact Below.refl _ _) | (with_reducible assumption) | (with_reducible refine Below.drew ?_) | (with_reducible refine below_drewN ?_ _) | ((with_reducible refine Below.setCell ?_ ?_ _); rotate_left; (focus (first | (simp; done) | (simp; omega) | omega))) | ((with_reducible refine Below.alloc ?_ ?_ _); rotate_left; (focus (first | (simp; done) | (simp; omega) | omega))) | ((with_reducible apply below_step1); (focus (with_reducible assumption))))))) (by exact R14.to (by (repeat (first | (with_reducible exact Below.refl _ _) | (with_reducible assumption) | (with_reducible refine Below.drew ?_) | (with_reducible refine below_drewN ?_ _) | ((with_reducible refine Below.setCell ?_ ?_ _); rotate_left; (focus (first | (simp; done) | (simp; omega) | omega))) | ((with_reducible refine Below.alloc ?_ ?_ _); rotate_left; (focus (first | (simp; done) | (simp; omega) | omega))) | ((with_reducible apply below_step1); (focus (with_reducible assumption)))))))).mono ?_; rintro e w19 ⟨rfl, hb19⟩; have hz19 := hb19.size; (try simp at hz19))
    ((go_wp2_with fail); refine (X4 _ (by exact R5.to (by (repeat (first | (with_reducible exact Below.refl _ _) | (with_reducible assumption) | (with_reducible refine Below.drew ?_) | (with_reducible refine below_drewN ?_ _) | ((with_reducible refine Below.setCell ?_ ?_ _); rotate_left; (focus (first | (simp; done) | (simp; omega) | omega))) | ((with_reducible refine Below.alloc ?_ ?_ _); rotate_left; (focus (first | (simp; done) | (simp; omega) | omega))) | ((with_reducible apply below_step1); (focus (with_reducible assumption))))))) (by exact R14.to (by (repeat (first | (with_reducible exact Below.refl _ _) | (with_reducible assumption) | (with_reducible refine Below.drew ?_) | (with_reducible refine below_drewN ?_ _) | ((with_reducible refine Below.setCell ?_ ?_ _); rotate_left; (focus (first | (simp; done) | (simp; omega) | omega))) | ((with_reducible refine Below.alloc ?_ ?_ _); rotate_left; (focus (first | (simp; done) | (simp; omega) | omega))) | ((with_reducible apply below_step1); (focus (with_reducible assumption)))))))).mono ?_; rintro e w20 ⟨rfl, hb20⟩; have hz20 := hb20.size; (try simp at hz20))
    clear X1 X2 X3 X4 R4 R5 R14 hK
    by_cases hf : tf = 0
    · have h1 := TY hf
      injection h1 with h1 h2
      subst h1 h2 hf
      clear TY
      ((go_wp2_with fail); refine (awake_c _ (by exact hG.below (by (repeat (first | (with_reducible exact Below.refl _ _) | (with_reducible assumption) | (with_reducible refine Below.drew ?_) | (with_reducible refine below_drewN ?_ _) | ((with_reducible refine Below.setCell ?_ ?_ _); rotate_left; (focus (first | (simp; done) | (simp; omega) | omega))) | ((with_reducible refine Below.alloc ?_ ?_ _); rotate_left; (focus (first | (simp; done) | (simp; omega) | omega))) | ((with_reducible apply below_step1); (focus (with_reducible assumption)))))))).mono ?_; rintro e w21 ⟨rfl, hb21⟩; have hz21 := hb21.size; (try simp at hz21))
      go_wp2_with fail
      go_ret
      exact ⟨rfl, by (repeat (first | (with_reducible exact Below.refl _ _) | (with_reducible assumption) | (with_reducible refine Below.drew ?_) | (with_reducible refine below_drewN ?_ _) | ((with_reducible refine Below.setCell ?_ ?_ _); rotate_left; (focus (first | (simp; done) | (simp; omega) | omega))) | ((with_reducible refine Below.alloc ?_ ?_ _); rotate_left; (focus (first | (simp; done) | (simp; omega) | omega))) | ((with_reducible apply below_step1); (focus (with_reducible assumption)))))⟩
    · have tn : (tf != 0) = true := by simpa using hf
      clear TY hf
      ((go_wp2_with fail); refine (awake_c _ (by exact hG.below (by (repeat (first | (with_reducible exact Below.refl _ _) | (with_reducible assumption) | (with_reducible refine Below.drew ?_) | (with_reducible refine below_drewN ?_ _) | ((with_reducible refine Below.setCell ?_ ?_ _); rotate_left; (focus (first | (simp; done) | (simp; omega) | omega))) | ((with_reducible refine Below.alloc ?_ ?_ _); rotate_left; (focus (first | (simp; done) | (simp; omega) | omega))) | ((with_reducible apply below_step1); (focus (with_reducible assumption)))))))).mono ?_; rintro e w21 ⟨rfl, hb21⟩; have hz21 := hb21.size; (try simp at hz21))
      go_wp2_with fail
      go_ret
      exact ⟨rfl, by (repeat (first | (with_reducible exact Below.refl _ _) | (with_reducible assumption) | (with_reducible refine Below.drew ?_) | (with_reducible refine below_drewN ?_ _) | ((with_reducible refine Below.setCell ?_ ?_ _); rotate_left; (focus (first | (simp; done) | (simp; omega) | omega))) | ((with_reducible refine Below.alloc ?_ ?_ _); rotate_left; (focus (first | (simp; done) | (simp; omega) | omega))) | ((with_reducible apply below_step1); (focus (with_reducible assumption)))))⟩
end Go.Proofs.YtojcabnjodfdmaaGreatDoor
