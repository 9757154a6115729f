/- The law ExprSound, the walk; the table of powers of ten is as it is laid. -/
import Derived.Test.YtojcabnjodfdmaaDoorTq
import Derived.Test.YtojcabnjodfdmaaDoorFi
import Derived.Test.YtojcabnjodfdmaaDoorXComp
namespace Go.Proofs.YtojcabnjodfdmaaDoor
open Go.RowKit

theorem typeE_flat {x : X} {types : List Int} {k : Int} (hw : x.wf = true) (hd : x.depth ≤ 4) (hT : types.all okT = true) (h : x.ty types = .ok k) : typeE x.flat types = (k, 0) := by
  have hs := X.size4 hw hd
  rw [typeE_ok (treeE_flat (by omega) hw (by omega)) hT, h]
  rfl
theorem rowK_blk {w : World} {b lb n : Nat} {cs : Array Value} {t : TypeId} {zs : List Int} (hc : w.heap[lb]? = some (.cells cs t (0, 0))) (hlb : lb ≠ b) (hn : zs.length = n) (hz : cs.toList = zs.flatMap (fun z => [Value.int .i64 z])) : RowK w b (some ⟨lb, 0, none⟩) n zs := by
  intro W hW
  have hlt : lb < w.heap.size := by
    rcases Nat.lt_or_ge lb w.heap.size with hl | hl
    · exact hl
    · rw [Array.getElem?_eq_none hl] at hc; cases hc
  have hc2 := (hW.block lb hlt (fun e => hlb (by injection e))).trans hc
  obtain ⟨cc, _⟩ := blk_rules hc2
  refine ⟨hn, fun _ => ⟨lb, 0, rfl, Nat.lt_of_lt_of_le hlt hW.size, fun j u hu => ?_⟩⟩
  rw [← hz] at hu
  rw [Nat.zero_add, cc j]
  simpa using hu
set_option maxRecDepth 100000 in
set_option maxHeartbeats 8000000 in
theorem exprSound_w (Z : Option Addr) (zn zc : Nat) (zs : List Int) (w : World) (hz : IntsR w Z zn zc zs) (hG : G w) :
    Calls Tryd.prog 11 #[.slice Z zn zc] w fun e w' => e = .returned (.bool true) ∧ Below w.heap.size w w' := by
  have hnew := new_c Z zn zc zs w hz
  clear hz
  have hT : ∀ z ∈ ([1, 2, 1] : List Int), z = 1 ∨ z = 2 := by intro z hz; simp at hz; omega
  have hTa : ([1, 2, 1] : List Int).all okT = true := by decide
  have HT := Lib.hid hT
  have HTA := Lib.hid hTa
  clear hT hTa
  go_enter Tryd.func11, Tryd.ntmps11
  go_wp2_with fail
  refine hnew.mono ?_
  rintro e w1 ⟨b, g, rfl, htp, hb0, hg0, hb1⟩
  have hz1 := hb1.size
  clear hnew
  have hal := (Below.refl w1.heap.size w1).alloc (Nat.le_refl _) (.cells #[.int .i64 1, .int .i64 2, .int .i64 1] 3)
  have hK := rowK_blk (b := b) (zs := [1, 2, 1]) (heap_alloc_new w1 (.cells #[.int .i64 1, .int .i64 2, .int .i64 1] 3)) (by have := htp.lt; omega) rfl rfl
  have ht1 := htp.alloc (.cells #[.int .i64 1, .int .i64 2, .int .i64 1] 3)
  have g1 : w1.grownBy (w1.alloc (.cells #[.int .i64 1, .int .i64 2, .int .i64 1] 3)) (some b) := grown_of_below hal _
  have hb2 := below_step1 hal hb1
  go_wp2_with fail
  obtain ⟨W, hW⟩ : ∃ W, w1.alloc (.cells #[.int .i64 1, .int .i64 2, .int .i64 1] 3) = W := ⟨_, rfl⟩
  rw [hW] at hK ht1 g1 hb2
  rw [hW]
  have hzW := g1.size
  clear hW hal htp
  obtain ⟨tb, htb⟩ : ∃ tb, w1.heap.size = tb := ⟨_, rfl⟩
  rw [htb] at hK
  rw [htb]
  clear htb
  have hbW : w.heap.size ≤ W.heap.size := hb2.size
  go_loopw [5] (fun v5 wr => ∃ i : Nat, v5 = .int .i64 (i : Int) ∧ i ≤ 4 ∧ Tp wr b g ∧ W.grownBy wr (some b)) (fun v5 _ => 4 - (intOf v5).toNat)
  case atStart => exact ⟨0, rfl, by omega, ht1, grown_refl _ _⟩
  case round =>
    obtain ⟨i, rfl, hi, htr, hgr⟩ := hrel
    have hzr := hgr.size
    by_cases hi3 : i < 4
    · have t5 : (i : Int) < 4 := by omega
      have hiw : IntKind.i64.wrap ((i : Int) + 1) = (i : Int) + 1 := IntWalk.i64_in _ (by omega)
      go_wp2_with fail
      refine (next_c b g 2 _ (by omega) htr).mono ?_
      rintro e w2 ⟨r, rfl, hr, ht2, hg2, hz2⟩
      have hr2 : r < 2 := by have : (r : Int) < max 2 1 := hr; omega
      have hz2' := hg2.size
      have g2 := grown_trans hgr hg2
      clear hz2 hr
      have hrw : IntKind.i64.wrap (1 + (r : Int)) = 1 + (r : Int) := IntWalk.i64_in _ (by omega)
      obtain ⟨want, hwe⟩ : ∃ want : Int, 1 + (r : Int) = want := ⟨_, rfl⟩
      have hw12 : want = 1 ∨ want = 2 := by omega
      have hrw2 : IntKind.i64.wrap (1 + (r : Int)) = want := hrw.trans hwe
      clear hrw hwe
      go_wp2_with fail
      refine (ttyped b g 3 3 (some ⟨tb, 0, none⟩) [1, 2, 1] (by omega) (by omega) HT.out 2 want _ (by omega) hw12 ht2 (hK.to g2)).mono ?_
      rintro e w3 ⟨A3, c3, x3, rfl, o3, f3, d3, ty3, ht3, hg3⟩
      have hz3 := hg3.size
      have g3 := grown_trans g2 hg3
      have S3 := X.size4 f3 (by omega)
      have RI := (hK.to g3).now
      have R3 : RowT w3 w3.heap.size A3 x3.flat.length x3.flat := RowOf.of_own o3 rfl
      have HTE := Lib.hid (typeE_flat f3 (by omega) HTA.out ty3)
      have HEV := Lib.hid (fun row => evalE_flat f3 (valid4 f3 (by omega)) row)
      have HSO := Lib.hid (fun row hr => X.sound [1, 2, 1] row hr x3 f3 want ty3)
      have hxt := xtype A3 (some ⟨tb, 0, none⟩) x3.flat.length c3 3 3 x3.flat [1, 2, 1] w3 (by unfold maxLen; omega) (by decide) R3 RI
      rw [HTE.out] at hxt
      unfold TyePost at hxt
      simp only at hxt
      clear f3 d3 ty3 HTE
      go_wp2_with fail
      refine hxt.mono ?_
      rintro e w4 ⟨rfl, hb4⟩
      have hz4 := hb4.size
      have ht4 := ht3.step hb4
      have g4 := only_step hb4 g3
      clear hxt R3 RI
      go_wp2_with fail
      refine (ttypedRow b g 3 3 (some ⟨tb, 0, none⟩) [1, 2, 1] _ (by omega) HT.out ht4 (hK.to g4)).mono ?_
      rintro e w5 ⟨A5, c5, vs, rfl, o5, hvl, hrT, ht5, hg5⟩
      have hz5 := hg5.size
      have g5 := grown_trans g4 hg5
      have hvl3 : vs.length ≤ 3 := by rw [hvl]; simp
      have R5 : Row w5 w5.heap.size A5 vs.length vs := RowOf.of_own o5 rfl
      have R3 : RowT w5 w5.heap.size A3 x3.flat.length x3.flat := RowOf.of_own (own_tape (own_below o3 hb4) hg5 (by have := ht2.lt; omega)) rfl
      have hso := HSO.out vs hrT
      rw [← HEV.out vs] at hso
      have hev := xeval A3 A5 x3.flat.length c3 vs.length c5 x3.flat vs w5 (by unfold maxLen; omega) (by unfold maxLen; omega) R3 R5
      obtain ⟨v, hv⟩ : ∃ v, evalE x3.flat vs = v := ⟨_, rfl⟩
      rw [hv] at hev hso
      clear hv HEV HSO hvl hrT o3 o5 R3 R5
      go_wp2_with fail
      refine hev.mono ?_
      rintro e w6 ⟨rfl, hb6⟩
      have hz6 := hb6.size
      have ht6 := ht5.step hb6
      have g6 := only_step hb6 g5
      clear hev
      rcases hso with h0 | h0
      · have t0 : (v.k != 0) = false := by simpa using h0
        clear h0
        go_wp2_with fail
        go_roundw
        case rel =>
          go_light
          exact ⟨i + 1, by go_num, by omega, by (repeat (first | (with_reducible assumption) | (with_reducible refine Tp.drew ?_) | (with_reducible refine Tp.drewN ?_ _) | (with_reducible refine Tp.alloc ?_ _) | ((with_reducible refine Tp.setFar ?_ ?_ ?_ _); rotate_left; (focus (first | (simp; done) | (simp; omega) | omega)); (focus (first | (simp; done) | (simp; omega) | omega))) | ((with_reducible apply Tp.step); (focus (with_reducible assumption))))), by (repeat (first | (with_reducible exact grown_refl _ _) | (with_reducible assumption) | (with_reducible refine only_drew ?_) | (with_reducible refine only_drewN ?_ _) | ((with_reducible refine only_setCell ?_ ?_ _); rotate_left; (focus (first | (simp; done) | (simp; omega) | omega | (right; simp; done) | (right; simp; omega) | (right; omega)))) | (with_reducible refine only_alloc ?_ _) | ((with_reducible apply only_step); (focus (with_reducible assumption))) | ((with_reducible apply only_trans); (focus (with_reducible assumption)))))⟩
        case measure => simp [intOf]; omega
      · have t0 : (v.k != 0) = true := by rw [bne_iff_ne]; omega
        have t1 : (v.k != want) = false := by simpa using h0
        clear h0
        go_wp2_with fail
        go_roundw
        case rel =>
          go_light
          exact ⟨i + 1, by go_num, by omega, by (repeat (first | (with_reducible assumption) | (with_reducible refine Tp.drew ?_) | (with_reducible refine Tp.drewN ?_ _) | (with_reducible refine Tp.alloc ?_ _) | ((with_reducible refine Tp.setFar ?_ ?_ ?_ _); rotate_left; (focus (first | (simp; done) | (simp; omega) | omega)); (focus (first | (simp; done) | (simp; omega) | omega))) | ((with_reducible apply Tp.step); (focus (with_reducible assumption))))), by (repeat (first | (with_reducible exact grown_refl _ _) | (with_reducible assumption) | (with_reducible refine only_drew ?_) | (with_reducible refine only_drewN ?_ _) | ((with_reducible refine only_setCell ?_ ?_ _); rotate_left; (focus (first | (simp; done) | (simp; omega) | omega | (right; simp; done) | (right; simp; omega) | (right; omega)))) | (with_reducible refine only_alloc ?_ _) | ((with_reducible apply only_step); (focus (with_reducible assumption))) | ((with_reducible apply only_trans); (focus (with_reducible assumption)))))⟩
        case measure => simp [intOf]; omega
    · have t5 : ¬ (i : Int) < 4 := by omega
      have hbx : Below w.heap.size w wr := hb2.grown hgr hbW (fun k hk => by injection hk with hk; omega)
      go_wp2_with ((go_at_call 20; refine (awake_c _ (by exact hG.below (by (repeat (first | (with_reducible exact Below.refl _ _) | (with_reducible assumption) | (with_reducible refine Below.drew ?_) | (with_reducible refine below_drewN ?_ _) | ((with_reducible refine Below.setCell ?_ ?_ _); rotate_left; (focus (first | (simp; done) | (simp; omega) | omega))) | ((with_reducible refine Below.alloc ?_ ?_ _); rotate_left; (focus (first | (simp; done) | (simp; omega) | omega))) | ((with_reducible apply below_step1); (focus (with_reducible assumption)))))))).mono ?_; rintro e w11 ⟨rfl, hb11⟩; have hz11 := hb11.size; (try simp at hz11)))
      go_ret
      exact ⟨rfl, by (repeat (first | (with_reducible exact Below.refl _ _) | (with_reducible assumption) | (with_reducible refine Below.drew ?_) | (with_reducible refine below_drewN ?_ _) | ((with_reducible refine Below.setCell ?_ ?_ _); rotate_left; (focus (first | (simp; done) | (simp; omega) | omega))) | ((with_reducible refine Below.alloc ?_ ?_ _); rotate_left; (focus (first | (simp; done) | (simp; omega) | omega))) | ((with_reducible apply below_step1); (focus (with_reducible assumption)))))⟩
end Go.Proofs.YtojcabnjodfdmaaDoor
