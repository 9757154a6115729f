/- The law ExprSubstitute, the walk; the table of powers of ten is as it is laid. -/
import Derived.Test.YtojcabnjodfdmaaDoorFc
import Derived.Test.YtojcabnjodfdmaaDoorBd
import Derived.Test.YtojcabnjodfdmaaDoorBa
import Derived.Test.YtojcabnjodfdmaaDoorTn
import Derived.Test.YtojcabnjodfdmaaDoorBc
import Derived.Deep.DeepCutAuto
namespace Go.Proofs.YtojcabnjodfdmaaDoor
open Go.RowKit Go.ChangeShapes Go.WideShapes Go.Deep

theorem own_cap {w : World} {base : Nat} {e : TypeId} {size n c : Nat} {A : Option Addr} {xs : List Value} (h : w.ownsRow base e size (.slice A n c) n xs) : n ≤ c ∧ c ≤ maxLen := by
  obtain ⟨A', c', e1, h1, h2⟩ := own_slice h
  injection e1 with _ _ e3
  subst e3
  exact ⟨h1, h2⟩
section
variable {H : Type} {enc : TypeId × Value → H} {w : World} {base : Nat} {spare : Nat → Bool} {held : Bool} {fuel : Nat}
theorem cellsSlT : Tryd.prog.cellsOf 23 = 1 := by kernel_rfl
theorem open_items {I : Option Addr} {m d : Nat} {x : DataW H × List MemPlace} (h : DataW.trod enc Tryd.prog w base spare held fuel 49 [.slice I m d] = some x) : m ≤ maxLen ∧ ∃ items, Items w I m items := by
  rcases open_slice Tryd.underlying49 h with ⟨h0, _⟩ | ⟨a, len, cap, k, n', D, Pl, hcs, hb, hl, hm, hmm, _, hi⟩
  · simp at h0
    obtain ⟨rfl, rfl, rfl⟩ := h0
    exact ⟨Nat.zero_le _, [], Items.nil_⟩
  · simp at hcs
    obtain ⟨rfl, rfl, rfl⟩ := hcs
    refine ⟨by omega, ?_⟩
    have hnm : m ≤ k := by rw [hmm]; split <;> omega
    have h3 := cellsSlT
    obtain ⟨vs, hv1, hv2⟩ := exists_list (P := fun i (l : List T) => ∃ A c, w.cell? (a.add i) = some (.slice A l.length c) ∧ l.length ≤ c ∧ c ≤ maxLen ∧ (A = none → c = 0) ∧ RowT w w.heap.size A l.length l) m (fun i hin => by
      obtain ⟨cs', hc, ht⟩ := hi i (by omega)
      rw [h3] at hc
      obtain ⟨A, n, c, hcs⟩ : ∃ A n c, cs' = [Value.slice A n c] := by
        rcases open_slice Tryd.underlying23 ht with ⟨h0, _⟩ | ⟨a', len', cap', k', n'', D', Pl', hcs', _⟩
        · exact ⟨_, _, _, h0⟩
        · exact ⟨_, _, _, hcs'⟩
      rw [hcs] at ht
      obtain ⟨_, ts, hts⟩ := open_rowT ht
      obtain ⟨g1, g2, g3⟩ := open_cap Tryd.underlying23 ht
      obtain ⟨_, hcl, hat⟩ := World.cells?_some hc
      have h5 := hat 0 (by omega)
      rw [Nat.mul_one] at h5
      have h0 : (a.add i).add 0 = a.add i := rfl
      have h6 : cs'[0]? = some (.slice A n c) := by rw [hcs]; rfl
      have hl := hts.len
      subst hl
      exact ⟨ts, A, c, by rw [h0, h6] at h5; exact h5, g1, g2, g3, hts⟩)
    refine ⟨vs, hv1, fun j l hj => ?_⟩
    obtain ⟨A, c, hcell, g1, g2, g3, g4⟩ := hv2 j l hj
    have hl0 : 0 < vs.length := by have := (List.getElem?_eq_some_iff.1 hj).1; omega
    obtain ⟨_, _, hc0, _⟩ := hv2 0 vs[0] (List.getElem?_eq_getElem hl0)
    obtain ⟨ab, off, spot⟩ := a
    have hspot : spot = none := by simpa [Addr.add] using World.cell?_spot hc0
    subst hspot
    rw [addr_add] at hcell
    exact ⟨ab, off, A, c, rfl, by simpa [Addr.add] using cell_lt hcell, hcell, g1, g2, g3, g4⟩
end
def SelSA (w w1 : World) (v1 v2 : Value) (wx : World) : Prop := ∃ A n c es I m d items, v1 = .slice A n c ∧ v2 = .slice I m d ∧ n ≤ c ∧ c ≤ maxLen ∧ m ≤ 6 ∧ RowT w w.heap.size A n es ∧ Items w I m items ∧ w1 = wx
def SelSub (w1 : World) (b g : Nat) (v10 v11 : Value) (wx : World) : Prop := ∃ A n c es I m d items, v10 = .slice A n c ∧ v11 = .slice I m d ∧ n ≤ maxLen ∧ m ≤ 1000 ∧ RowT wx wx.heap.size A n es ∧ Items wx I m items ∧ Tp wx b g ∧ w1.grownBy wx (some b)
/-- Four rows, laid side by side. -/
theorem items4 {W : World} {lb : Nat} {A1 A2 A3 A4 : Option Addr} {c1 c2 c3 c4 : Nat} {l1 l2 l3 l4 : List T} {t : TypeId} {z : Nat} (hz : z < 4) (hc : W.heap[lb]? = some (.cells #[.slice A1 l1.length c1, .slice A2 l2.length c2, .slice A3 l3.length c3, .slice A4 l4.length c4] t (0, 0)))
    (h1 : RowT W W.heap.size A1 l1.length l1) (h2 : RowT W W.heap.size A2 l2.length l2) (h3 : RowT W W.heap.size A3 l3.length l3) (h4 : RowT W W.heap.size A4 l4.length l4) (p1 : l1.length ≤ c1 ∧ c1 ≤ maxLen) (p2 : l2.length ≤ c2 ∧ c2 ≤ maxLen) (p3 : l3.length ≤ c3 ∧ c3 ≤ maxLen) (p4 : l4.length ≤ c4 ∧ c4 ≤ maxLen)
    (q1 : A1 = none → c1 = 0) (q2 : A2 = none → c2 = 0) (q3 : A3 = none → c3 = 0) (q4 : A4 = none → c4 = 0) : Items W (some ⟨lb, 0, none⟩) (z + 1) ([l1, l2, l3, l4].take (z + 1)) := by
  have hlt : lb < W.heap.size := by
    rcases Nat.lt_or_ge lb W.heap.size with hl | hl
    · exact hl
    · rw [Array.getElem?_eq_none hl] at hc; cases hc
  obtain ⟨cc, _⟩ := blk_rules hc
  refine ⟨by simp; omega, fun k l hk => ?_⟩
  have hk2 : [l1, l2, l3, l4][k]? = some l := by
    rw [List.getElem?_take] at hk
    split at hk
    · exact hk
    · cases hk
  have hk4 : k < 4 := by simpa using (List.getElem?_eq_some_iff.1 hk2).1
  obtain rfl | rfl | rfl | rfl : k = 0 ∨ k = 1 ∨ k = 2 ∨ k = 3 := by omega
  · simp at hk2; subst hk2; exact ⟨lb, 0, A1, c1, rfl, hlt, cc 0, p1.1, p1.2, q1, h1⟩
  · simp at hk2; subst hk2; exact ⟨lb, 0, A2, c2, rfl, hlt, cc 1, p2.1, p2.2, q2, h2⟩
  · simp at hk2; subst hk2; exact ⟨lb, 0, A3, c3, rfl, hlt, cc 2, p3.1, p3.2, q3, h3⟩
  · simp at hk2; subst hk2; exact ⟨lb, 0, A4, c4, rfl, hlt, cc 3, p4.1, p4.2, q4, h4⟩
set_option maxRecDepth 100000 in
set_option maxHeartbeats 8000000 in
theorem exprSubstitute_w (Z A I : Option Addr) (zn zc n c m d : Nat) (zs : List Int) (es : List T) (items : List (List T)) (w : World) (hz : IntsR w Z zn zc zs) (hn : n ≤ c) (hc : c ≤ maxLen) (hm : m ≤ maxLen) (hr : RowT w w.heap.size A n es) (hv : Items w I m items) (hG : G w) :
    Calls Tryd.prog 8 #[.slice Z zn zc, .slice A n c, .slice I m d] w fun e w' => e = .returned (.bool true) ∧ Below w.heap.size w w' := by
  have hnew := new_c Z zn zc zs w hz
  clear hz
  unfold maxLen at hm
  go_enter Tryd.func8, Tryd.ntmps8
  go_wp2_with fail
  refine hnew.mono ?_
  rintro e w1 ⟨b, g, rfl, htp, hb0, hg0, hb1⟩
  have hz1 := hb1.size
  have hr1 := hr.to hb1
  have hli := light_c A none n c 0 0 es [] w1 (by omega) (by decide) hr1 RowOf.nil_
  obtain ⟨lb, hlb⟩ : ∃ lb, lightB es [] = lb := ⟨_, rfl⟩
  rw [hlb] at hli
  clear hlb hnew
  go_upto_region 2 with fail
  go_cut [25] (fun v25 wx => v25 = .bool (!lb || decide (6 < m)) ∧ w1 = wx)
  case first =>
    cases lb
    · go_wp2_with (go_at_call 13; refine hli.mono ?_; rintro e w2 ⟨rfl, rfl⟩)
      go_meet
      exact ⟨rfl, rfl⟩
    · by_cases h10 : 6 < m
      · have t10 : (6 : Int) < (m : Int) := by omega
        go_wp2_with (go_at_call 13; refine hli.mono ?_; rintro e w2 ⟨rfl, rfl⟩)
        go_meet
        exact ⟨by simp [h10], rfl⟩
      · have t10 : ¬ (6 : Int) < (m : Int) := by omega
        go_wp2_with (go_at_call 13; refine hli.mono ?_; rintro e w2 ⟨rfl, rfl⟩)
        go_meet
        exact ⟨by simp [h10]; omega, rfl⟩
  case rest =>
    obtain ⟨rfl, rfl⟩ := hcut
    obtain ⟨q, hq⟩ : ∃ q, (!lb || decide (6 < m)) = q := ⟨_, rfl⟩
    rw [hq]
    have HQ := Lib.hid (show q = false → m ≤ 6 by rintro rfl; simp at hq; omega)
    clear hq hli
    go_upto_if 25 with fail
    go_cut [1, 2] (fun v1 v2 wx => SelSA w w1 v1 v2 wx)
    case first =>
      cases q
      · go_wp2_with fail
        go_meet
        exact ⟨A, n, c, es, I, m, d, items, rfl, rfl, hn, hc, HQ.out (by simp), hr, hv, rfl⟩
      · go_wp2_with fail
        go_meet
        exact ⟨none, 0, 0, [], none, 0, 0, [], rfl, rfl, by omega, by decide, by decide, RowOf.nil_, Items.nil_, rfl⟩
    case rest =>
      clear hn hc hm hr1 hr hv HQ
      obtain ⟨A, n, c, es, I, m, d, items, rfl, rfl, hn, hc, hm, hr, hv, rfl⟩ := hcut
      have HM := Lib.hid hv.len
      have hvw := hv.to hb1
      go_wp2_with fail
      go_loopw [8] (fun v8 wr => ∃ i : Nat, v8 = .int .i64 (i : Int) ∧ i ≤ m ∧ w1 = wr) (fun v8 _ => m - (intOf v8).toNat)
      case atStart => exact ⟨0, rfl, by omega, rfl⟩
      case round =>
        obtain ⟨i, rfl, hi, rfl⟩ := hrel
        by_cases hlt : i < m
        · obtain ⟨l, hl⟩ : ∃ l, items[i]? = some l := ⟨_, List.getElem?_eq_getElem (by have := HM.out; omega)⟩
          obtain ⟨ib, ioff, IA, ic, rfl, hib, hcell, hlc, hcm, _, hrow⟩ := hvw.at_ i l hl
          have hl2 := light_c IA none l.length ic 0 0 l [] w1 (by omega) (by decide) hrow RowOf.nil_
          generalize lightB l [] = ll at hl2
          have h0 : (0 : Int) ≤ (i : Int) := by omega
          have h1 : (i : Int) < (m : Int) := by omega
          have hiw : IntKind.i64.wrap ((i : Int) + 1) = (i : Int) + 1 := IntWalk.i64_in _ (by omega)
          clear hl
          cases ll
          · go_wp2_with (first | (go_at_call 13; refine hl2.mono ?_; rintro e w2 ⟨rfl, rfl⟩) | (go_at_call 20; refine (awake_c _ (by exact hG.below (by (repeat (first | (with_reducible exact Below.refl _ _) | (with_reducible assumption) | (with_reducible refine Below.drew ?_) | (with_reducible refine below_drewN ?_ _) | ((with_reducible refine Below.setCell ?_ ?_ _); rotate_left; (focus (first | (simp; done) | (simp; omega) | omega))) | ((with_reducible refine Below.alloc ?_ ?_ _); rotate_left; (focus (first | (simp; done) | (simp; omega) | omega))) | ((with_reducible apply below_step1); (focus (with_reducible assumption)))))))).mono ?_; rintro e w11 ⟨rfl, hb11⟩; have hz11 := hb11.size; (try simp at hz11)))
            go_ret
            exact ⟨rfl, by (repeat (first | (with_reducible exact Below.refl _ _) | (with_reducible assumption) | (with_reducible refine Below.drew ?_) | (with_reducible refine below_drewN ?_ _) | ((with_reducible refine Below.setCell ?_ ?_ _); rotate_left; (focus (first | (simp; done) | (simp; omega) | omega))) | ((with_reducible refine Below.alloc ?_ ?_ _); rotate_left; (focus (first | (simp; done) | (simp; omega) | omega))) | ((with_reducible apply below_step1); (focus (with_reducible assumption)))))⟩
          · go_wp2_with (go_at_call 13; refine hl2.mono ?_; rintro e w2 ⟨rfl, rfl⟩)
            go_roundw
            case rel => exact ⟨i + 1, by go_num, by omega, trivial⟩
            case measure => simp [intOf]; omega
        · have h1 : ¬ (i : Int) < (m : Int) := by omega
          clear hvw
          go_wp2_with fail
          go_loopw [9] (fun v9 wr => ∃ i : Nat, v9 = .int .i64 (i : Int) ∧ i ≤ 3 ∧ Tp wr b g ∧ w1.grownBy wr (some b)) (fun v9 _ => 3 - (intOf v9).toNat)
          case atStart => exact ⟨0, rfl, by omega, htp, grown_refl _ _⟩
          case round =>
            obtain ⟨i, rfl, hi, htr, hgr⟩ := hrel
            have hzr := hgr.size
            by_cases hi3 : i < 3
            · have t5 : (i : Int) < 3 := by omega
              have hiw : IntKind.i64.wrap ((i : Int) + 1) = (i : Int) + 1 := IntWalk.i64_in _ (by omega)
              go_wp2_with fail
              refine (texpr b g 4 (by omega) (by omega) 3 _ (by omega) (by omega) htr).mono ?_
              rintro e w11 ⟨A11, c11, x11, rfl, o11, f11, d11, cl11, ht11, hg11⟩
              have hz11 := hg11.size
              have S11 := X.size4 f11 (by omega)
              have P11 := own_cap o11
              have N11 := Lib.hid (own_none o11)
              have R11 := RowX.of_own (b := b) o11 rfl (by have := htr.lt; omega)
              clear o11 f11 d11 cl11
              go_wp2_with fail
              refine (texpr b g 3 (by omega) (by omega) 2 _ (by omega) (by omega) ht11).mono ?_
              rintro e w12 ⟨A12, c12, x12, rfl, o12, f12, d12, cl12, ht12, hg12⟩
              have hz12 := hg12.size
              have S12 := X.size4 f12 (by omega)
              have P12 := own_cap o12
              have N12 := Lib.hid (own_none o12)
              have R12 := RowX.of_own (b := b) o12 rfl (by have := ht11.lt; omega)
              clear o12 f12 d12 cl12
              go_wp2_with fail
              refine (texpr b g 3 (by omega) (by omega) 3 _ (by omega) (by omega) ht12).mono ?_
              rintro e w13 ⟨A13, c13, x13, rfl, o13, f13, d13, cl13, ht13, hg13⟩
              have hz13 := hg13.size
              have S13 := X.size4 f13 (by omega)
              have P13 := own_cap o13
              have N13 := Lib.hid (own_none o13)
              have R13 := RowX.of_own (b := b) o13 rfl (by have := ht12.lt; omega)
              clear o13 f13 d13 cl13
              go_wp2_with fail
              refine (texpr b g 3 (by omega) (by omega) 1 _ (by omega) (by omega) ht13).mono ?_
              rintro e w14 ⟨A14, c14, x14, rfl, o14, f14, d14, cl14, ht14, hg14⟩
              have hz14 := hg14.size
              have S14 := X.size4 f14 (by omega)
              have P14 := own_cap o14
              have N14 := Lib.hid (own_none o14)
              have R14 := RowX.of_own (b := b) o14 rfl (by have := ht13.lt; omega)
              clear o14 f14 d14 cl14
              go_wp2_with fail
              refine (tspoil b g _ c14 A14 x14.flat _ (by omega) N14.out ht14 R14.row).mono ?_
              rintro e w15 ⟨A15, m15, c15, l15, rfl, P15a, P15b, S15, N15', R15, ht15, hg15⟩
              have N15 := Lib.hid N15'
              have hl15 := R15.row.len
              subst hl15
              have hz15 := hg15.size
              clear N15'
              go_wp2_with fail
              refine (texpr b g 3 (by omega) (by omega) 4 _ (by omega) (by omega) ht15).mono ?_
              rintro e w16 ⟨A16, c16, x16, rfl, o16, f16, d16, cl16, ht16, hg16⟩
              have hz16 := hg16.size
              have S16 := X.size4 f16 (by omega)
              have P16 := own_cap o16
              have N16 := Lib.hid (own_none o16)
              have R16 := RowX.of_own (b := b) o16 rfl (by have := ht15.lt; omega)
              clear o16 f16 d16 cl16
              go_wp2_with fail
              refine (next_c b g 4 _ (by omega) (ht16.alloc _)).mono ?_
              rintro e w18 ⟨z, rfl, hz', ht18, hg18, hzz⟩
              have hz18 := hg18.size
              simp at hz18
              have hz4 : z < 4 := by have : (z : Int) < max 4 1 := hz'; omega
              clear hzz hz'
              have hzw : IntKind.i64.wrap (1 + (z : Int)) = 1 + (z : Int) := IntWalk.i64_in _ (by omega)
              have hz0 : (0 : Int) ≤ 1 + (z : Int) := by omega
              have hz5 : 1 + (z : Int) ≤ 4 := by omega
              have hzt : (1 + (z : Int)).toNat = z + 1 := by omega
              have hlblk := (hg18.block w16.heap.size (by simp) (by have := ht16.lt; simp; omega)).trans (heap_alloc_new w16 _)
              go_upto_if 61 with fail
              go_cut [10, 11] (fun v10 v11 wx => SelSub w1 b g v10 v11 wx)
              case first =>
                have hal : Below w16.heap.size w16 (w16.alloc (.cells #[.slice A12 x12.flat.length c12, .slice A13 x13.flat.length c13, .slice A15 l15.length c15, .slice A16 x16.flat.length c16] 23)) := (Below.refl _ _).alloc (Nat.le_refl _) _
                have Q16 := (R16.step hal).tape hg18
                have Q15 := ((R15.tape hg16).step hal).tape hg18
                have Q13 := ((((R13.tape hg14).tape hg15).tape hg16).step hal).tape hg18
                have Q12 := (((((R12.tape hg13).tape hg14).tape hg15).tape hg16).step hal).tape hg18
                have Q11 := ((((((R11.tape hg12).tape hg13).tape hg14).tape hg15).tape hg16).step hal).tape hg18
                have g18 : w1.grownBy w18 (some b) := grown_trans (only_step hal (grown_trans (grown_trans (grown_trans (grown_trans (grown_trans (grown_trans hgr hg11) hg12) hg13) hg14) hg15) hg16)) hg18
                have hb18 : Below w.heap.size w w18 := hb1.grown g18 hz1 (fun k hk => by injection hk with hk; omega)
                have IT := items4 hz4 hlblk Q12.row Q13.row Q15.row Q16.row P12 P13 ⟨P15a, P15b⟩ P16 N12.out N13.out N15.out N16.out
                have Q11r := Q11.row
                clear R11 R12 R13 R14 R15 R16 Q11 Q12 Q13 Q15 Q16 hal hlblk hg11 hg12 hg13 hg14 hg15 hg16 hg18 ht11 ht12 ht13 ht14 ht15 ht16 htr hgr N11 N12 N13 N14 N15 N16
                by_cases h2 : i = 2
                · have t2 : ((i : Int) == 2) = true := by simp; omega
                  clear h2
                  go_wp2_with fail
                  go_meet
                  exact ⟨A, n, c, es, I, m, d, items, rfl, rfl, by omega, by omega, hr.to hb18, hv.to hb18, ht18, g18⟩
                · have t2 : ((i : Int) == 2) = false := by simp; omega
                  clear h2
                  go_wp2_with fail
                  go_meet
                  exact ⟨_, _, _, _, _, _, _, _, rfl, rfl, by unfold maxLen; omega, by omega, Q11r, IT, ht18, g18⟩
              case rest =>
                clear R11 R12 R13 R14 R15 R16 hlblk hg11 hg12 hg13 hg14 hg15 hg16 hg18 ht11 ht12 ht13 ht14 ht15 ht16 ht18 htr hgr N11 N12 N13 N14 N15 N16 hr hv hn hc hm HM hzt hz0 hz5 hzw P11 P12 P13 P14 P15a P15b P16
                obtain ⟨A, n, c, es, I, m, d, items, rfl, rfl, hn, hm, hr, hv, htr, hgr⟩ := hcut
                have hbx : Below w.heap.size w wc := hb1.grown hgr hz1 (fun k hk => by injection hk with hk; omega)
                go_wp2_with fail
                refine (xsubst A I n c m d es items wc hn hm hr hv).mono ?_
                rintro e w21 ⟨A21, c21, rfl, o21, hb21⟩
                have hz21 := hb21.size
                have hs := fun w1 h1 h2 => rsubst A I n c m d es items w1 hn hm h1 h2
                obtain ⟨x, hx⟩ : ∃ x, substE es items = x := ⟨_, rfl⟩
                rw [hx] at o21 hs
                rw [hx]
                clear hx
                obtain ⟨xl, xe⟩ := x
                simp only at o21 hs
                go_wp2_with fail
                refine (hs _ (hr.to hb21) (hv.to hb21)).mono ?_
                rintro e w22 ⟨A22, c22, rfl, o22, hb22⟩
                have hz22 := hb22.size
                have hxl : xl.length ≤ maxLen := Nat.le_trans (own_cap o22).1 (own_cap o22).2
                have r21 : RowT w22 w22.heap.size A21 xl.length xl := RowOf.of_own (own_below o21 hb22) rfl
                have r22 : RowT w22 w22.heap.size A22 xl.length xl := RowOf.of_own o22 rfl
                clear hs
                go_wp2_with ((go_at_call 34; refine (rsame A21 A22 xl.length c21 c22 xl w22 hxl r21 r22).mono ?_; rintro e w23 ⟨rfl, hb23⟩; have hz23 := hb23.size; (try simp at hz23)))
                go_roundw
                case rel =>
                  go_light
                  exact ⟨i + 1, by go_num, by omega, by (repeat (first | (with_reducible assumption) | (with_reducible refine Tp.drew ?_) | (with_reducible refine Tp.drewN ?_ _) | (with_reducible refine Tp.alloc ?_ _) | ((with_reducible refine Tp.setFar ?_ ?_ ?_ _); rotate_left; (focus (first | (simp; done) | (simp; omega) | omega)); (focus (first | (simp; done) | (simp; omega) | omega))) | ((with_reducible apply Tp.step); (focus (with_reducible assumption))))), by (repeat (first | (with_reducible exact grown_refl _ _) | (with_reducible assumption) | (with_reducible refine only_drew ?_) | (with_reducible refine only_drewN ?_ _) | ((with_reducible refine only_setCell ?_ ?_ _); rotate_left; (focus (first | (simp; done) | (simp; omega) | omega | (right; simp; done) | (right; simp; omega) | (right; omega)))) | (with_reducible refine only_alloc ?_ _) | ((with_reducible apply only_step); (focus (with_reducible assumption))) | ((with_reducible apply only_trans); (focus (with_reducible assumption)))))⟩
                case measure => simp [intOf]; omega
            · have t5 : ¬ (i : Int) < 3 := by omega
              have hbx : Below w.heap.size w wr := hb1.grown hgr hz1 (fun k hk => by injection hk with hk; omega)
              go_wp2_with ((go_at_call 20; refine (awake_c _ (by exact hG.below (by (repeat (first | (with_reducible exact Below.refl _ _) | (with_reducible assumption) | (with_reducible refine Below.drew ?_) | (with_reducible refine below_drewN ?_ _) | ((with_reducible refine Below.setCell ?_ ?_ _); rotate_left; (focus (first | (simp; done) | (simp; omega) | omega))) | ((with_reducible refine Below.alloc ?_ ?_ _); rotate_left; (focus (first | (simp; done) | (simp; omega) | omega))) | ((with_reducible apply below_step1); (focus (with_reducible assumption)))))))).mono ?_; rintro e w11 ⟨rfl, hb11⟩; have hz11 := hb11.size; (try simp at hz11)))
              go_ret
              exact ⟨rfl, by (repeat (first | (with_reducible exact Below.refl _ _) | (with_reducible assumption) | (with_reducible refine Below.drew ?_) | (with_reducible refine below_drewN ?_ _) | ((with_reducible refine Below.setCell ?_ ?_ _); rotate_left; (focus (first | (simp; done) | (simp; omega) | omega))) | ((with_reducible refine Below.alloc ?_ ?_ _); rotate_left; (focus (first | (simp; done) | (simp; omega) | omega))) | ((with_reducible apply below_step1); (focus (with_reducible assumption)))))⟩
end Go.Proofs.YtojcabnjodfdmaaDoor
