/- The law ExprComposes, the walk; the table of powers of ten is as it is laid. -/
import Derived.Test.YtojcabnjodfdmaaDoorFd
import Derived.Test.YtojcabnjodfdmaaDoorXComp
namespace Go.Proofs.YtojcabnjodfdmaaDoor
open Go.RowKit

theorem items3 {W : World} {lb : Nat} {A1 A2 A3 : Option Addr} {c1 c2 c3 : Nat} {l1 l2 l3 : List T} {t : TypeId} (hc : W.heap[lb]? = some (.cells #[.slice A1 l1.length c1, .slice A2 l2.length c2, .slice A3 l3.length c3] t (0, 0)))
    (h1 : RowT W W.heap.size A1 l1.length l1) (h2 : RowT W W.heap.size A2 l2.length l2) (h3 : RowT W W.heap.size A3 l3.length l3) (p1 : l1.length ≤ c1 ∧ c1 ≤ maxLen) (p2 : l2.length ≤ c2 ∧ c2 ≤ maxLen) (p3 : l3.length ≤ c3 ∧ c3 ≤ maxLen)
    (q1 : A1 = none → c1 = 0) (q2 : A2 = none → c2 = 0) (q3 : A3 = none → c3 = 0) : Items W (some ⟨lb, 0, none⟩) 3 [l1, l2, l3] := by
  have hlt : lb < W.heap.size := by
    rcases Nat.lt_or_ge lb W.heap.size with hl | hl
    · exact hl
    · rw [Array.getElem?_eq_none hl] at hc; cases hc
  obtain ⟨cc, _⟩ := blk_rules hc
  refine ⟨rfl, fun k l hk2 => ?_⟩
  have hk4 : k < 3 := by simpa using (List.getElem?_eq_some_iff.1 hk2).1
  obtain rfl | rfl | rfl : k = 0 ∨ k = 1 ∨ k = 2 := by omega
  · simp at hk2; subst hk2; exact ⟨lb, 0, A1, c1, rfl, hlt, cc 0, p1.1, p1.2, q1, h1⟩
  · simp at hk2; subst hk2; exact ⟨lb, 0, A2, c2, rfl, hlt, cc 1, p2.1, p2.2, q2, h2⟩
  · simp at hk2; subst hk2; exact ⟨lb, 0, A3, c3, rfl, hlt, cc 2, p3.1, p3.2, q3, h3⟩
theorem eq_self (v : V) (w : World) : (binOp .eql 34 (.agg #[.int .i64 v.k, .int .i64 v.n, .string v.s]) (.agg #[.int .i64 v.k, .int .i64 v.n, .string v.s])).run Tryd.prog w = .ok (.bool true) w := by
  rw [run_eqV, show eqB v.k v.n v.s v.k v.n v.s = v.beq v from rfl, (V.beq_iff v v).2 rfl]
set_option maxRecDepth 100000 in
set_option maxHeartbeats 8000000 in
theorem exprComposes_w (Z : Option Addr) (zn zc : Nat) (zs : List Int) (w : World) (hz : IntsR w Z zn zc zs) (hG : G w) :
    Calls Tryd.prog 9 #[.slice Z zn zc] w fun e w' => e = .returned (.bool true) ∧ Below w.heap.size w w' := by
  have hnew := new_c Z zn zc zs w hz
  clear hz
  go_enter Tryd.func9, Tryd.ntmps9
  go_wp2_with fail
  refine hnew.mono ?_
  rintro e w1 ⟨b, g, rfl, htp, hb0, hg0, hb1⟩
  have hz1 := hb1.size
  clear hnew
  go_wp2_with fail
  refine (texpr b g 3 (by omega) (by omega) 3 _ (by omega) (by omega) htp).mono ?_
  rintro e w11 ⟨A11, c11, x11, rfl, o11, f11, d11, cl11, ht11, hg11⟩
  have hz11 := hg11.size
  have S11 := X.size4 f11 (by omega)
  have P11 := own_cap o11
  have N11 := Lib.hid (own_none o11)
  have R11 := RowX.of_own (b := b) o11 rfl (by have := htp.lt; omega)
  have F11 := Lib.hid f11
  have C11 := Lib.hid cl11
  clear o11 f11 cl11
  go_wp2_with fail
  refine (texpr b g 4 (by omega) (by omega) 2 _ (by omega) (by omega) ht11).mono ?_
  rintro e w12 ⟨A12, c12, x12, rfl, o12, f12, d12, cl12, ht12, hg12⟩
  have hz12 := hg12.size
  have S12 := X.size4 f12 (by omega)
  have P12 := own_cap o12
  have N12 := Lib.hid (own_none o12)
  have R12 := RowX.of_own (b := b) o12 rfl (by have := ht11.lt; omega)
  have F12 := Lib.hid f12
  have C12 := Lib.hid cl12
  clear o12 f12 cl12
  go_wp2_with fail
  refine (texpr b g 4 (by omega) (by omega) 2 _ (by omega) (by omega) ht12).mono ?_
  rintro e w13 ⟨A13, c13, x13, rfl, o13, f13, d13, cl13, ht13, hg13⟩
  have hz13 := hg13.size
  have S13 := X.size4 f13 (by omega)
  have P13 := own_cap o13
  have N13 := Lib.hid (own_none o13)
  have R13 := RowX.of_own (b := b) o13 rfl (by have := ht12.lt; omega)
  have F13 := Lib.hid f13
  have C13 := Lib.hid cl13
  clear o13 f13 cl13
  go_wp2_with fail
  refine (texpr b g 4 (by omega) (by omega) 3 _ (by omega) (by omega) ht13).mono ?_
  rintro e w14 ⟨A14, c14, x14, rfl, o14, f14, d14, cl14, ht14, hg14⟩
  have hz14 := hg14.size
  have S14 := X.size4 f14 (by omega)
  have P14 := own_cap o14
  have N14 := Lib.hid (own_none o14)
  have R14 := RowX.of_own (b := b) o14 rfl (by have := ht13.lt; omega)
  have F14 := Lib.hid f14
  have C14 := Lib.hid cl14
  clear o14 f14 cl14
  go_wp2_with fail
  have hal : Below w14.heap.size w14 (w14.alloc (.cells #[.slice A12 x12.flat.length c12, .slice A13 x13.flat.length c13, .slice A14 x14.flat.length c14] 23)) := (Below.refl _ _).alloc (Nat.le_refl _) _
  have Q14 := R14.step hal
  have Q13 := (R13.tape hg14).step hal
  have Q12 := ((R12.tape hg13).tape hg14).step hal
  have Q11 := (((R11.tape hg12).tape hg13).tape hg14).step hal
  have g15 : w1.grownBy (w14.alloc (.cells #[.slice A12 x12.flat.length c12, .slice A13 x13.flat.length c13, .slice A14 x14.flat.length c14] 23)) (some b) := only_step hal (grown_trans (grown_trans (grown_trans hg11 hg12) hg13) hg14)
  have ht15 := ht14.alloc (.cells #[.slice A12 x12.flat.length c12, .slice A13 x13.flat.length c13, .slice A14 x14.flat.length c14] 23)
  have hlb := heap_alloc_new w14 (.cells #[.slice A12 x12.flat.length c12, .slice A13 x13.flat.length c13, .slice A14 x14.flat.length c14] 23)
  obtain ⟨W, hW⟩ : ∃ W, w14.alloc (.cells #[.slice A12 x12.flat.length c12, .slice A13 x13.flat.length c13, .slice A14 x14.flat.length c14] 23) = W := ⟨_, rfl⟩
  have hzW : W.heap.size = w14.heap.size + 1 := by rw [← hW]; simp
  rw [hW] at Q11 Q12 Q13 Q14 g15 ht15 hlb
  rw [hW]
  obtain ⟨lb, hlbe⟩ : ∃ lb, w14.heap.size = lb := ⟨_, rfl⟩
  rw [hlbe] at hlb hzW
  rw [hlbe]
  have hlbW : lb < W.heap.size := by omega
  have hlbb : lb ≠ b := by have := ht14.lt; omega
  clear hW hal R11 R12 R13 R14 hg11 hg12 hg13 hg14 ht11 ht12 ht13 ht14 hlbe hzW
  have IT := items3 hlb Q12.row Q13.row Q14.row P12 P13 P14 N12.out N13.out N14.out
  have LAW := Lib.hid (compose_law x11 [x12, x13, x14] F11.out (by omega) C11.out (by
    intro y hy
    simp at hy
    rcases hy with rfl | rfl | rfl
    · exact ⟨F12.out, by omega⟩
    · exact ⟨F13.out, by omega⟩
    · exact ⟨F14.out, by omega⟩))
  clear F11 F12 F13 F14 C11 C12 C13 C14 d11 d12 d13 d14
  have hsb := xsubst A11 (some ⟨lb, 0, none⟩) x11.flat.length c11 3 3 x11.flat [x12.flat, x13.flat, x14.flat] W (by unfold maxLen; omega) (by omega) Q11.row IT
  have hmap : List.map X.flat [x12, x13, x14] = [x12.flat, x13.flat, x14.flat] := rfl
  rw [hmap] at LAW
  obtain ⟨xs, hxs⟩ : ∃ xs, substE x11.flat [x12.flat, x13.flat, x14.flat] = xs := ⟨_, rfl⟩
  rw [hxs] at hsb LAW
  clear hxs hmap
  have hbW : Below w.heap.size w W := hb1.grown g15 hz1 (fun k hk => by injection hk with hk; omega)
  rcases LAW.out with rfl | ⟨l, rfl, hl⟩
  · refine hsb.mono ?_
    rintro e w16 ⟨A16, c16, rfl, o16, hb16⟩
    clear o16
    go_wp2_with ((go_at_call 20; refine (awake_c _ (by exact hG.below (by (repeat (first | (with_reducible exact Below.refl _ _) | (with_reducible assumption) | (with_reducible refine Below.drew ?_) | (with_reducible refine below_drewN ?_ _) | ((with_reducible refine Below.setCell ?_ ?_ _); rotate_left; (focus (first | (simp; done) | (simp; omega) | omega))) | ((with_reducible refine Below.alloc ?_ ?_ _); rotate_left; (focus (first | (simp; done) | (simp; omega) | omega))) | ((with_reducible apply below_step1); (focus (with_reducible assumption)))))))).mono ?_; rintro e w17 ⟨rfl, hb17⟩; have hz17 := hb17.size; (try simp at hz17)))
    go_ret
    exact ⟨rfl, by (repeat (first | (with_reducible exact Below.refl _ _) | (with_reducible assumption) | (with_reducible refine Below.drew ?_) | (with_reducible refine below_drewN ?_ _) | ((with_reducible refine Below.setCell ?_ ?_ _); rotate_left; (focus (first | (simp; done) | (simp; omega) | omega))) | ((with_reducible refine Below.alloc ?_ ?_ _); rotate_left; (focus (first | (simp; done) | (simp; omega) | omega))) | ((with_reducible apply below_step1); (focus (with_reducible assumption)))))⟩
  · have HL := Lib.hid hl
    clear hl LAW
    refine hsb.mono ?_
    rintro e w16 ⟨A16, c16, rfl, o16, hb16⟩
    have hz16 := hb16.size
    simp only at o16
    have ht16 := ht15.step hb16
    go_wp2_with fail
    refine (trow b g 4 _ (by omega) ht16).mono ?_
    rintro e w17 ⟨v17, r17, rfl, o17, ok17, l17, ht17, hg17⟩
    have hz17 := hg17.size
    obtain ⟨A17, c17, rfl, hc17, hc17'⟩ := own_slice o17
    have P16 := own_cap o16
    have K11 := (Q11.step hb16).tape hg17
    have K12 := (Q12.step hb16).tape hg17
    have K13 := (Q13.step hb16).tape hg17
    have K14 := (Q14.step hb16).tape hg17
    have hlb17 := (hg17.block lb (by omega) (by simp; omega)).trans ((hb16.block lb hlbW).trans hlb)
    have IT17 := items3 hlb17 K12.row K13.row K14.row P12 P13 P14 N12.out N13.out N14.out
    have R16 : RowT w17 w17.heap.size A16 l.length l := (RowX.of_own (own_tape o16 hg17 (by have := ht15.lt; omega)) rfl (by have := ht15.lt; exact this)).row
    have R17 : Row w17 w17.heap.size A17 r17.length r17 := RowOf.of_own o17 rfl
    have hb17 : Below w.heap.size w w17 := hb1.grown (grown_trans (only_step hb16 g15) hg17) hz1 (fun k hk => by injection hk with hk; omega)
    have R11 := K11.row
    clear Q11 Q12 Q13 Q14 K11 K12 K13 K14 hlb hlb17 o16 o17 ok17 ht15 ht16 ht17 hg17 g15 IT hsb htp
    have EQ := Lib.hid (HL.out r17)
    clear HL
    obtain ⟨vals, hvals⟩ : ∃ vals, ([x12.flat, x13.flat, x14.flat].map fun l => evalE l r17) = vals := ⟨_, rfl⟩
    have HV := Lib.hid hvals
    rw [hvals] at EQ
    have hvl : vals.length = 3 := by rw [← hvals]; rfl
    have HVL := Lib.hid hvl
    clear hvals hvl
    go_wp2_with fail
    go_loopw [9, 10] (fun v9 v10 wr => ∃ i : Nat, v10 = .int .i64 (i : Int) ∧ i ≤ 3 ∧ wr.ownsRow w17.heap.size 34 3 v9 i ((vals.take i).flatMap V.cells) ∧ Below w17.heap.size w17 wr) (fun _ v10 _ => 3 - (intOf v10).toNat)
    case atStart => exact ⟨0, rfl, by omega, World.ownsRow_nil _ _ _ _, by (repeat (first | (with_reducible exact Below.refl _ _) | (with_reducible assumption) | (with_reducible refine Below.drew ?_) | (with_reducible refine below_drewN ?_ _) | ((with_reducible refine Below.setCell ?_ ?_ _); rotate_left; (focus (first | (simp; done) | (simp; omega) | omega))) | ((with_reducible refine Below.alloc ?_ ?_ _); rotate_left; (focus (first | (simp; done) | (simp; omega) | omega))) | ((with_reducible apply below_step1); (focus (with_reducible assumption)))))⟩
    case round =>
      obtain ⟨i, rfl, hi, hown, hbel⟩ := hrel
      have hzz := hbel.size
      by_cases hlt : i < 3
      · obtain ⟨li, hli⟩ : ∃ li, [x12.flat, x13.flat, x14.flat][i]? = some li := ⟨_, List.getElem?_eq_getElem (by simpa using hlt)⟩
        obtain ⟨ib, ioff, IA, ic, e1, hib, hcell, hlc, hcm, _, hrow⟩ := (IT17.to hbel).at_ i li hli
        injection e1 with e1
        injection e1 with e11 e12
        subst e11 e12
        rw [Nat.zero_add] at hcell
        have hv := congrArg (fun l => l[i]?) HV.out
        simp only [List.getElem?_map, hli, Option.map_some] at hv
        have HS := Lib.hid (show (vals.take (i + 1)).flatMap V.cells = (vals.take i).flatMap V.cells ++ (evalE li r17).cells by rw [List.take_add_one, ← hv]; simp)
        have X1 := fun w1 h1 h2 => xeval IA A17 li.length ic r17.length c17 li r17 w1 (by omega) (by omega) h1 h2
        generalize evalE li r17 = ev at X1 HS
        have h0 : (0 : Int) ≤ (i : Int) := by omega
        have h1 : (i : Int) < 3 := by omega
        have hiw : IntKind.i64.wrap ((i : Int) + 1) = (i : Int) + 1 := IntWalk.i64_in _ (by omega)
        clear hli hv
        go_wp2_with (first
          | (go_at_call 24; refine (X1 _ (by exact hrow) (by exact R17.to hbel)).mono ?_; rintro e w20 ⟨rfl, hb20⟩; have hz20 := hb20.size; have own2 := own_below hown hb20)
          | (at_builtin; refine wpList_app (v := u9) rfl _ _ stV rfl rfl (own2) rfl (by simp) rfl (by simp [Value.oneCell']) (by omega) (by omega) ?_; intro v' w3 own3 hg3 hat3))
        have hb3 := below_app (below_step hb20 hbel (Nat.le_refl _)) own2 hg3 (Nat.le_refl _) (by omega)
        go_roundw
        case rel =>
          refine ⟨i + 1, by go_num, by omega, ?_, hb3⟩
          rw [HS.out]
          exact own3
        case measure => simp [intOf]; omega
      · obtain rfl : i = 3 := by omega
        rw [List.take_of_length_le (by rw [HVL.out]; omega)] at hown
        obtain ⟨A9, c9, rfl, _, _⟩ := own_slice hown
        have R9 : Row wr wr.heap.size A9 3 vals := RowOf.of_own hown HVL.out
        have X1 := fun w1 h1 h2 => xeval A16 A17 l.length c16 r17.length c17 l r17 w1 (by omega) (by omega) h1 h2
        have X2 := fun w1 h1 h2 => xeval A11 A9 x11.flat.length c11 3 c9 x11.flat vals w1 (by unfold maxLen; omega) (by decide) h1 h2
        rw [EQ.out] at X1
        have heq := eq_self (evalE x11.flat vals)
        generalize evalE x11.flat vals = ev at X1 X2 heq
        have h1 : ¬ ((3 : Nat) : Int) < 3 := by omega
        go_wp2_with fail
        refine (X1 _ (by exact R16.to hbel) (by exact R17.to hbel)).mono ?_
        rintro e w21 ⟨rfl, hb21⟩
        have hz21 := hb21.size
        ((go_wp2_with fail); refine (X2 _ (by exact R11.to (by (repeat (first | (with_reducible exact Below.refl _ _) | (with_reducible assumption) | (with_reducible refine Below.drew ?_) | (with_reducible refine below_drewN ?_ _) | ((with_reducible refine Below.setCell ?_ ?_ _); rotate_left; (focus (first | (simp; done) | (simp; omega) | omega))) | ((with_reducible refine Below.alloc ?_ ?_ _); rotate_left; (focus (first | (simp; done) | (simp; omega) | omega))) | ((with_reducible apply below_step1); (focus (with_reducible assumption))))))) (by exact R9.to (by (repeat (first | (with_reducible exact Below.refl _ _) | (with_reducible assumption) | (with_reducible refine Below.drew ?_) | (with_reducible refine below_drewN ?_ _) | ((with_reducible refine Below.setCell ?_ ?_ _); rotate_left; (focus (first | (simp; done) | (simp; omega) | omega))) | ((with_reducible refine Below.alloc ?_ ?_ _); rotate_left; (focus (first | (simp; done) | (simp; omega) | omega))) | ((with_reducible apply below_step1); (focus (with_reducible assumption)))))))).mono ?_; rintro e w22 ⟨rfl, hb22⟩; have hz22 := hb22.size; (try simp at hz22))
        ((go_wp2_with fail); refine (awake_c _ (by exact hG.below (by (repeat (first | (with_reducible exact Below.refl _ _) | (with_reducible assumption) | (with_reducible refine Below.drew ?_) | (with_reducible refine below_drewN ?_ _) | ((with_reducible refine Below.setCell ?_ ?_ _); rotate_left; (focus (first | (simp; done) | (simp; omega) | omega))) | ((with_reducible refine Below.alloc ?_ ?_ _); rotate_left; (focus (first | (simp; done) | (simp; omega) | omega))) | ((with_reducible apply below_step1); (focus (with_reducible assumption)))))))).mono ?_; rintro e w23 ⟨rfl, hb23⟩; have hz23 := hb23.size; (try simp at hz23))
        go_wp2_with fail
        go_ret
        exact ⟨rfl, by (repeat (first | (with_reducible exact Below.refl _ _) | (with_reducible assumption) | (with_reducible refine Below.drew ?_) | (with_reducible refine below_drewN ?_ _) | ((with_reducible refine Below.setCell ?_ ?_ _); rotate_left; (focus (first | (simp; done) | (simp; omega) | omega))) | ((with_reducible refine Below.alloc ?_ ?_ _); rotate_left; (focus (first | (simp; done) | (simp; omega) | omega))) | ((with_reducible apply below_step1); (focus (with_reducible assumption)))))⟩
end Go.Proofs.YtojcabnjodfdmaaDoor
