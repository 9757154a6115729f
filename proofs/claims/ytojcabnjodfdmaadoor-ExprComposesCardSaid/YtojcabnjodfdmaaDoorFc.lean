/- Contracts of the reference's Substitute, and of Same where both are equal. -/
import Derived.Test.YtojcabnjodfdmaaDoorFb
import Derived.Test.YtojcabnjodfdmaaDoorBb
namespace Go.Proofs.YtojcabnjodfdmaaDoor
open Go.RowKit

set_option maxRecDepth 100000 in
set_option maxHeartbeats 4000000 in
theorem rsubst (A I : Option Addr) (n c m d : Nat) (es : List T) (items : List (List T)) (w : World) (hn : n ≤ maxLen) (hm : m ≤ 1000) (hr : RowT w w.heap.size A n es) (hi : Items w I m items) : Calls Tryd.prog 33 #[.slice A n c, .slice I m d] w (SubPost w (substE es items)) := by
  have hvd := rvalidE A n c es w hn hr
  have HN := Lib.hid hr.len
  have HM := Lib.hid hi.len
  obtain ⟨x, hx⟩ : ∃ x, substE es items = x := ⟨_, rfl⟩
  rw [hx]
  unfold substE at hx
  cases hval : validE es
  · rw [hval] at hvd
    rw [if_pos hval] at hx
    subst hx
    clear hval
    go_enter Tryd.func33, Tryd.ntmps33
    go_wp2_with ((go_at_call 19; refine (hvd).mono ?_; rintro e w1 ⟨rfl, hb1⟩; have hz1 := hb1.size; (try simp at hz1)))
    refine bodyPost_ret (by simp [results, Tryd.results33, go_sem]; rfl) rfl ?_
    exact ⟨none, 0, rfl, World.ownsRow_nil _ _ _ _, by (repeat (first | (with_reducible exact Below.refl _ _) | (with_reducible assumption) | (with_reducible refine Below.drew ?_) | (with_reducible refine below_drewN ?_ _) | ((with_reducible refine Below.setCell ?_ ?_ _); rotate_left; (focus (first | (simp; done) | (simp; omega) | omega))) | ((with_reducible refine Below.alloc ?_ ?_ _); rotate_left; (focus (first | (simp; done) | (simp; omega) | omega))) | ((with_reducible apply below_step1); (focus (with_reducible assumption)))))⟩
  rw [hval] at hvd
  rw [if_neg (by rw [hval]; decide)] at hx
  have hl64 := validE_len hval
  have hn64 : n ≤ 64 := by have := HN.out; omega
  have HOK := Lib.hid (validE_terms hval)
  have HX := Lib.hid hx
  clear hx hval hl64
  go_enter Tryd.func33, Tryd.ntmps33
  go_wp2_with ((go_at_call 19; refine (hvd).mono ?_; rintro e w1 ⟨rfl, hb1⟩; have hz1 := hb1.size; (try simp at hz1)))
  go_loopw [6] (fun v16 wr => ∃ k : Nat, v16 = .int .i64 (k : Int) ∧ k ≤ m ∧ Hid ((items.take k).all validE = true) ∧ Below w.heap.size w wr) (fun v16 _ => m - (intOf v16).toNat)
  case atStart => exact ⟨0, rfl, by omega, rfl, by (repeat (first | (with_reducible exact Below.refl _ _) | (with_reducible assumption) | (with_reducible refine Below.drew ?_) | (with_reducible refine below_drewN ?_ _) | ((with_reducible refine Below.setCell ?_ ?_ _); rotate_left; (focus (first | (simp; done) | (simp; omega) | omega))) | ((with_reducible refine Below.alloc ?_ ?_ _); rotate_left; (focus (first | (simp; done) | (simp; omega) | omega))) | ((with_reducible apply below_step1); (focus (with_reducible assumption)))))⟩
  case round =>
    obtain ⟨k, rfl, hk, hH, hbel⟩ := hrel
    have hzz := hbel.size
    by_cases hlt : k < m
    · have h1 : (k : Int) < (m : Int) := by omega
      have h0 : (0 : Int) ≤ (k : Int) := by omega
      have hkw : IntKind.i64.wrap ((k : Int) + 1) = (k : Int) + 1 := IntWalk.i64_in _ (by omega)
      obtain ⟨l, hl⟩ : ∃ l, items[k]? = some l := ⟨_, List.getElem?_eq_getElem (by have := HM.out; omega)⟩
      obtain ⟨ib, ioff, IA, ic, rfl, hib, hcell, hlc, hcm, _, hrow⟩ := (hi.to hbel).at_ k l hl
      have hv2 := rvalidE IA l.length ic l wr (by omega) hrow
      have HL := Lib.hid hl
      clear hl
      cases hvl : validE l
      · rw [hvl] at hv2
        have HX2 := Lib.hid (show x = ([], 1) by
          rw [← HX.out, if_pos (all_not_at validE items k l HL.out hvl)])
        clear hvl
        go_wp2_with ((go_at_call 19; refine (hv2).mono ?_; rintro e w2 ⟨rfl, hb2⟩; have hz2 := hb2.size; (try simp at hz2)))
        refine bodyPost_ret (by simp [results, Tryd.results33, go_sem]; rfl) rfl ?_
        rw [HX2.out]
        exact ⟨none, 0, rfl, World.ownsRow_nil _ _ _ _, by (repeat (first | (with_reducible exact Below.refl _ _) | (with_reducible assumption) | (with_reducible refine Below.drew ?_) | (with_reducible refine below_drewN ?_ _) | ((with_reducible refine Below.setCell ?_ ?_ _); rotate_left; (focus (first | (simp; done) | (simp; omega) | omega))) | ((with_reducible refine Below.alloc ?_ ?_ _); rotate_left; (focus (first | (simp; done) | (simp; omega) | omega))) | ((with_reducible apply below_step1); (focus (with_reducible assumption)))))⟩
      · rw [hvl] at hv2
        have HV := Lib.hid hvl
        clear hvl
        go_wp2_with ((go_at_call 19; refine (hv2).mono ?_; rintro e w2 ⟨rfl, hb2⟩; have hz2 := hb2.size; (try simp at hz2)))
        go_roundw
        case rel => exact ⟨k + 1, by go_num, by omega, by show _ = true; rw [take_all_succ _ _ _ _ HL.out, hH.out, HV.out]; rfl, by (repeat (first | (with_reducible exact Below.refl _ _) | (with_reducible assumption) | (with_reducible refine Below.drew ?_) | (with_reducible refine below_drewN ?_ _) | ((with_reducible refine Below.setCell ?_ ?_ _); rotate_left; (focus (first | (simp; done) | (simp; omega) | omega))) | ((with_reducible refine Below.alloc ?_ ?_ _); rotate_left; (focus (first | (simp; done) | (simp; omega) | omega))) | ((with_reducible apply below_step1); (focus (with_reducible assumption)))))⟩
        case measure => simp [intOf]; omega
    · have h1 : ¬ (k : Int) < (m : Int) := by omega
      have hall : items.all validE = true := by
        have := hH.out
        rwa [List.take_of_length_le (by rw [HM.out]; omega)] at this
      have hx2 := HX.out
      rw [if_neg (by rw [hall]; decide)] at hx2
      have HX2 := Lib.hid hx2
      have HALL := Lib.hid hall
      clear hx2 hall HX hH
      obtain ⟨W1, rfl⟩ : ∃ W1, W1 = wr := ⟨_, rfl⟩
      go_wp2_with fail
      go_loopw [7, 8] (fun v8 v26 wr => SbRel w es items v8 v26 wr) (fun _ v26 _ => n - (intOf v26).toNat)
      case atStart => exact ⟨0, rfl, by omega, rfl, World.ownsRow_nil _ _ _ _, hbel⟩
      case round =>
        clear hbel hzz
        obtain ⟨p, rfl, hp, hany, hown, hbel⟩ := hrel
        have hzz := hbel.size
        have HANY := Lib.hid hany
        clear hany
        have hsl : (subL items (es.take p)).length ≤ 4096 := by
          have h1 := subL_len HALL.out (es.take p)
          have h2 : (es.take p).length ≤ 64 := by rw [List.length_take, HN.out]; omega
          omega
        by_cases hpn : p < n
        · have hp1 : (p : Int) < (n : Int) := by omega
          have hp0 : (0 : Int) ≤ (p : Int) := by omega
          have hpw : IntKind.i64.wrap ((p : Int) + 1) = (p : Int) + 1 := IntWalk.i64_in _ (by omega)
          obtain ⟨b, off, t, rfl, hb, ht, c0, c1, c2, c3, c4⟩ := RowT.at5 ((hr.below hbel).more hzz) hpn
          have HT := Lib.hid ht
          have hS := subL_take (items := items) ht
          have htok := HOK.out t (List.mem_of_getElem? ht)
          have HA1 := Lib.hid (take_any_succ (badCol items.length) es p t ht)
          clear ht
          by_cases h2 : t.op = 2
          · have t2 : (t.op != 2) = false := by simpa using h2
            have hc0 := (term_col htok h2).1
            rw [if_pos h2] at hS
            by_cases hcm : t.c < (m : Int)
            · obtain ⟨q, hq⟩ := Int.eq_ofNat_of_zero_le hc0
              obtain ⟨l, hl⟩ : ∃ l, items[q]? = some l := ⟨_, List.getElem?_eq_getElem (by have := HM.out; omega)⟩
              obtain ⟨ib, ioff, IA, ic, rfl, hib, hcell, hlc, hcm2, hnone, hrow⟩ := (hi.to hbel).at_ q l hl
              rw [hq, Int.toNat_natCast, List.getD_eq_getElem?_getD, hl, Option.getD_some] at hS
              have hll : l.length ≤ 64 := validE_len (List.all_eq_true.1 HALL.out l (List.mem_of_getElem? hl))
              have HB := Lib.hid (show badCol items.length t = false by simp [badCol, HM.out]; omega)
              have HS := Lib.hid hS
              have HNO := Lib.hid hnone
              rw [hq] at c4 hcm
              have hq0 : (0 : Int) ≤ (q : Int) := by omega
              clear hS hl hq hnone h2 hc0 htok
              go_wp2_with (at_builtin; refine wpList_appAny (v := u7) rfl _ _ stT rfl rfl hown rfl (news := l.flatMap T.cells) (tcells_len _) (by exact hrow.rd) HNO.out (tcells_one _) (by omega) (by omega) ?_; intro v6 w6 own6 hg6 hat6; have hz6 := hg6.size)
              have hb6 := below_app hbel hown hg6 (Nat.le_refl _) (by omega)
              refine ⟨⟨p + 1, by go_num, by have := HN.out; omega, by rw [HA1.out, HANY.out, HB.out]; rfl, ?_, hb6⟩, by simp [intOf]; omega⟩
              rw [HS.out, List.length_append, List.flatMap_append]
              exact own6
            · have hcm2 : ¬ t.c < (m : Int) := hcm
              have HX3 := Lib.hid (show x = ([], 3) by
                rw [← HX2.out, if_pos (any_of_at (badCol items.length) es p t HT.out (by simp [badCol, HM.out, h2]; omega))])
              clear hS h2 hcm htok
              go_wp2_with fail
              refine bodyPost_ret (by simp [results, Tryd.results33, go_sem]; rfl) rfl ?_
              rw [HX3.out]
              exact ⟨none, 0, rfl, World.ownsRow_nil _ _ _ _, by (repeat (first | (with_reducible exact Below.refl _ _) | (with_reducible assumption) | (with_reducible refine Below.drew ?_) | (with_reducible refine below_drewN ?_ _) | ((with_reducible refine Below.setCell ?_ ?_ _); rotate_left; (focus (first | (simp; done) | (simp; omega) | omega))) | ((with_reducible refine Below.alloc ?_ ?_ _); rotate_left; (focus (first | (simp; done) | (simp; omega) | omega))) | ((with_reducible apply below_step1); (focus (with_reducible assumption)))))⟩
          · have t2 : (t.op != 2) = true := by simpa using h2
            rw [if_neg h2] at hS
            have HB := Lib.hid (show badCol items.length t = false by simp [badCol, h2])
            have HS := Lib.hid hS
            clear hS h2 htok
            go_wp2_with (at_builtin; refine wpList_app (v := u7) rfl _ _ stT rfl rfl (hown) rfl (by simp) rfl (by simp [Value.oneCell']) (by omega) (by omega) ?_; intro v6 w6 own6 hg6 hat6; have hz6 := hg6.size)
            have hb6 := below_app hbel hown hg6 (Nat.le_refl _) (by omega)
            refine ⟨⟨p + 1, by go_num, by have := HN.out; omega, by rw [HA1.out, HANY.out, HB.out]; rfl, ?_, hb6⟩, by simp [intOf]; omega⟩
            rw [HS.out, List.length_append, List.flatMap_append]
            exact own6
        · have hp1 : ¬ (p : Int) < (n : Int) := by omega
          have hpe : es.take p = es := List.take_of_length_le (by rw [HN.out]; omega)
          rw [hpe] at hown hsl HANY
          have hx3 := HX2.out
          rw [if_neg (by rw [HANY.out]; decide)] at hx3
          have HX3 := Lib.hid hx3
          obtain ⟨A8, c8, rfl, h8, h8'⟩ := own_slice hown
          have hr8 : RowT wr wr.heap.size A8 (subL items es).length (subL items es) := RowOf.of_own hown rfl
          have hv8 := rvalidE A8 (subL items es).length c8 (subL items es) wr (by omega) hr8
          clear hx3 hpe HX2
          cases hvl : validE (subL items es)
          · rw [hvl] at hv8
            have HX4 := Lib.hid (show x = ([], 8) by rw [← HX3.out, if_neg (by rw [hvl]; decide)])
            clear hvl
            go_wp2_with ((go_at_call 19; refine (hv8).mono ?_; rintro e w2 ⟨rfl, hb2⟩; have hz2 := hb2.size; (try simp at hz2)))
            refine bodyPost_ret (by simp [results, Tryd.results33, go_sem]; rfl) rfl ?_
            rw [HX4.out]
            exact ⟨none, 0, rfl, World.ownsRow_nil _ _ _ _, by (repeat (first | (with_reducible exact Below.refl _ _) | (with_reducible assumption) | (with_reducible refine Below.drew ?_) | (with_reducible refine below_drewN ?_ _) | ((with_reducible refine Below.setCell ?_ ?_ _); rotate_left; (focus (first | (simp; done) | (simp; omega) | omega))) | ((with_reducible refine Below.alloc ?_ ?_ _); rotate_left; (focus (first | (simp; done) | (simp; omega) | omega))) | ((with_reducible apply below_step1); (focus (with_reducible assumption)))))⟩
          · rw [hvl] at hv8
            have HX4 := Lib.hid (show x = (subL items es, 0) by rw [← HX3.out, if_pos hvl])
            clear hvl
            go_wp2_with ((go_at_call 19; refine (hv8).mono ?_; rintro e w2 ⟨rfl, hb2⟩; have hz2 := hb2.size; (try simp at hz2)))
            refine bodyPost_ret (by simp [results, Tryd.results33, go_sem]; rfl) rfl ?_
            rw [HX4.out]
            exact ⟨A8, c8, rfl, own_below hown hb2, by (repeat (first | (with_reducible exact Below.refl _ _) | (with_reducible assumption) | (with_reducible refine Below.drew ?_) | (with_reducible refine below_drewN ?_ _) | ((with_reducible refine Below.setCell ?_ ?_ _); rotate_left; (focus (first | (simp; done) | (simp; omega) | omega))) | ((with_reducible refine Below.alloc ?_ ?_ _); rotate_left; (focus (first | (simp; done) | (simp; omega) | omega))) | ((with_reducible apply below_step1); (focus (with_reducible assumption)))))⟩

theorem standT : Tryd.prog.stoodInHeld 36 = false := by kernel_rfl
theorem neqT_self (t : T) (w : World) : (binOp .neq 36 (.agg #[.int .i64 t.op, .int .i64 t.v.k, .int .i64 t.v.n, .string t.v.s, .int .i64 t.c]) (.agg #[.int .i64 t.op, .int .i64 t.v.k, .int .i64 t.v.n, .string t.v.s, .int .i64 t.c])).run Tryd.prog w = .ok (.bool false) w := by
  have hu := Tryd.underlying36
  have hu2 := Tryd.underlying34
  have h1 := standT
  have h2 := standV
  simp [go_sem, h1, h2, hu, hu2]
set_option maxRecDepth 100000 in
set_option maxHeartbeats 1000000 in
theorem rsame (A B : Option Addr) (n c d : Nat) (es : List T) (w : World) (hn : n ≤ maxLen) (hr : RowT w w.heap.size A n es) (hs : RowT w w.heap.size B n es) : Calls Tryd.prog 34 #[.slice A n c, .slice B n d] w fun e w' => e = .returned (.bool true) ∧ Below w.heap.size w w' := by
  unfold maxLen at hn
  have tn : ((n : Int) != (n : Int)) = false := by simp
  go_enter Tryd.func34, Tryd.ntmps34
  go_wp2_with fail
  go_loopw [5] (fun v5 wr => ∃ k : Nat, v5 = .int .i64 (k : Int) ∧ k ≤ n ∧ Below w.heap.size w wr) (fun v5 _ => n - (intOf v5).toNat)
  case atStart => exact ⟨0, rfl, by omega, by (repeat (first | (with_reducible exact Below.refl _ _) | (with_reducible assumption) | (with_reducible refine Below.drew ?_) | (with_reducible refine below_drewN ?_ _) | ((with_reducible refine Below.setCell ?_ ?_ _); rotate_left; (focus (first | (simp; done) | (simp; omega) | omega))) | ((with_reducible refine Below.alloc ?_ ?_ _); rotate_left; (focus (first | (simp; done) | (simp; omega) | omega))) | ((with_reducible apply below_step1); (focus (with_reducible assumption)))))⟩
  case round =>
    obtain ⟨k, rfl, hk, hbel⟩ := hrel
    have hzz := hbel.size
    by_cases hlt : k < n
    · have h1 : (k : Int) < (n : Int) := by omega
      have h0 : (0 : Int) ≤ (k : Int) := by omega
      have hkw : IntKind.i64.wrap ((k : Int) + 1) = (k : Int) + 1 := IntWalk.i64_in _ (by omega)
      obtain ⟨b, off, t, rfl, hb, ht, c0, c1, c2, c3, c4⟩ := RowT.at5 (hr.to hbel) hlt
      obtain ⟨b', off', t', rfl, hb', ht', d0, d1, d2, d3, d4⟩ := RowT.at5 (hs.to hbel) hlt
      obtain rfl := Option.some.inj (ht.symm.trans ht')
      have hneq := neqT_self t
      clear ht ht'
      go_wp2_with fail
      go_quiet (fail)
      go_wp2_with fail
      go_roundw
      case rel => exact ⟨k + 1, by go_num, by omega, by (repeat (first | (with_reducible exact Below.refl _ _) | (with_reducible assumption) | (with_reducible refine Below.drew ?_) | (with_reducible refine below_drewN ?_ _) | ((with_reducible refine Below.setCell ?_ ?_ _); rotate_left; (focus (first | (simp; done) | (simp; omega) | omega))) | ((with_reducible refine Below.alloc ?_ ?_ _); rotate_left; (focus (first | (simp; done) | (simp; omega) | omega))) | ((with_reducible apply below_step1); (focus (with_reducible assumption)))))⟩
      case measure => simp [intOf]; omega
    · have h1 : ¬ (k : Int) < (n : Int) := by omega
      go_wp2_with fail
      go_ret
      exact ⟨rfl, by (repeat (first | (with_reducible exact Below.refl _ _) | (with_reducible assumption) | (with_reducible refine Below.drew ?_) | (with_reducible refine below_drewN ?_ _) | ((with_reducible refine Below.setCell ?_ ?_ _); rotate_left; (focus (first | (simp; done) | (simp; omega) | omega))) | ((with_reducible refine Below.alloc ?_ ?_ _); rotate_left; (focus (first | (simp; done) | (simp; omega) | omega))) | ((with_reducible apply below_step1); (focus (with_reducible assumption)))))⟩
end Go.Proofs.YtojcabnjodfdmaaDoor
