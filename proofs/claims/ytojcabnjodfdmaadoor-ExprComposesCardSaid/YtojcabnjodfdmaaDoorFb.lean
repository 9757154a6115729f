/- Contract of the program's Substitute. -/
import Derived.Test.YtojcabnjodfdmaaDoorBc
import Derived.Test.YtojcabnjodfdmaaDoorBd
import Derived.Test.YtojcabnjodfdmaaDoorXSubst
import Derived.Test.YtojcabnjodfdmaaDoorBa
namespace Go.Proofs.YtojcabnjodfdmaaDoor
open Go.RowKit

/-- A slice of rows of terms. -/
structure Items (w : World) (I : Option Addr) (m : Nat) (items : List (List T)) : Prop where
  len : items.length = m
  at_ : ∀ (k : Nat) l, items[k]? = some l → ∃ ib ioff A c, I = some ⟨ib, ioff, none⟩ ∧ ib < w.heap.size ∧ w.cell? ⟨ib, ioff + k, none⟩ = some (.slice A l.length c) ∧ l.length ≤ c ∧ c ≤ maxLen ∧ (A = none → c = 0) ∧ RowT w w.heap.size A l.length l
theorem Items.to {w w' : World} {I : Option Addr} {m : Nat} {items : List (List T)} (h : Items w I m items) (hb : Below w.heap.size w w') : Items w' I m items := by
  refine ⟨h.len, fun k l hk => ?_⟩
  obtain ⟨ib, ioff, A, c, h1, h2, h3, h4, h5, h6, h7⟩ := h.at_ k l hk
  exact ⟨ib, ioff, A, c, h1, Nat.lt_of_lt_of_le h2 hb.size, (hb.cell (p := ⟨ib, ioff + k, none⟩) h2).trans h3, h4, h5, h6, h7.to hb⟩
theorem Items.nil_ {w : World} {I : Option Addr} : Items w I 0 [] := ⟨rfl, fun k l h => by simp at h⟩
def SubPost (w : World) (x : List T × Int) (e : Ending) (w' : World) : Prop :=
  ∃ (A : Option Addr) (c : Nat), e = .returned (.tuple #[.slice A x.1.length c, .int .i64 x.2]) ∧ w'.ownsRow w.heap.size 36 5 (.slice A x.1.length c) x.1.length (x.1.flatMap T.cells) ∧ Below w.heap.size w w'
theorem idle_Substitute (w : World) : CallsD Tryd.prog 54 #[] .returning w fun e u' w' => e = .returned (.tuple #[]) ∧ u' = .returning ∧ w' = w := by
  refine callsD_of_wpS Tryd.func54 rfl fun c₀ cs hu => ?_
  apply wpS_region
  cases c₀
  simp_all [wpOpsS, go_sem, recoverD, Tryd.ntmps54, bodyPostS, results, Tryd.results54]
/-- After so many terms of Substitute. -/
def SbRel (w : World) (es : List T) (items : List (List T)) (v8 v26 : Value) (wr : World) : Prop :=
  ∃ k : Nat, v26 = .int .i64 (k : Int) ∧ k ≤ es.length ∧ (es.take k).any (badCol items.length) = false ∧ wr.ownsRow w.heap.size 36 5 v8 (subL items (es.take k)).length ((subL items (es.take k)).flatMap T.cells) ∧ Below w.heap.size w wr
set_option maxRecDepth 100000 in
set_option maxHeartbeats 4000000 in
theorem xsubst (A I : Option Addr) (n c m d : Nat) (es : List T) (items : List (List T)) (w : World) (hn : n ≤ maxLen) (hm : m ≤ 1000) (hr : RowT w w.heap.size A n es) (hi : Items w I m items) : Calls Tryd.prog 32 #[.slice A n c, .slice I m d] w (SubPost w (substE es items)) := by
  have hmf : ∀ (fn : Fn) (first cap : Array Value) (w : World), (Instr.makeFunc fn first cap).run Tryd.prog w = .ok (.func fn first cap) w := fun _ _ _ _ => rfl
  have hvd := xvalidE A n c es w hn hr
  have HN := Lib.hid hr.len
  have HM := Lib.hid hi.len
  obtain ⟨x, hx⟩ : ∃ x, substE es items = x := ⟨_, rfl⟩
  rw [hx]
  unfold substE at hx
  cases hval : validE es
  · rw [hval] at hvd
    rw [if_pos hval] at hx
    subst hx
    clear hval
    go_enter_defers Tryd.func32, Tryd.ntmps32
    go_wp2_with ((go_at_call 18; refine (hvd).mono ?_; rintro e w1 ⟨rfl, hb1⟩; have hz1 := hb1.size; (try simp at hz1)))
    refine leave_idle idle_Substitute (by simp [go_sem]) (by simp [results, Tryd.results32, go_sem]; rfl) ?_
    exact ⟨none, 0, rfl, World.ownsRow_nil _ _ _ _, by (repeat (first | (with_reducible exact Below.refl _ _) | (with_reducible assumption) | (with_reducible refine Below.drew ?_) | (with_reducible refine below_drewN ?_ _) | ((with_reducible refine Below.setCell ?_ ?_ _); rotate_left; (focus (first | (simp; done) | (simp; omega) | omega))) | ((with_reducible refine Below.alloc ?_ ?_ _); rotate_left; (focus (first | (simp; done) | (simp; omega) | omega))) | ((with_reducible apply below_step1); (focus (with_reducible assumption)))))⟩
  rw [hval] at hvd
  rw [if_neg (by rw [hval]; decide)] at hx
  have hl64 := validE_len hval
  have hn64 : n ≤ 64 := by have := HN.out; omega
  have HOK := Lib.hid (validE_terms hval)
  have HX := Lib.hid hx
  clear hx hval hl64
  go_enter_defers Tryd.func32, Tryd.ntmps32
  go_wp2_with ((go_at_call 18; refine (hvd).mono ?_; rintro e w1 ⟨rfl, hb1⟩; have hz1 := hb1.size; (try simp at hz1)))
  go_loopw [16] (fun v16 wr => ∃ k : Nat, v16 = .int .i64 (k : Int) ∧ k ≤ m ∧ Hid ((items.take k).all validE = true) ∧ Below w.heap.size w wr) (fun v16 _ => m - (intOf v16).toNat)
  case atStart => exact ⟨0, rfl, by omega, rfl, by (repeat (first | (with_reducible exact Below.refl _ _) | (with_reducible assumption) | (with_reducible refine Below.drew ?_) | (with_reducible refine below_drewN ?_ _) | ((with_reducible refine Below.setCell ?_ ?_ _); rotate_left; (focus (first | (simp; done) | (simp; omega) | omega))) | ((with_reducible refine Below.alloc ?_ ?_ _); rotate_left; (focus (first | (simp; done) | (simp; omega) | omega))) | ((with_reducible apply below_step1); (focus (with_reducible assumption)))))⟩
  case round =>
    obtain ⟨k, rfl, hk, hH, hbel⟩ := hrel
    have hzz := hbel.size
    by_cases hlt : k < m
    · have h1 : (k : Int) < (m : Int) := by omega
      have h0 : (0 : Int) ≤ (k : Int) := by omega
      have hkw : IntKind.i64.wrap ((k : Int) + 1) = (k : Int) + 1 := IntWalk.i64_in _ (by omega)
      obtain ⟨l, hl⟩ : ∃ l, items[k]? = some l := ⟨_, List.getElem?_eq_getElem (by have := HM.out; omega)⟩
      obtain ⟨ib, ioff, IA, ic, rfl, hib, hcell, hlc, hcm, _, hrow⟩ := (hi.to hbel).at_ k l hl
      have hv2 := xvalidE IA l.length ic l wr (by omega) hrow
      have HL := Lib.hid hl
      clear hl
      cases hvl : validE l
      · rw [hvl] at hv2
        have HX2 := Lib.hid (show x = ([], 1) by
          rw [← HX.out, if_pos (all_not_at validE items k l HL.out hvl)])
        clear hvl
        go_wp2_with ((go_at_call 18; refine (hv2).mono ?_; rintro e w2 ⟨rfl, hb2⟩; have hz2 := hb2.size; (try simp at hz2)))
        refine leave_idle idle_Substitute (by simp [go_sem]) (by simp [results, Tryd.results32, go_sem]; rfl) ?_
        rw [HX2.out]
        exact ⟨none, 0, rfl, World.ownsRow_nil _ _ _ _, by (repeat (first | (with_reducible exact Below.refl _ _) | (with_reducible assumption) | (with_reducible refine Below.drew ?_) | (with_reducible refine below_drewN ?_ _) | ((with_reducible refine Below.setCell ?_ ?_ _); rotate_left; (focus (first | (simp; done) | (simp; omega) | omega))) | ((with_reducible refine Below.alloc ?_ ?_ _); rotate_left; (focus (first | (simp; done) | (simp; omega) | omega))) | ((with_reducible apply below_step1); (focus (with_reducible assumption)))))⟩
      · rw [hvl] at hv2
        have HV := Lib.hid hvl
        clear hvl
        go_wp2_with ((go_at_call 18; refine (hv2).mono ?_; rintro e w2 ⟨rfl, hb2⟩; have hz2 := hb2.size; (try simp at hz2)))
        go_roundw
        case rel => exact ⟨k + 1, by go_num, by omega, by show _ = true; rw [take_all_succ _ _ _ _ HL.out, hH.out, HV.out]; rfl, by (repeat (first | (with_reducible exact Below.refl _ _) | (with_reducible assumption) | (with_reducible refine Below.drew ?_) | (with_reducible refine below_drewN ?_ _) | ((with_reducible refine Below.setCell ?_ ?_ _); rotate_left; (focus (first | (simp; done) | (simp; omega) | omega))) | ((with_reducible refine Below.alloc ?_ ?_ _); rotate_left; (focus (first | (simp; done) | (simp; omega) | omega))) | ((with_reducible apply below_step1); (focus (with_reducible assumption)))))⟩
        case measure => simp [intOf]; omega
    · have h1 : ¬ (k : Int) < (m : Int) := by omega
      have hall : items.all validE = true := by
        have := hH.out
        rwa [List.take_of_length_le (by rw [HM.out]; omega)] at this
      have hx2 := HX.out
      rw [if_neg (by rw [hall]; decide)] at hx2
      have HX2 := Lib.hid hx2
      have HALL := Lib.hid hall
      clear hx2 hall HX hH
      obtain ⟨W1, rfl⟩ : ∃ W1, W1 = wr := ⟨_, rfl⟩
      go_wp2_with fail
      go_loopw [8, 26] (fun v8 v26 wr => SbRel w es items v8 v26 wr) (fun _ v26 _ => n - (intOf v26).toNat)
      case atStart => exact ⟨0, rfl, by omega, rfl, World.ownsRow_nil _ _ _ _, hbel⟩
      case round =>
        clear hbel hzz
        obtain ⟨p, rfl, hp, hany, hown, hbel⟩ := hrel
        have hzz := hbel.size
        have HANY := Lib.hid hany
        clear hany
        have hsl : (subL items (es.take p)).length ≤ 4096 := by
          have h1 := subL_len HALL.out (es.take p)
          have h2 : (es.take p).length ≤ 64 := by rw [List.length_take, HN.out]; omega
          omega
        by_cases hpn : p < n
        · have hp1 : (p : Int) < (n : Int) := by omega
          have hp0 : (0 : Int) ≤ (p : Int) := by omega
          have hpw : IntKind.i64.wrap ((p : Int) + 1) = (p : Int) + 1 := IntWalk.i64_in _ (by omega)
          obtain ⟨b, off, t, rfl, hb, ht, c0, c1, c2, c3, c4⟩ := RowT.at5 ((hr.below hbel).more hzz) hpn
          have HT := Lib.hid ht
          have hS := subL_take (items := items) ht
          have htok := HOK.out t (List.mem_of_getElem? ht)
          have HA1 := Lib.hid (take_any_succ (badCol items.length) es p t ht)
          clear ht
          by_cases h2 : t.op = 2
          · have t2 : (t.op != 2) = false := by simpa using h2
            have hc0 := (term_col htok h2).1
            rw [if_pos h2] at hS
            by_cases hcm : t.c < (m : Int)
            · obtain ⟨q, hq⟩ := Int.eq_ofNat_of_zero_le hc0
              obtain ⟨l, hl⟩ : ∃ l, items[q]? = some l := ⟨_, List.getElem?_eq_getElem (by have := HM.out; omega)⟩
              obtain ⟨ib, ioff, IA, ic, rfl, hib, hcell, hlc, hcm2, hnone, hrow⟩ := (hi.to hbel).at_ q l hl
              rw [hq, Int.toNat_natCast, List.getD_eq_getElem?_getD, hl, Option.getD_some] at hS
              have hll : l.length ≤ 64 := validE_len (List.all_eq_true.1 HALL.out l (List.mem_of_getElem? hl))
              have HB := Lib.hid (show badCol items.length t = false by simp [badCol, HM.out]; omega)
              have HS := Lib.hid hS
              have HNO := Lib.hid hnone
              rw [hq] at c4 hcm
              have hq0 : (0 : Int) ≤ (q : Int) := by omega
              clear hS hl hq hnone h2 hc0 htok
              go_wp2_with (at_builtin; refine wpList_appAny (v := u8) rfl _ _ stT rfl rfl (hown.alloc _) rfl (news := l.flatMap T.cells) (tcells_len _) (by exact (hrow.to (by (repeat (first | (with_reducible exact Below.refl _ _) | (with_reducible assumption) | (with_reducible refine Below.drew ?_) | (with_reducible refine below_drewN ?_ _) | ((with_reducible refine Below.setCell ?_ ?_ _); rotate_left; (focus (first | (simp; done) | (simp; omega) | omega))) | ((with_reducible refine Below.alloc ?_ ?_ _); rotate_left; (focus (first | (simp; done) | (simp; omega) | omega))) | ((with_reducible apply below_step1); (focus (with_reducible assumption))))))).rd) HNO.out (tcells_one _) (by omega) (by simp; omega) ?_; intro v6 w6 own6 hg6 hat6; have hz6 := hg6.size)
              have hb6 := below_app (hbel.alloc (by omega) _) (hown.alloc _) hg6 (Nat.le_refl _) (by simp; omega)
              refine ⟨⟨p + 1, by go_num, by have := HN.out; omega, by rw [HA1.out, HANY.out, HB.out]; rfl, ?_, hb6⟩, by simp [intOf]; omega⟩
              rw [HS.out, List.length_append, List.flatMap_append]
              exact own6
            · have hcm2 : ¬ t.c < (m : Int) := hcm
              have HX3 := Lib.hid (show x = ([], 3) by
                rw [← HX2.out, if_pos (any_of_at (badCol items.length) es p t HT.out (by simp [badCol, HM.out, h2]; omega))])
              clear hS h2 hcm htok
              go_wp2_with fail
              refine leave_idle idle_Substitute (by simp [go_sem]) (by simp [results, Tryd.results32, go_sem]; rfl) ?_
              rw [HX3.out]
              exact ⟨none, 0, rfl, World.ownsRow_nil _ _ _ _, by (repeat (first | (with_reducible exact Below.refl _ _) | (with_reducible assumption) | (with_reducible refine Below.drew ?_) | (with_reducible refine below_drewN ?_ _) | ((with_reducible refine Below.setCell ?_ ?_ _); rotate_left; (focus (first | (simp; done) | (simp; omega) | omega))) | ((with_reducible refine Below.alloc ?_ ?_ _); rotate_left; (focus (first | (simp; done) | (simp; omega) | omega))) | ((with_reducible apply below_step1); (focus (with_reducible assumption)))))⟩
          · have t2 : (t.op != 2) = true := by simpa using h2
            rw [if_neg h2] at hS
            have HB := Lib.hid (show badCol items.length t = false by simp [badCol, h2])
            have HS := Lib.hid hS
            clear hS h2 htok
            go_wp2_with (at_builtin; refine wpList_app (v := u8) rfl _ _ stT rfl rfl (hown.alloc _) rfl (by simp) rfl (by simp [Value.oneCell']) (by omega) (by simp; omega) ?_; intro v6 w6 own6 hg6 hat6; have hz6 := hg6.size)
            have hb6 := below_app (hbel.alloc (by omega) _) (hown.alloc _) hg6 (Nat.le_refl _) (by simp; omega)
            refine ⟨⟨p + 1, by go_num, by have := HN.out; omega, by rw [HA1.out, HANY.out, HB.out]; rfl, ?_, hb6⟩, by simp [intOf]; omega⟩
            rw [HS.out, List.length_append, List.flatMap_append]
            exact own6
        · have hp1 : ¬ (p : Int) < (n : Int) := by omega
          have hpe : es.take p = es := List.take_of_length_le (by rw [HN.out]; omega)
          rw [hpe] at hown hsl HANY
          have hx3 := HX2.out
          rw [if_neg (by rw [HANY.out]; decide)] at hx3
          have HX3 := Lib.hid hx3
          obtain ⟨A8, c8, rfl, h8, h8'⟩ := own_slice hown
          have hr8 : RowT wr wr.heap.size A8 (subL items es).length (subL items es) := RowOf.of_own hown rfl
          have hv8 := xvalidE A8 (subL items es).length c8 (subL items es) wr (by omega) hr8
          clear hx3 hpe HX2
          cases hvl : validE (subL items es)
          · rw [hvl] at hv8
            have HX4 := Lib.hid (show x = ([], 8) by rw [← HX3.out, if_neg (by rw [hvl]; decide)])
            clear hvl
            go_wp2_with ((go_at_call 18; refine (hv8).mono ?_; rintro e w2 ⟨rfl, hb2⟩; have hz2 := hb2.size; (try simp at hz2)))
            refine leave_idle idle_Substitute (by simp [go_sem]) (by simp [results, Tryd.results32, go_sem]; rfl) ?_
            rw [HX4.out]
            exact ⟨none, 0, rfl, World.ownsRow_nil _ _ _ _, by (repeat (first | (with_reducible exact Below.refl _ _) | (with_reducible assumption) | (with_reducible refine Below.drew ?_) | (with_reducible refine below_drewN ?_ _) | ((with_reducible refine Below.setCell ?_ ?_ _); rotate_left; (focus (first | (simp; done) | (simp; omega) | omega))) | ((with_reducible refine Below.alloc ?_ ?_ _); rotate_left; (focus (first | (simp; done) | (simp; omega) | omega))) | ((with_reducible apply below_step1); (focus (with_reducible assumption)))))⟩
          · rw [hvl] at hv8
            have HX4 := Lib.hid (show x = (subL items es, 0) by rw [← HX3.out, if_pos hvl])
            clear hvl
            go_wp2_with ((go_at_call 18; refine (hv8).mono ?_; rintro e w2 ⟨rfl, hb2⟩; have hz2 := hb2.size; (try simp at hz2)))
            refine leave_idle idle_Substitute (by simp [go_sem]) (by simp [results, Tryd.results32, go_sem]; rfl) ?_
            rw [HX4.out]
            exact ⟨A8, c8, rfl, own_below hown hb2, by (repeat (first | (with_reducible exact Below.refl _ _) | (with_reducible assumption) | (with_reducible refine Below.drew ?_) | (with_reducible refine below_drewN ?_ _) | ((with_reducible refine Below.setCell ?_ ?_ _); rotate_left; (focus (first | (simp; done) | (simp; omega) | omega))) | ((with_reducible refine Below.alloc ?_ ?_ _); rotate_left; (focus (first | (simp; done) | (simp; omega) | omega))) | ((with_reducible apply below_step1); (focus (with_reducible assumption)))))⟩
end Go.Proofs.YtojcabnjodfdmaaDoor
