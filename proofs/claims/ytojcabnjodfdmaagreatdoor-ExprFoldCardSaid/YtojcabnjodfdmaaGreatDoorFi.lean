/- Contracts of Type, of the program and of the reference. -/
import Derived.Test.YtojcabnjodfdmaaGreatDoorFh
import Derived.Test.YtojcabnjodfdmaaGreatDoorBd
import Derived.Test.YtojcabnjodfdmaaGreatDoorBa
namespace Go.Proofs.YtojcabnjodfdmaaGreatDoor
open Go.RowKit

def okT (z : Int) : Bool := z == 1 || z == 2
theorem okT_iff {z : Int} : okT z = true ↔ z = 1 ∨ z = 2 := by simp [okT]
theorem getD_okT {l : List Int} (h : ∀ z ∈ l, z = 1 ∨ z = 2) {i : Nat} (hi : i < l.length) : l.getD i 0 = 1 ∨ l.getD i 0 = 2 := by
  rw [List.getD_eq_getElem?_getD, List.getElem?_eq_getElem hi]
  exact h _ (List.getElem_mem hi)
mutual
theorem X.ty_12 (types : List Int) (hT : ∀ z ∈ types, z = 1 ∨ z = 2) (x : X) (hw : x.wf = true) (k : Int) (h : x.ty types = .ok k) : k = 1 ∨ k = 2 := by
  match x with
  | .node t ks =>
    simp only [X.wf, Bool.and_eq_true, decide_eq_true_eq] at hw
    obtain ⟨hok, hkl, hkw⟩ := hw
    rw [X.ty] at h
    cases hl : tys types ks with
    | error e => rw [hl] at h; cases h
    | ok l =>
      rw [hl] at h
      simp only at h
      have hl2 := tys_12 types hT ks hkw l hl
      have hll := tys_len types ks l hl
      unfold termT at h
      split at h
      · cases h
      · rename_i hc
        split at h
        · rename_i h1
          injection h with h
          subst h
          have := term_const hok h1
          rcases ok_null this.1 with g | g | g
          · exact absurd g this.2.1
          · exact .inl g
          · exact .inr g
        · split at h
          · rename_i h2
            injection h with h
            subst h
            have h0 := (term_col hok h2).1
            exact getD_okT hT (by
              have : ¬ t.c ≥ (types.length : Int) := fun g => hc ⟨h2, g⟩
              omega)
          · rename_i h1 h2
            unfold opT at h
            have two : ∀ (p : Prop) [Decidable p] (k' : Int), (k' = 1 ∨ k' = 2) → (if p then (Except.ok k' : Except Int Int) else .error 5) = .ok k → k = 1 ∨ k = 2 := by
              intro p _ k' hk' hh
              split at hh
              · injection hh with hh; omega
              · cases hh
            split at h
            · exact two _ 1 (.inl rfl) h
            · split at h
              · exact two _ 2 (.inr rfl) h
              · split at h
                · exact two _ 1 (.inl rfl) h
                · split at h
                  · exact two _ 2 (.inr rfl) h
                  · split at h
                    · exact two _ 1 (.inl rfl) h
                    · split at h
                      · injection h with h; omega
                      · split at h
                        · rename_i h17
                          exact two _ _ (getD_okT hl2 (by rw [hll, hkl, h17]; decide)) h
                        · split at h
                          · rename_i h18
                            exact two _ _ (getD_okT hl2 (by rw [hll, hkl, h18]; decide)) h
                          · exact two _ 1 (.inl rfl) h
theorem tys_12 (types : List Int) (hT : ∀ z ∈ types, z = 1 ∨ z = 2) (xs : List X) (hw : wfs xs = true) (l : List Int) (h : tys types xs = .ok l) : ∀ z ∈ l, z = 1 ∨ z = 2 := by
  match xs with
  | [] => simp [tys] at h; subst h; intro z hz; simp at hz
  | x :: xs =>
    simp only [wfs, Bool.and_eq_true] at hw
    rw [tys] at h
    cases hx : x.ty types with
    | error e => rw [hx] at h; cases h
    | ok a =>
      rw [hx] at h
      simp only at h
      cases hl : tys types xs with
      | error e => rw [hl] at h; cases h
      | ok l' =>
        rw [hl] at h
        simp at h
        subst h
        intro z hz
        rcases List.mem_cons.1 hz with rfl | hz
        · exact X.ty_12 types hT x hw.1 _ hx
        · exact tys_12 types hT xs hw.2 l' hl z hz
end
def tyRes (r : Except Int Int) : Int × Int := match r with
  | .ok k => (k, 0)
  | .error e => (0, e)
theorem typeE_bad {es : List T} (types : List Int) (h : validE es = false) : typeE es types = (0, 1) := by unfold typeE; rw [treeE_bad h]
theorem typeE_types {es : List T} {types : List Int} (h : types.all okT = false) : typeE es types = (0, 1) := by
  unfold typeE
  cases treeE es with
  | none => rfl
  | some x => simp only; rw [if_pos (show (types.all fun z => z == 1 || z == 2) = false from h)]
theorem typeE_ok {es : List T} {types : List Int} {x : X} (hx : treeE es = some x) (h : types.all okT = true) : typeE es types = tyRes (x.ty types) := by
  unfold typeE
  rw [hx]
  simp only
  rw [if_neg (by rw [show (types.all fun z => z == 1 || z == 2) = true from h]; decide)]
  unfold tyRes
  cases x.ty types <;> rfl
set_option maxRecDepth 100000 in
set_option maxHeartbeats 4000000 in
theorem xtype (A R : Option Addr) (n c m d : Nat) (es : List T) (types : List Int) (w : World) (hn : n ≤ maxLen) (hm : m ≤ maxLen) (hr : RowT w w.heap.size A n es) (hv : RowI w w.heap.size R m types) : Calls Tryz.prog 14 #[.slice A n c, .slice R m d] w (TyePost w (typeE es types)) := by
  have hmf : ∀ (fn : Fn) (first cap : Array Value) (w : World), (Instr.makeFunc fn first cap).run Tryz.prog w = .ok (.func fn first cap) w := fun _ _ _ _ => rfl
  have hvd := xvalidE A n c es w hn hr
  have HM := Lib.hid hv.len
  cases hval : validE es
  · rw [hval] at hvd
    have HE := Lib.hid (typeE_bad types hval)
    clear hval
    go_enter_defers Tryz.func14, Tryz.ntmps14
    go_wp2_with ((go_at_call 11; refine (hvd).mono ?_; rintro e w1 ⟨rfl, hb1⟩; have hz1 := hb1.size; (try simp at hz1)))
    refine leave_idle idle_Type (by simp [go_sem]) (by simp [results, Tryz.results14, go_sem]; rfl) ?_
    rw [HE.out]
    exact ⟨rfl, by (repeat (first | (with_reducible exact Below.refl _ _) | (with_reducible assumption) | (with_reducible refine Below.drew ?_) | (with_reducible refine below_drewN ?_ _) | ((with_reducible refine Below.setCell ?_ ?_ _); rotate_left; (focus (first | (simp; done) | (simp; omega) | omega))) | ((with_reducible refine Below.alloc ?_ ?_ _); rotate_left; (focus (first | (simp; done) | (simp; omega) | omega))) | ((with_reducible apply below_step1); (focus (with_reducible assumption)))))⟩
  rw [hval] at hvd
  obtain ⟨x, hx, hfl, hw, hd, hl⟩ := treeE_ok hval
  have hl2 := hr.len
  have hev := fun w1 hr1 hv1 => typeAt_c A R n c m d es types (by omega) hm 16 x [] 0 w1 hd hw (by simpa using hfl) hr1 hv1
  have HX := Lib.hid hx
  clear hval hx hfl hw hd hl hl2
  unfold maxLen at hm
  go_enter_defers Tryz.func14, Tryz.ntmps14
  go_wp2_with ((go_at_call 11; refine (hvd).mono ?_; rintro e w1 ⟨rfl, hb1⟩; have hz1 := hb1.size; (try simp at hz1)))
  go_loopw [16] (fun v16 wr => ∃ k : Nat, v16 = .int .i64 (k : Int) ∧ k ≤ m ∧ Hid ((types.take k).all okT = true) ∧ Below w.heap.size w wr) (fun v16 _ => m - (intOf v16).toNat)
  case atStart => exact ⟨0, rfl, by omega, rfl, by (repeat (first | (with_reducible exact Below.refl _ _) | (with_reducible assumption) | (with_reducible refine Below.drew ?_) | (with_reducible refine below_drewN ?_ _) | ((with_reducible refine Below.setCell ?_ ?_ _); rotate_left; (focus (first | (simp; done) | (simp; omega) | omega))) | ((with_reducible refine Below.alloc ?_ ?_ _); rotate_left; (focus (first | (simp; done) | (simp; omega) | omega))) | ((with_reducible apply below_step1); (focus (with_reducible assumption)))))⟩
  case round =>
    obtain ⟨k, rfl, hk, hH, hbel⟩ := hrel
    have hzz := hbel.size
    by_cases hlt : k < m
    · have h1 : (k : Int) < (m : Int) := by omega
      have h0 : (0 : Int) ≤ (k : Int) := by omega
      have hkw : IntKind.i64.wrap ((k : Int) + 1) = (k : Int) + 1 := IntWalk.i64_in _ (by omega)
      obtain ⟨b, off, z, rfl, hb, hz, hcell⟩ := RowI.at1 ((hv.below hbel).more hzz) hlt
      have HZ := Lib.hid hz
      clear hz
      by_cases z1 : z = 1
      · have t1 : (z != 1) = false := by simpa using z1
        have HO := Lib.hid (show okT z = true by rw [okT_iff]; exact .inl z1)
        clear z1
        go_wp2_with fail
        go_roundw
        case rel => exact ⟨k + 1, by go_num, by omega, by show _ = true; rw [take_all_succ _ _ _ _ HZ.out, hH.out, HO.out]; rfl, hbel⟩
        case measure => simp [intOf]; omega
      have t1 : (z != 1) = true := by simpa using z1
      by_cases z2 : z = 2
      · have t2 : (z != 2) = false := by simpa using z2
        have HO := Lib.hid (show okT z = true by rw [okT_iff]; exact .inr z2)
        clear z1 z2
        go_wp2_with fail
        go_roundw
        case rel => exact ⟨k + 1, by go_num, by omega, by show _ = true; rw [take_all_succ _ _ _ _ HZ.out, hH.out, HO.out]; rfl, hbel⟩
        case measure => simp [intOf]; omega
      · have t2 : (z != 2) = true := by simpa using z2
        have HE := Lib.hid (typeE_types (es := es) (all_not_at okT types k z HZ.out (by rw [Bool.eq_false_iff, Ne, okT_iff]; omega)))
        clear z1 z2
        go_wp2_with fail
        refine leave_idle idle_Type (by simp [go_sem]) (by simp [results, Tryz.results14, go_sem]; rfl) ?_
        rw [HE.out]
        exact ⟨rfl, by (repeat (first | (with_reducible exact Below.refl _ _) | (with_reducible assumption) | (with_reducible refine Below.drew ?_) | (with_reducible refine below_drewN ?_ _) | ((with_reducible refine Below.setCell ?_ ?_ _); rotate_left; (focus (first | (simp; done) | (simp; omega) | omega))) | ((with_reducible refine Below.alloc ?_ ?_ _); rotate_left; (focus (first | (simp; done) | (simp; omega) | omega))) | ((with_reducible apply below_step1); (focus (with_reducible assumption)))))⟩
    · have h1 : ¬ (k : Int) < (m : Int) := by omega
      have hall : types.all okT = true := by
        have := hH.out
        rwa [List.take_of_length_le (by rw [HM.out]; omega)] at this
      have HE := Lib.hid (typeE_ok HX.out hall)
      have hev2 := hev wr ((hr.below hbel).more hzz) ((hv.below hbel).more hzz)
      clear hev hall hH
      cases hty : x.ty types with
      | ok kt =>
        rw [hty] at hev2 HE
        clear hty
        go_wp2_with (go_at_call 30; refine hev2.mono ?_; rintro e2 w2 ⟨kk, kp, ke, rfl, ⟨rfl, rfl, rfl⟩, hb2⟩)
        refine leave_idle idle_Type (by simp [go_sem]) (by simp [results, Tryz.results14, go_sem]; rfl) ?_
        rw [HE.out]
        exact ⟨rfl, by (repeat (first | (with_reducible exact Below.refl _ _) | (with_reducible assumption) | (with_reducible refine Below.drew ?_) | (with_reducible refine below_drewN ?_ _) | ((with_reducible refine Below.setCell ?_ ?_ _); rotate_left; (focus (first | (simp; done) | (simp; omega) | omega))) | ((with_reducible refine Below.alloc ?_ ?_ _); rotate_left; (focus (first | (simp; done) | (simp; omega) | omega))) | ((with_reducible apply below_step1); (focus (with_reducible assumption)))))⟩
      | error er =>
        rw [hty] at hev2 HE
        clear hty
        go_wp2_with (go_at_call 30; refine hev2.mono ?_; rintro e2 w2 ⟨kk, kp, ke, rfl, ⟨rfl, rfl, rfl, _⟩, hb2⟩)
        refine leave_idle idle_Type (by simp [go_sem]) (by simp [results, Tryz.results14, go_sem]; rfl) ?_
        rw [HE.out]
        exact ⟨rfl, by (repeat (first | (with_reducible exact Below.refl _ _) | (with_reducible assumption) | (with_reducible refine Below.drew ?_) | (with_reducible refine below_drewN ?_ _) | ((with_reducible refine Below.setCell ?_ ?_ _); rotate_left; (focus (first | (simp; done) | (simp; omega) | omega))) | ((with_reducible refine Below.alloc ?_ ?_ _); rotate_left; (focus (first | (simp; done) | (simp; omega) | omega))) | ((with_reducible apply below_step1); (focus (with_reducible assumption)))))⟩
end Go.Proofs.YtojcabnjodfdmaaGreatDoor
