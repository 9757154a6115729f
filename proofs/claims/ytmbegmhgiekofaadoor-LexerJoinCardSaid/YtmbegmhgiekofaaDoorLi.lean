/- The walks of the laws LexerScan, LexerPieces and LexerNames; where the variable ErrRange can be read. -/
import Derived.Test.YtmbegmhgiekofaaDoorLg
import Derived.Test.YtmbegmhgiekofaaDoorLh
import Derived.Test.YtmbegmhgiekofaaDoorTc
import Derived.Deep.DeepCutAuto
namespace Go.Proofs.YtmbegmhgiekofaaDoor
open Go.RowKit

theorem tape_below {w W w' : World} {b : Nat} (h : Below w.heap.size w W) (hg : W.grownBy w' (some b)) (hb : w.heap.size ≤ b) : Below w.heap.size w w' :=
  h.grown hg h.size (fun k hk => by injection hk with hk; omega)
set_option maxRecDepth 100000 in
set_option maxHeartbeats 1000000 in
theorem lexerScan_w (s : ByteArray) (w : World) (hE : GE w) : Calls Tryd.prog 3 #[.string s] w fun e w' => e = .returned (.bool true) ∧ Below w.heap.size w w' := by
  by_cases h : 500 < s.size
  · have h1 : (500 : Int) < (s.size : Int) := by omega
    go_enter Tryd.func3, Tryd.ntmps3
    go_wp2_with (go_at_call 10; refine (awake_c _ (by exact hE.below (by (repeat (first | (with_reducible exact Below.refl _ _) | (with_reducible assumption) | (with_reducible refine Below.drew ?_) | (with_reducible refine below_drewN ?_ _) | ((with_reducible refine Below.setCell ?_ ?_ _); rotate_left; (focus (first | (simp; done) | (simp; omega) | omega))) | ((with_reducible refine Below.alloc ?_ ?_ _); rotate_left; (focus (first | (simp; done) | (simp; omega) | omega))) | ((with_reducible apply below_step1); (focus (with_reducible assumption)))))))).mono ?_; rintro e w1 ⟨rfl, hb1⟩)
    go_ret
    exact ⟨rfl, by (repeat (first | (with_reducible exact Below.refl _ _) | (with_reducible assumption) | (with_reducible refine Below.drew ?_) | (with_reducible refine below_drewN ?_ _) | ((with_reducible refine Below.setCell ?_ ?_ _); rotate_left; (focus (first | (simp; done) | (simp; omega) | omega))) | ((with_reducible refine Below.alloc ?_ ?_ _); rotate_left; (focus (first | (simp; done) | (simp; omega) | omega))) | ((with_reducible apply below_step1); (focus (with_reducible assumption)))))⟩
  · have h1 : ¬ (500 : Int) < (s.size : Int) := by omega
    go_enter Tryd.func3, Tryd.ntmps3
    go_wp2_with (first
      | (go_at_call 11; refine (scans_c s _ (by omega) (by exact hE.below (by (repeat (first | (with_reducible exact Below.refl _ _) | (with_reducible assumption) | (with_reducible refine Below.drew ?_) | (with_reducible refine below_drewN ?_ _) | ((with_reducible refine Below.setCell ?_ ?_ _); rotate_left; (focus (first | (simp; done) | (simp; omega) | omega))) | ((with_reducible refine Below.alloc ?_ ?_ _); rotate_left; (focus (first | (simp; done) | (simp; omega) | omega))) | ((with_reducible apply below_step1); (focus (with_reducible assumption)))))))).mono ?_; rintro e w1 ⟨rfl, hb1⟩; have hz1 := hb1.size)
      | (go_at_call 10; refine (awake_c _ (by exact hE.below (by (repeat (first | (with_reducible exact Below.refl _ _) | (with_reducible assumption) | (with_reducible refine Below.drew ?_) | (with_reducible refine below_drewN ?_ _) | ((with_reducible refine Below.setCell ?_ ?_ _); rotate_left; (focus (first | (simp; done) | (simp; omega) | omega))) | ((with_reducible refine Below.alloc ?_ ?_ _); rotate_left; (focus (first | (simp; done) | (simp; omega) | omega))) | ((with_reducible apply below_step1); (focus (with_reducible assumption)))))))).mono ?_; rintro e w2 ⟨rfl, hb2⟩))
    go_ret
    exact ⟨rfl, by (repeat (first | (with_reducible exact Below.refl _ _) | (with_reducible assumption) | (with_reducible refine Below.drew ?_) | (with_reducible refine below_drewN ?_ _) | ((with_reducible refine Below.setCell ?_ ?_ _); rotate_left; (focus (first | (simp; done) | (simp; omega) | omega))) | ((with_reducible refine Below.alloc ?_ ?_ _); rotate_left; (focus (first | (simp; done) | (simp; omega) | omega))) | ((with_reducible apply below_step1); (focus (with_reducible assumption)))))⟩
set_option maxRecDepth 100000 in
set_option maxHeartbeats 2000000 in
theorem lexerPieces_w (A : Option Addr) (n c : Nat) (zs : List Int) (w : World) (h : IntsR w A n c zs) (hE : GE w) : Calls Tryd.prog 4 #[.slice A n c] w fun e w' => e = .returned (.bool true) ∧ Below w.heap.size w w' := by
  go_enter Tryd.func4, Tryd.ntmps4
  go_wp2_with fail
  refine (new_c A n c zs _ h).mono ?_
  rintro e w1 ⟨b, g, rfl, tp1, hb, hg, bel1⟩
  go_wp2_with fail
  refine (tpieces b g 12 _ (by omega) tp1).mono ?_
  rintro e w2 ⟨s, rfl, hs, tp2, g2⟩
  have bel2 := tape_below bel1 g2 hb
  go_wp2_with fail
  refine (scans_c s _ (by omega) (by exact hE.below bel2)).mono ?_
  rintro e w3 ⟨rfl, hb3⟩
  have bel3 := below_step hb3 bel2 (Nat.le_refl _)
  go_wp2_with fail
  refine (tedit b g s _ (by omega) (tp2.step hb3)).mono ?_
  rintro e w4 ⟨s2, rfl, hs2, tp4, g4⟩
  have bel4 := tape_below bel3 g4 hb
  go_wp2_with fail
  refine (scans_c s2 _ (by omega) (by exact hE.below bel4)).mono ?_
  rintro e w5 ⟨rfl, hb5⟩
  have bel5 := below_step hb5 bel4 (Nat.le_refl _)
  go_wp2_with fail
  refine (tedit b g s _ (by omega) (tp4.step hb5)).mono ?_
  rintro e w6 ⟨s3, rfl, hs3, tp6, g6⟩
  have bel6 := tape_below bel5 g6 hb
  go_wp2_with fail
  refine (tedit b g s3 _ (by omega) tp6).mono ?_
  rintro e w7 ⟨s4, rfl, hs4, tp7, g7⟩
  have bel7 := tape_below bel6 g7 hb
  go_wp2_with fail
  refine (scans_c s4 _ (by omega) (by exact hE.below bel7)).mono ?_
  rintro e w8 ⟨rfl, hb8⟩
  have bel8 := below_step hb8 bel7 (Nat.le_refl _)
  go_wp2_with (go_at_call 10; refine (awake_c _ (by exact hE.below bel8)).mono ?_; rintro e w9 ⟨rfl, hb9⟩)
  go_ret
  exact ⟨rfl, below_step hb9 bel8 (Nat.le_refl _)⟩

/-- After so many of the names. -/
def NmRel (w : World) (L : Nat) (cs : Array Value) (v7 : Value) (wr : World) : Prop := ∃ k : Nat, k ≤ 4 ∧ v7 = .int .i64 k ∧ Below w.heap.size w wr ∧ wr.heap[L]? = some (.cells cs 9 (0, 0))
set_option maxRecDepth 100000 in
set_option maxHeartbeats 4000000 in
theorem lexerNames_w (A : Option Addr) (n c : Nat) (zs : List Int) (s : ByteArray) (w : World) (h : IntsR w A n c zs) (hE : GE w) : Calls Tryd.prog 7 #[.slice A n c, .string s] w fun e w' => e = .returned (.bool true) ∧ Below w.heap.size w w' := by
  go_enter Tryd.func7, Tryd.ntmps7
  go_wp2_with fail
  refine (new_c A n c zs _ h).mono ?_
  rintro e w1 ⟨b, g, rfl, tp1, hb, hg, bel1⟩
  clear h
  go_upto_if 12 with fail
  go_cut [1] (fun v1 wx => ∃ s1 : ByteArray, v1 = .string s1 ∧ s1.size ≤ 200 ∧ w1 = wx)
  case first =>
    by_cases h2 : 200 < s.size
    · have t2 : (200 : Int) < (s.size : Int) := by omega
      go_wp2_with fail
      go_meet
      exact ⟨⟨#[]⟩, rfl, by decide, rfl⟩
    · have t2 : ¬ (200 : Int) < (s.size : Int) := by omega
      go_wp2_with fail
      go_meet
      exact ⟨s, rfl, by omega, rfl⟩
  case rest =>
    obtain ⟨s1, rfl, hs1, rfl⟩ := hcut
    go_wp2_with fail
    refine (tname b g _ tp1).mono ?_
    rintro e w2 ⟨a1, rfl, ha1, tp2, g2⟩
    have bel2 := tape_below bel1 g2 hb
    go_wp2_with fail
    refine (tname b g _ tp2).mono ?_
    rintro e w3 ⟨a2, rfl, ha2, tp3, g3⟩
    have bel3 := tape_below bel2 g3 hb
    go_wp2_with fail
    refine (tedit b g a2 _ (by omega) tp3).mono ?_
    rintro e w4 ⟨a3, rfl, ha3, tp4, g4⟩
    have bel4 := tape_below bel3 g4 hb
    go_wp2_with fail
    refine (tname b g _ tp4).mono ?_
    rintro e w5 ⟨b1, rfl, hb1, tp5, g5⟩
    have bel5 := tape_below bel4 g5 hb
    go_wp2_with fail
    refine (tname b g _ tp5).mono ?_
    rintro e w6 ⟨b2, rfl, hb2, tp6, g6⟩
    have bel6 := tape_below bel5 g6 hb
    have z1 : ∀ w, (Op.stringOp .add b1 b2).run Tryd.prog w = .ok (.string (b1 ++ b2)) w := fun w => run_string_add_sum w _ _ (by omega)
    have y1 : (b1 ++ b2).size ≤ 10 := by rw [ByteArray.size_append]; omega
    go_wp2_with fail
    refine (tname b g _ tp6).mono ?_
    rintro e w7 ⟨b3, rfl, hb3, tp7, g7⟩
    have bel7 := tape_below bel6 g7 hb
    clear z1
    generalize b1 ++ b2 = c2 at y1 ⊢
    have z2 : ∀ w, (Op.stringOp .add c2 b3).run Tryd.prog w = .ok (.string (c2 ++ b3)) w := fun w => run_string_add_sum w _ _ (by omega)
    have y2 : (c2 ++ b3).size ≤ 15 := by rw [ByteArray.size_append]; omega
    go_wp2_with fail
    refine (tname b g _ tp7).mono ?_
    rintro e w8 ⟨b4, rfl, hb4, tp8, g8⟩
    have bel8 := tape_below bel7 g8 hb
    clear z2
    generalize c2 ++ b3 = c3 at y2 ⊢
    have z3 : ∀ w, (Op.stringOp .add c3 b4).run Tryd.prog w = .ok (.string (c3 ++ b4)) w := fun w => run_string_add_sum w _ _ (by omega)
    have y3 : (c3 ++ b4).size ≤ 20 := by rw [ByteArray.size_append]; omega
    go_wp2_with fail
    refine (tname b g _ tp8).mono ?_
    rintro e w9 ⟨b5, rfl, hb5, tp9, g9⟩
    have bel9 := tape_below bel8 g9 hb
    clear z3
    generalize c3 ++ b4 = c4 at y3 ⊢
    have z4 : ∀ w, (Op.stringOp .add c4 b5).run Tryd.prog w = .ok (.string (c4 ++ b5)) w := fun w => run_string_add_sum w _ _ (by omega)
    have y4 : (c4 ++ b5).size ≤ 25 := by rw [ByteArray.size_append]; omega
    obtain ⟨c5, hc5⟩ : ∃ c5, c4 ++ b5 = c5 := ⟨_, rfl⟩
    rw [hc5] at z4 y4
    clear hc5
    have hz9 := bel9.size
    clear tp1 tp2 tp3 tp4 tp5 tp6 tp7 tp8 tp9 g2 g3 g4 g5 g6 g7 g8 g9 bel2 bel3 bel4 bel5 bel6 bel7 bel8
    go_wp2_with fail
    go_loopw [7] (fun v7 wr => NmRel w w9.heap.size #[.string s1, .string a1, .string a3, .string c5] v7 wr) (fun v7 _ => 4 - (intOf v7).toNat)
    case atStart => exact ⟨0, by omega, rfl, bel9.alloc (by omega) _, heap_alloc_new _ _⟩
    case round =>
      obtain ⟨k, hk, rfl, hbel, hblk⟩ := hrel
      by_cases hlt : k < 4
      · obtain ⟨st, hst, hcell⟩ : ∃ st : ByteArray, st.size ≤ 100000 ∧ wr.cell? ⟨w9.heap.size, k, none⟩ = some (.string st) := by
          obtain ⟨c0, _⟩ := blk_rules hblk
          rcases (show k = 0 ∨ k = 1 ∨ k = 2 ∨ k = 3 by omega) with rfl | rfl | rfl | rfl
          · exact ⟨s1, by omega, c0 0⟩
          · exact ⟨a1, by omega, c0 1⟩
          · exact ⟨a3, by omega, c0 2⟩
          · exact ⟨c5, by omega, c0 3⟩
        have HB := Lib.hid hblk
        clear hblk
        have hk0 : (0 : Int) ≤ (k : Int) := by omega
        have hk4 : (k : Int) < 4 := by omega
        have hkw : IntKind.i64.wrap ((k : Int) + 1) = (k : Int) + 1 := IntWalk.i64_in _ (by omega)
        have hP := fun w => xisName st w (by omega)
        have hQ := fun w => risName st w (by omega)
        generalize isNameB st.data.toList = q at hP hQ
        have hqq : (q != q) = false := by simp
        go_wp2_with fail
        go_quiet ((first | (go_at_call 19; exact Calls.quiet_of_same ((hP _).mono fun e w' h => ⟨h.1, h.2.symm⟩)) | (go_at_call 20; exact Calls.quiet_of_same ((hQ _).mono fun e w' h => ⟨h.1, h.2.symm⟩))))
        go_wp2_with fail
        go_roundw
        case rel => exact ⟨k + 1, by omega, by go_num, by (repeat (first | (with_reducible exact Below.refl _ _) | (with_reducible assumption) | (with_reducible refine Below.drew ?_) | (with_reducible refine below_drewN ?_ _) | ((with_reducible refine Below.setCell ?_ ?_ _); rotate_left; (focus (first | (simp; done) | (simp; omega) | omega))) | ((with_reducible refine Below.alloc ?_ ?_ _); rotate_left; (focus (first | (simp; done) | (simp; omega) | omega))) | ((with_reducible apply below_step1); (focus (with_reducible assumption))))), HB.out⟩
        case measure => simp [intOf]; omega
      · have hk4 : ¬ (k : Int) < 4 := by omega
        go_wp2_with (go_at_call 10; refine (awake_c _ (by exact hE.below hbel)).mono ?_; rintro e w10 ⟨rfl, hb10⟩)
        go_ret
        exact ⟨rfl, by (repeat (first | (with_reducible exact Below.refl _ _) | (with_reducible assumption) | (with_reducible refine Below.drew ?_) | (with_reducible refine below_drewN ?_ _) | ((with_reducible refine Below.setCell ?_ ?_ _); rotate_left; (focus (first | (simp; done) | (simp; omega) | omega))) | ((with_reducible refine Below.alloc ?_ ?_ _); rotate_left; (focus (first | (simp; done) | (simp; omega) | omega))) | ((with_reducible apply below_step1); (focus (with_reducible assumption)))))⟩
end Go.Proofs.YtmbegmhgiekofaaDoor
