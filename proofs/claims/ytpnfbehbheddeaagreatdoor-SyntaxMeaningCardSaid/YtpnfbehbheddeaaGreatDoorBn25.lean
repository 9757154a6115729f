/- Contract of the tape's Formula: the text of a formula comes back, and only the tape's own block has changed. -/
import Derived.Test.YtpnfbehbheddeaaGreatDoorBn01
import Derived.Test.YtpnfbehbheddeaaGreatDoorBn02
import Derived.Test.YtpnfbehbheddeaaGreatDoorBn23
import Derived.Test.YtpnfbehbheddeaaGreatDoorBn24
namespace Go.Proofs.YtpnfbehbheddeaaGreatDoor
set_option maxRecDepth 100000
set_option maxHeartbeats 8000000
set_option linter.unusedVariables false
set_option linter.unusedSimpArgs false
open Go.RowKit
def FuPost (w : World) (b g d : Nat) (e : Ending) (w' : World) : Prop :=
  ∃ s : Bs, e = .returned (.string ⟨s.toArray⟩) ∧ Fml d s ∧ Tp w' b g ∧ w.grownBy w' (some b)
def strCs (L : List Bs) : Array Value := (L.map fun s => Value.string ⟨s.toArray⟩).toArray
theorem strCs_at {L : List Bs} {r : Nat} (h : r < L.length) : ∃ s ∈ L, (strCs L)[r]? = some (.string ⟨s.toArray⟩) :=
  ⟨L[r], List.getElem_mem _, by simp [strCs, h]⟩
theorem strCs_cell {w : World} {b : Nat} {cs : Array Value} (L : List Bs) (hL : cs = strCs L) (hc : ∀ i, w.cell? ⟨b, i, none⟩ = cs[i]?) (r : Nat) (hr : r < L.length) : ∃ s ∈ L, w.cell? ⟨b, r, none⟩ = some (.string ⟨s.toArray⟩) := by
  obtain ⟨s, h1, h2⟩ := strCs_at hr
  exact ⟨s, h1, (hc r).trans (hL ▸ h2)⟩
theorem add_ex (a b : Bs) (h : a.length + b.length ≤ 1000000) : ∃ u : Bs, u = a ++ b ∧ ∀ w, (Op.stringOp .add ⟨a.toArray⟩ ⟨b.toArray⟩).run Tryz.prog w = .ok (.string ⟨u.toArray⟩) w :=
  ⟨_, rfl, fun w => by rw [run_string_add_sum w _ _ (by rw [Lib.size_eq, Lib.size_eq]; simp; omega), mk_add2]⟩
theorem lenF_le : ∀ d, d < 4 → lenF d ≤ 1000 := by decide
theorem fnTs_len : ∀ g ∈ fnTs, g.length ≤ 20 := by decide
theorem opTs_len : ∀ g ∈ opTs, g.length ≤ 20 := by decide
theorem tformula (b g : Nat) : ∀ (d : Nat) (w : World), d ≤ 3 → Tp w b g → Calls Tryz.prog 7 #[.pointer (some ⟨b, 0, none⟩), .int .i64 (d : Int)] w (FuPost w b g d) := by
  intro d
  induction d with
  | zero =>
    intro w hd h
    have HT := Lib.hid h
    have hlt := h.lt
    have hltg := h.ltg
    go_enter Tryz.func7, Tryz.ntmps7
    go_wp2_with fail
    refine (next_c b g 12 _ (by omega) (HT.out.alloc _)).mono ?_
    rintro e w1 ⟨r, rfl, hr, ht1, hg1, hz1⟩
    have q0 := (hg1.block w.heap.size (by simp) (by simp; omega)).trans (heap_alloc_new _ _)
    obtain ⟨c0, f0⟩ := blk_rules q0
    obtain ⟨s, hs, cs⟩ := strCs_cell leafTs rfl c0 r (show r < 12 by omega)
    have HS := Lib.hid hs
    have hz : w.heap.size < w1.heap.size := by rw [hz1]; simp
    have hr0 : (0 : Int) ≤ (r : Int) := by omega
    have hr12 : (r : Int) < 12 := by omega
    clear c0 f0 q0 hr hz1 hs
    go_wp2_with fail
    go_ret
    exact ⟨s, rfl, .leaf HS.out, by (repeat (first | (with_reducible assumption) | (with_reducible refine Tp.drew ?_) | (with_reducible refine Tp.drewN ?_ _) | (with_reducible refine Tp.alloc ?_ _) | ((with_reducible refine Tp.setFar ?_ ?_ ?_ _); rotate_left; (focus (first | (simp; done) | (simp; omega) | omega)); (focus (first | (simp; done) | (simp; omega) | omega))) | ((with_reducible apply Tp.step); (focus (with_reducible assumption))))), by (repeat (first | (with_reducible exact grown_refl _ _) | (with_reducible assumption) | (with_reducible refine only_drew ?_) | (with_reducible refine only_drewN ?_ _) | ((with_reducible refine only_setCell ?_ ?_ _); rotate_left; (focus (first | (simp; done) | (simp; omega) | omega | (right; simp; done) | (right; simp; omega) | (right; omega)))) | (with_reducible refine only_alloc ?_ _) | ((with_reducible apply only_step); (focus (with_reducible assumption))) | ((with_reducible apply only_trans); (focus (with_reducible assumption)))))⟩
  | succ d ih =>
    intro w hd h
    have HT := Lib.hid h
    have hlt := h.lt
    have hltg := h.ltg
    have t0 : ((d : Int) + 1 == 0) = false := by simp; omega
    have hdw : IntKind.i64.wrap ((d : Int) + 1 - 1) = (d : Int) := by rw [show (d : Int) + 1 - 1 = d by omega]; exact IntWalk.i64_in _ (by omega)
    have hdw2 : IntKind.i64.wrap (d : Int) = (d : Int) := IntWalk.i64_in _ (by omega)
    have hlen : ∀ s, Fml d s → s.length ≤ 1000 := fun s hs => Nat.le_trans hs.short (lenF_le d (by omega))
    go_enter Tryz.func7, Tryz.ntmps7
    go_wp2_with fail
    refine (next_c b g 5 _ (by omega) h).mono ?_
    rintro e w1 ⟨r, rfl, hr, ht1, hg1, hz1⟩
    have hz1' := hg1.size
    clear hz1
    by_cases hr0 : r = 0
    · have tr : ((r : Int) == 0) = true := by simpa using hr0
      clear hr0
      go_wp2_with fail
      refine (next_c b g 12 _ (by omega) (ht1.alloc _)).mono ?_
      rintro e w2 ⟨r, rfl, hr, ht2, hg2, hz2⟩
      have q0 := (hg2.block w1.heap.size (by simp) (by simp; omega)).trans (heap_alloc_new _ _)
      obtain ⟨c0, f0⟩ := blk_rules q0
      obtain ⟨s, hs, cs⟩ := strCs_cell leafTs rfl c0 r (show r < 12 by omega)
      have HS := Lib.hid hs
      have hz : w1.heap.size < w2.heap.size := by rw [hz2]; simp
      have hr0 : (0 : Int) ≤ (r : Int) := by omega
      have hr12 : (r : Int) < 12 := by omega
      clear c0 f0 q0 hr hz2 hs
      go_wp2_with fail
      go_ret
      exact ⟨s, rfl, .leaf HS.out, by (repeat (first | (with_reducible assumption) | (with_reducible refine Tp.drew ?_) | (with_reducible refine Tp.drewN ?_ _) | (with_reducible refine Tp.alloc ?_ _) | ((with_reducible refine Tp.setFar ?_ ?_ ?_ _); rotate_left; (focus (first | (simp; done) | (simp; omega) | omega)); (focus (first | (simp; done) | (simp; omega) | omega))) | ((with_reducible apply Tp.step); (focus (with_reducible assumption))))), by (repeat (first | (with_reducible exact grown_refl _ _) | (with_reducible assumption) | (with_reducible refine only_drew ?_) | (with_reducible refine only_drewN ?_ _) | ((with_reducible refine only_setCell ?_ ?_ _); rotate_left; (focus (first | (simp; done) | (simp; omega) | omega | (right; simp; done) | (right; simp; omega) | (right; omega)))) | (with_reducible refine only_alloc ?_ _) | ((with_reducible apply only_step); (focus (with_reducible assumption))) | ((with_reducible apply only_trans); (focus (with_reducible assumption)))))⟩
    have tr : ((r : Int) == 0) = false := by simpa using hr0
    clear hr0 hr
    go_wp2_with (go_at_call 7; refine (ih _ (by omega) ht1).mono ?_; rintro e w2 ⟨s1, rfl, f1, ht2, hg2⟩)
    have hz2 := hg2.size
    have hg2' := grown_trans hg1 hg2
    have F1 := Lib.hid f1
    have L1 := hlen _ f1
    clear f1
    go_wp2_with fail
    refine (next_c b g 9 _ (by omega) ht2).mono ?_
    rintro e w3 ⟨r, rfl, hr, ht3, hg3, hz3⟩
    have hg3' := grown_trans hg2' hg3
    have hz3' := hg3.size
    clear hz3
    by_cases h0 : r = 0
    · subst h0
      obtain ⟨u1, hu1, a1⟩ := add_ex [40] s1 (by simp; omega)
      obtain ⟨u2, hu2, a2⟩ := add_ex u1 [41] (by simp [hu1]; omega)
      have HU := Lib.hid (show u2 = [40] ++ (s1 ++ [41]) by rw [hu2, hu1, List.append_assoc])
      clear hu1 hu2
      go_wp2_with fail
      go_ret
      exact ⟨u2, rfl, HU.out ▸ .par F1.out, ht3, hg3'⟩
    by_cases h1 : r = 1
    · subst h1
      obtain ⟨u1, hu1, a1⟩ := add_ex (wNot ++ [32]) s1 (by simp [wNot]; omega)
      have a1 : ∀ w, (Op.stringOp .add ⟨#[110, 111, 116, 32]⟩ ⟨s1.toArray⟩).run Tryz.prog w = .ok (.string ⟨u1.toArray⟩) w := a1
      have HU := Lib.hid hu1
      clear hu1
      go_wp2_with fail
      go_ret
      exact ⟨u1, rfl, HU.out ▸ .no F1.out, ht3, hg3'⟩
    by_cases h2 : r = 2
    · subst h2
      obtain ⟨u1, hu1, a1⟩ := add_ex [45] s1 (by simp; omega)
      have HU := Lib.hid hu1
      clear hu1
      go_wp2_with fail
      go_ret
      exact ⟨u1, rfl, HU.out ▸ .neg F1.out, ht3, hg3'⟩
    by_cases h3 : r = 3
    · subst h3
      obtain ⟨u1, hu1, a1⟩ := add_ex ([108, 101, 110, 103, 116, 104] ++ [40]) s1 (by simp; omega)
      obtain ⟨u2, hu2, a2⟩ := add_ex u1 [41] (by simp [hu1]; omega)
      have a1 : ∀ w, (Op.stringOp .add ⟨#[108, 101, 110, 103, 116, 104, 40]⟩ ⟨s1.toArray⟩).run Tryz.prog w = .ok (.string ⟨u1.toArray⟩) w := a1
      have HU := Lib.hid (show u2 = ([108, 101, 110, 103, 116, 104] ++ [40]) ++ (s1 ++ [41]) by rw [hu2, hu1, List.append_assoc])
      clear hu1 hu2
      go_wp2_with fail
      go_ret
      exact ⟨u2, rfl, HU.out ▸ .len F1.out, ht3, hg3'⟩
    have t0' : ((r : Int) == 0) = false := by simp; omega
    have t1' : ((r : Int) == 1) = false := by simp; omega
    have t2' : ((r : Int) == 2) = false := by simp; omega
    have t3' : ((r : Int) == 3) = false := by simp; omega
    by_cases h4 : r = 4
    · have t4' : ((r : Int) == 4) = true := by simp; omega
      clear h0 h1 h2 h3 h4 hr
      go_wp2_with fail
      (refine wp_region_T (fun _ => false) (fun _ => True) (by kernel_rfl) ?_ (fun hHeld => ?_); (focus (try dsimp only); (try trivial)))
      (refine TT.takeW 1 (v := ?_) rfl (by kernel_rfl) rfl (by kernel_rfl) (by kernel_rfl) (fun _ _ _ h => h) (by rfl) ?_ ?_; rotate_left; (focus (intro w; go_simp; (try with_reducible rfl))); (try simp only [Act.put, qqa, qqb, qqc]); refine TT.takeW 5 (v := ?_) rfl (by kernel_rfl) rfl (by kernel_rfl) (by kernel_rfl) (fun _ _ _ h => h) (by rfl) ?_ ?_; rotate_left; (focus (intro w; go_simp; (try with_reducible rfl))); (try simp only [Act.put, qqa, qqb, qqc]); refine TT.takeW 8 (v := ?_) rfl (by kernel_rfl) rfl (by kernel_rfl) (by kernel_rfl) (fun _ _ _ h => h) (by rfl) ?_ ?_; rotate_left; (focus (intro w; go_simp; (try with_reducible rfl))); (try simp only [Act.put, qqa, qqb, qqc]); refine TT.takeW 9 (v := ?_) rfl (by kernel_rfl) rfl (by kernel_rfl) (by kernel_rfl) (fun _ _ _ h => h) (by rfl) ?_ ?_; rotate_left; (focus (intro w; go_simp; (try with_reducible rfl))); (try simp only [Act.put, qqa, qqb, qqc]); refine TT.takeW 10 (v := ?_) rfl (by kernel_rfl) rfl (by kernel_rfl) (by kernel_rfl) (fun _ _ _ h => h) (by rfl) ?_ ?_; rotate_left; (focus (intro w; go_simp; (try with_reducible rfl))); (try simp only [Act.put, qqa, qqb, qqc]))
      (refine TT.twoE 0 2 (by kernel_rfl) rfl rfl (fun K hK => ?_) (fun K hK => ?_))
      · (go_simp; refine hK.out _ _ ?_; clear hK K; (try simp only [Act.put, qqa, qqb, qqc]))
        (refine TT.out 2 (by kernel_rfl) rfl rfl (fun K hK => ?_); (go_simp; go_at_call 16; refine (next_c b g 4 _ (by omega) (by (repeat (first | (with_reducible assumption) | (with_reducible refine Tp.drew ?_) | (with_reducible refine Tp.drewN ?_ _) | (with_reducible refine Tp.alloc ?_ _) | ((with_reducible refine Tp.setFar ?_ ?_ ?_ _); rotate_left; (focus (first | (simp; done) | (simp; omega) | omega)); (focus (first | (simp; done) | (simp; omega) | omega))) | ((with_reducible apply Tp.step); (focus (with_reducible assumption))))))).mono ?_; rintro e w4 ⟨r, rfl, hr, ht4, hg4, hz4⟩); refine hK.out _ _ ?_; clear hK K; (try simp only [Act.put, qqa, qqb, qqc]))
        have q0 := (hg4.block w3.heap.size (by first | (simp; done) | (simp; omega) | omega) (by first | (simp; done) | (simp; omega) | omega)).trans (heap_alloc_new _ _)
        obtain ⟨c0, f0⟩ := blk_rules q0
        have hg4' : w.grownBy w4 (some b) := by (repeat (first | (with_reducible exact grown_refl _ _) | (with_reducible assumption) | (with_reducible refine only_drew ?_) | (with_reducible refine only_drewN ?_ _) | ((with_reducible refine only_setCell ?_ ?_ _); rotate_left; (focus (first | (simp; done) | (simp; omega) | omega | (right; simp; done) | (right; simp; omega) | (right; omega)))) | (with_reducible refine only_alloc ?_ _) | ((with_reducible apply only_step); (focus (with_reducible assumption))) | ((with_reducible apply only_trans); (focus (with_reducible assumption)))))
        have hzz : w3.heap.size < w4.heap.size := by rw [hz4]; simp
        clear hz4
        obtain ⟨s, hs, cs⟩ := strCs_cell fnTs rfl c0 r (show r < 4 by omega)
        have hsl := fnTs_len s hs
        have HS := Lib.hid hs
        have hr0 : (0 : Int) ≤ (r : Int) := by omega
        have hr12 : (r : Int) < 4 := by omega
        obtain ⟨u1, hu1, a1⟩ := add_ex s s1 (by omega)
        obtain ⟨u2, hu2, a2⟩ := add_ex u1 ([44] ++ [32]) (by simp [hu1]; omega)
        have a2 : ∀ w, (Op.stringOp .add ⟨u1.toArray⟩ ⟨#[44, 32]⟩).run Tryz.prog w = .ok (.string ⟨u2.toArray⟩) w := a2
        have a3 := fun s2 (h : s2.length ≤ 1000) => add_ex u2 s2 (by rw [hu2, hu1]; simp; omega)
        have a4 := fun s2 (h : s2.length ≤ 1000) => add_ex (u2 ++ s2) [41] (by rw [hu2, hu1]; simp; omega)
        have HU := Lib.hid (show ∀ s2, u2 ++ s2 ++ [41] = s ++ ((s1 ++ (([44] ++ [32]) ++ s2)) ++ [41]) from fun s2 => by rw [hu2, hu1]; simp)
        clear hu1 hu2
        (refine TT.base (fun w' => w'.cell? ⟨w3.heap.size, r, none⟩ = some (.string ⟨s.toArray⟩)) ?_ (fun hHeld => ?_); (focus (try dsimp only); exact cs))
        (refine TT.take 3 (v := ?_) rfl (by kernel_rfl) (by kernel_rfl) (by kernel_rfl) (fun _ _ _ h => h) (by rfl) (by assumption) ?_ ?_; rotate_left; (focus (intro w hSw; (try dsimp only at hSw); go_simp; (try with_reducible rfl))); (try simp only [Act.put, qqa, qqb, qqc]); refine TT.take 4 (v := ?_) rfl (by kernel_rfl) (by kernel_rfl) (by kernel_rfl) (fun _ _ _ h => h) (by rfl) (by assumption) ?_ ?_; rotate_left; (focus (intro w hSw; (try dsimp only at hSw); go_simp; (try with_reducible rfl))); (try simp only [Act.put, qqa, qqb, qqc]); refine TT.take 6 (v := ?_) rfl (by kernel_rfl) (by kernel_rfl) (by kernel_rfl) (fun _ _ _ h => h) (by rfl) (by assumption) ?_ ?_; rotate_left; (focus (intro w hSw; (try dsimp only at hSw); go_simp; (try with_reducible rfl))); (try simp only [Act.put, qqa, qqb, qqc]); refine TT.take 7 (v := ?_) rfl (by kernel_rfl) (by kernel_rfl) (by kernel_rfl) (fun _ _ _ h => h) (by rfl) (by assumption) ?_ ?_; rotate_left; (focus (intro w hSw; (try dsimp only at hSw); go_simp; (try with_reducible rfl))); (try simp only [Act.put, qqa, qqb, qqc]))
        (refine TT.one 11 (by kernel_rfl) rfl rfl (fun K hK => ?_); ((go_simp; go_at_call 7; (try simp only [hdw, hdw2]); refine (ih _ (by omega) ht4).mono ?_; rintro e w5 ⟨s2, rfl, f2, ht5, hg5⟩; have L2 := hlen _ f2; have F2 := Lib.hid f2); have cs5 := (World.cell?_of_block (a := ⟨w3.heap.size, r, none⟩) (hg5.block w3.heap.size hzz (by first | (simp; done) | (simp; omega) | omega))).trans cs; obtain ⟨u3, hu3, a3⟩ := a3 s2 L2; obtain ⟨u4, hu4, a4⟩ := a4 s2 L2; rw [← hu3] at a4; have HU2 := Lib.hid (hu4.trans (HU.out s2)); clear hu4 hu3 f2); refine hK.out _ _ ?_ (fun hHeld => ?_); (focus (try dsimp only); (exact cs5)); clear hK K; (try simp only [Act.put, qqa, qqb, qqc]))
        (refine TT.take 12 (v := ?_) rfl (by kernel_rfl) (by kernel_rfl) (by kernel_rfl) (fun _ _ _ h => h) (by rfl) (by assumption) ?_ ?_; rotate_left; (focus (intro w hSw; (try dsimp only at hSw); go_simp; (try with_reducible rfl))); (try simp only [Act.put, qqa, qqb, qqc]); refine TT.take 13 (v := ?_) rfl (by kernel_rfl) (by kernel_rfl) (by kernel_rfl) (fun _ _ _ h => h) (by rfl) (by assumption) ?_ ?_; rotate_left; (focus (intro w hSw; (try dsimp only at hSw); go_simp; (try with_reducible rfl))); (try simp only [Act.put, qqa, qqb, qqc]))
        (refine TT.one 14 (by kernel_rfl) rfl rfl (fun K hK => ?_); go_simp; refine hK.out _ _ ?_ (fun hHeld => ?_); (focus (try dsimp only); (exact cs5)); clear hK K; (try simp only [Act.put, qqa, qqb, qqc]))
        (refine TT.done (by kernel_rfl) ?_)
        go_wp2_with fail
        go_ret
        exact ⟨u4, rfl, HU2.out ▸ .fn HS.out F1.out F2.out, ht5, grown_trans hg4' hg5⟩
      · ((go_simp; go_at_call 16; refine (next_c b g 4 _ (by omega) (by (repeat (first | (with_reducible assumption) | (with_reducible refine Tp.drew ?_) | (with_reducible refine Tp.drewN ?_ _) | (with_reducible refine Tp.alloc ?_ _) | ((with_reducible refine Tp.setFar ?_ ?_ ?_ _); rotate_left; (focus (first | (simp; done) | (simp; omega) | omega)); (focus (first | (simp; done) | (simp; omega) | omega))) | ((with_reducible apply Tp.step); (focus (with_reducible assumption))))))).mono ?_; rintro e w4 ⟨r, rfl, hr, ht4, hg4, hz4⟩); refine hK.out _ _ ?_; clear hK K; (try simp only [Act.put, qqa, qqb, qqc]))
        have hg4' : w.grownBy w4 (some b) := by (repeat (first | (with_reducible exact grown_refl _ _) | (with_reducible assumption) | (with_reducible refine only_drew ?_) | (with_reducible refine only_drewN ?_ _) | ((with_reducible refine only_setCell ?_ ?_ _); rotate_left; (focus (first | (simp; done) | (simp; omega) | omega | (right; simp; done) | (right; simp; omega) | (right; omega)))) | (with_reducible refine only_alloc ?_ _) | ((with_reducible apply only_step); (focus (with_reducible assumption))) | ((with_reducible apply only_trans); (focus (with_reducible assumption)))))
        have hz4l := hg4'.size
        clear hz4
        (refine TT.twoE 0 11 (by kernel_rfl) rfl rfl (fun K hK => ?_) (fun K hK => ?_))
        · (go_simp; refine hK.out _ _ ?_; clear hK K; (try simp only [Act.put, qqa, qqb, qqc]))
          obtain ⟨c0, f0⟩ := blk_rules (heap_alloc_new w4 _)
          obtain ⟨s, hs, cs⟩ := strCs_cell fnTs rfl c0 r (show r < 4 by omega)
          have hsl := fnTs_len s hs
          have HS := Lib.hid hs
          have hr0 : (0 : Int) ≤ (r : Int) := by omega
          have hr12 : (r : Int) < 4 := by omega
          obtain ⟨u1, hu1, a1⟩ := add_ex s s1 (by omega)
          obtain ⟨u2, hu2, a2⟩ := add_ex u1 ([44] ++ [32]) (by simp [hu1]; omega)
          have a2 : ∀ w, (Op.stringOp .add ⟨u1.toArray⟩ ⟨#[44, 32]⟩).run Tryz.prog w = .ok (.string ⟨u2.toArray⟩) w := a2
          have a3 := fun s2 (h : s2.length ≤ 1000) => add_ex u2 s2 (by rw [hu2, hu1]; simp; omega)
          have a4 := fun s2 (h : s2.length ≤ 1000) => add_ex (u2 ++ s2) [41] (by rw [hu2, hu1]; simp; omega)
          have HU := Lib.hid (show ∀ s2, u2 ++ s2 ++ [41] = s ++ ((s1 ++ (([44] ++ [32]) ++ s2)) ++ [41]) from fun s2 => by rw [hu2, hu1]; simp)
          clear hu1 hu2
          (refine TT.base (fun w' => w'.cell? ⟨w4.heap.size, r, none⟩ = some (.string ⟨s.toArray⟩)) ?_ (fun hHeld => ?_); (focus (try dsimp only); exact cs))
          (refine TT.take 3 (v := ?_) rfl (by kernel_rfl) (by kernel_rfl) (by kernel_rfl) (fun _ _ _ h => h) (by rfl) (by assumption) ?_ ?_; rotate_left; (focus (intro w hSw; (try dsimp only at hSw); go_simp; (try with_reducible rfl))); (try simp only [Act.put, qqa, qqb, qqc]); refine TT.take 4 (v := ?_) rfl (by kernel_rfl) (by kernel_rfl) (by kernel_rfl) (fun _ _ _ h => h) (by rfl) (by assumption) ?_ ?_; rotate_left; (focus (intro w hSw; (try dsimp only at hSw); go_simp; (try with_reducible rfl))); (try simp only [Act.put, qqa, qqb, qqc]); refine TT.take 6 (v := ?_) rfl (by kernel_rfl) (by kernel_rfl) (by kernel_rfl) (fun _ _ _ h => h) (by rfl) (by assumption) ?_ ?_; rotate_left; (focus (intro w hSw; (try dsimp only at hSw); go_simp; (try with_reducible rfl))); (try simp only [Act.put, qqa, qqb, qqc]); refine TT.take 7 (v := ?_) rfl (by kernel_rfl) (by kernel_rfl) (by kernel_rfl) (fun _ _ _ h => h) (by rfl) (by assumption) ?_ ?_; rotate_left; (focus (intro w hSw; (try dsimp only at hSw); go_simp; (try with_reducible rfl))); (try simp only [Act.put, qqa, qqb, qqc]))
          (refine TT.one 11 (by kernel_rfl) rfl rfl (fun K hK => ?_); ((go_simp; go_at_call 7; (try simp only [hdw, hdw2]); refine (ih _ (by omega) (by (repeat (first | (with_reducible assumption) | (with_reducible refine Tp.drew ?_) | (with_reducible refine Tp.drewN ?_ _) | (with_reducible refine Tp.alloc ?_ _) | ((with_reducible refine Tp.setFar ?_ ?_ ?_ _); rotate_left; (focus (first | (simp; done) | (simp; omega) | omega)); (focus (first | (simp; done) | (simp; omega) | omega))) | ((with_reducible apply Tp.step); (focus (with_reducible assumption))))))).mono ?_; rintro e w5 ⟨s2, rfl, f2, ht5, hg5⟩; have L2 := hlen _ f2; have F2 := Lib.hid f2); have cs5 := (World.cell?_of_block (a := ⟨w4.heap.size, r, none⟩) (hg5.block w4.heap.size (by first | (simp; done) | (simp; omega) | omega) (by first | (simp; done) | (simp; omega) | omega))).trans cs; obtain ⟨u3, hu3, a3⟩ := a3 s2 L2; obtain ⟨u4, hu4, a4⟩ := a4 s2 L2; rw [← hu3] at a4; have HU2 := Lib.hid (hu4.trans (HU.out s2)); clear hu4 hu3 f2); refine hK.out _ _ ?_ (fun hHeld => ?_); (focus (try dsimp only); (exact cs5)); clear hK K; (try simp only [Act.put, qqa, qqb, qqc]))
          (refine TT.take 12 (v := ?_) rfl (by kernel_rfl) (by kernel_rfl) (by kernel_rfl) (fun _ _ _ h => h) (by rfl) (by assumption) ?_ ?_; rotate_left; (focus (intro w hSw; (try dsimp only at hSw); go_simp; (try with_reducible rfl))); (try simp only [Act.put, qqa, qqb, qqc]); refine TT.take 13 (v := ?_) rfl (by kernel_rfl) (by kernel_rfl) (by kernel_rfl) (fun _ _ _ h => h) (by rfl) (by assumption) ?_ ?_; rotate_left; (focus (intro w hSw; (try dsimp only at hSw); go_simp; (try with_reducible rfl))); (try simp only [Act.put, qqa, qqb, qqc]))
          (refine TT.one 14 (by kernel_rfl) rfl rfl (fun K hK => ?_); go_simp; refine hK.out _ _ ?_ (fun hHeld => ?_); (focus (try dsimp only); (exact cs5)); clear hK K; (try simp only [Act.put, qqa, qqb, qqc]))
          (refine TT.done (by kernel_rfl) ?_)
          go_wp2_with fail
          go_ret
          exact ⟨u4, rfl, HU2.out ▸ .fn HS.out F1.out F2.out, by (repeat (first | (with_reducible assumption) | (with_reducible refine Tp.drew ?_) | (with_reducible refine Tp.drewN ?_ _) | (with_reducible refine Tp.alloc ?_ _) | ((with_reducible refine Tp.setFar ?_ ?_ ?_ _); rotate_left; (focus (first | (simp; done) | (simp; omega) | omega)); (focus (first | (simp; done) | (simp; omega) | omega))) | ((with_reducible apply Tp.step); (focus (with_reducible assumption))))), by (repeat (first | (with_reducible exact grown_refl _ _) | (with_reducible assumption) | (with_reducible refine only_drew ?_) | (with_reducible refine only_drewN ?_ _) | ((with_reducible refine only_setCell ?_ ?_ _); rotate_left; (focus (first | (simp; done) | (simp; omega) | omega | (right; simp; done) | (right; simp; omega) | (right; omega)))) | (with_reducible refine only_alloc ?_ _) | ((with_reducible apply only_step); (focus (with_reducible assumption))) | ((with_reducible apply only_trans); (focus (with_reducible assumption)))))⟩
        · ((go_simp; go_at_call 7; (try simp only [hdw, hdw2]); refine (ih _ (by omega) ht4).mono ?_; rintro e w5 ⟨s2, rfl, f2, ht5, hg5⟩; have L2 := hlen _ f2; have F2 := Lib.hid f2); refine hK.out _ _ ?_; clear hK K; (try simp only [Act.put, qqa, qqb, qqc]))
          (refine TT.out 0 (by kernel_rfl) rfl rfl (fun K hK => ?_); go_simp; refine hK.out _ _ ?_; clear hK K; (try simp only [Act.put, qqa, qqb, qqc]))
          obtain ⟨c0, f0⟩ := blk_rules (heap_alloc_new w5 _)
          have hg5' : w.grownBy w5 (some b) := grown_trans hg4' hg5
          obtain ⟨s, hs, cs⟩ := strCs_cell fnTs rfl c0 r (show r < 4 by omega)
          have hsl := fnTs_len s hs
          have HS := Lib.hid hs
          have hr0 : (0 : Int) ≤ (r : Int) := by omega
          have hr12 : (r : Int) < 4 := by omega
          obtain ⟨u1, hu1, a1⟩ := add_ex s s1 (by omega)
          obtain ⟨u2, hu2, a2⟩ := add_ex u1 ([44] ++ [32]) (by simp [hu1]; omega)
          have a2 : ∀ w, (Op.stringOp .add ⟨u1.toArray⟩ ⟨#[44, 32]⟩).run Tryz.prog w = .ok (.string ⟨u2.toArray⟩) w := a2
          have a3 := fun s2 (h : s2.length ≤ 1000) => add_ex u2 s2 (by rw [hu2, hu1]; simp; omega)
          have a4 := fun s2 (h : s2.length ≤ 1000) => add_ex (u2 ++ s2) [41] (by rw [hu2, hu1]; simp; omega)
          have HU := Lib.hid (show ∀ s2, u2 ++ s2 ++ [41] = s ++ ((s1 ++ (([44] ++ [32]) ++ s2)) ++ [41]) from fun s2 => by rw [hu2, hu1]; simp)
          clear hu1 hu2
          (refine TT.base (fun w' => w'.cell? ⟨w5.heap.size, r, none⟩ = some (.string ⟨s.toArray⟩)) ?_ (fun hHeld => ?_); (focus (try dsimp only); exact cs))
          (obtain ⟨u3, hu3, a3⟩ := a3 s2 L2; obtain ⟨u4, hu4, a4⟩ := a4 s2 L2; rw [← hu3] at a4; have HU2 := Lib.hid (hu4.trans (HU.out s2)); clear hu4 hu3 f2)
          (refine TT.take 3 (v := ?_) rfl (by kernel_rfl) (by kernel_rfl) (by kernel_rfl) (fun _ _ _ h => h) (by rfl) (by assumption) ?_ ?_; rotate_left; (focus (intro w hSw; (try dsimp only at hSw); go_simp; (try with_reducible rfl))); (try simp only [Act.put, qqa, qqb, qqc]); refine TT.take 4 (v := ?_) rfl (by kernel_rfl) (by kernel_rfl) (by kernel_rfl) (fun _ _ _ h => h) (by rfl) (by assumption) ?_ ?_; rotate_left; (focus (intro w hSw; (try dsimp only at hSw); go_simp; (try with_reducible rfl))); (try simp only [Act.put, qqa, qqb, qqc]); refine TT.take 6 (v := ?_) rfl (by kernel_rfl) (by kernel_rfl) (by kernel_rfl) (fun _ _ _ h => h) (by rfl) (by assumption) ?_ ?_; rotate_left; (focus (intro w hSw; (try dsimp only at hSw); go_simp; (try with_reducible rfl))); (try simp only [Act.put, qqa, qqb, qqc]); refine TT.take 7 (v := ?_) rfl (by kernel_rfl) (by kernel_rfl) (by kernel_rfl) (fun _ _ _ h => h) (by rfl) (by assumption) ?_ ?_; rotate_left; (focus (intro w hSw; (try dsimp only at hSw); go_simp; (try with_reducible rfl))); (try simp only [Act.put, qqa, qqb, qqc]))
          (refine TT.take 12 (v := ?_) rfl (by kernel_rfl) (by kernel_rfl) (by kernel_rfl) (fun _ _ _ h => h) (by rfl) (by assumption) ?_ ?_; rotate_left; (focus (intro w hSw; (try dsimp only at hSw); go_simp; (try with_reducible rfl))); (try simp only [Act.put, qqa, qqb, qqc]); refine TT.take 13 (v := ?_) rfl (by kernel_rfl) (by kernel_rfl) (by kernel_rfl) (fun _ _ _ h => h) (by rfl) (by assumption) ?_ ?_; rotate_left; (focus (intro w hSw; (try dsimp only at hSw); go_simp; (try with_reducible rfl))); (try simp only [Act.put, qqa, qqb, qqc]))
          (refine TT.one 14 (by kernel_rfl) rfl rfl (fun K hK => ?_); go_simp; refine hK.out _ _ ?_ (fun hHeld => ?_); (focus (try dsimp only); (exact cs)); clear hK K; (try simp only [Act.put, qqa, qqb, qqc]))
          (refine TT.done (by kernel_rfl) ?_)
          go_wp2_with fail
          go_ret
          exact ⟨u4, rfl, HU2.out ▸ .fn HS.out F1.out F2.out, by (repeat (first | (with_reducible assumption) | (with_reducible refine Tp.drew ?_) | (with_reducible refine Tp.drewN ?_ _) | (with_reducible refine Tp.alloc ?_ _) | ((with_reducible refine Tp.setFar ?_ ?_ ?_ _); rotate_left; (focus (first | (simp; done) | (simp; omega) | omega)); (focus (first | (simp; done) | (simp; omega) | omega))) | ((with_reducible apply Tp.step); (focus (with_reducible assumption))))), by (repeat (first | (with_reducible exact grown_refl _ _) | (with_reducible assumption) | (with_reducible refine only_drew ?_) | (with_reducible refine only_drewN ?_ _) | ((with_reducible refine only_setCell ?_ ?_ _); rotate_left; (focus (first | (simp; done) | (simp; omega) | omega | (right; simp; done) | (right; simp; omega) | (right; omega)))) | (with_reducible refine only_alloc ?_ _) | ((with_reducible apply only_step); (focus (with_reducible assumption))) | ((with_reducible apply only_trans); (focus (with_reducible assumption)))))⟩
    · have t4' : ((r : Int) == 4) = false := by simp; omega
      clear h0 h1 h2 h3 h4 hr
      go_wp2_with fail
      (refine wp_region_T (fun _ => false) (fun _ => True) (by kernel_rfl) ?_ (fun hHeld => ?_); (focus (try dsimp only); (try trivial)))
      (refine TT.takeW 0 (v := ?_) rfl (by kernel_rfl) rfl (by kernel_rfl) (by kernel_rfl) (fun _ _ _ h => h) (by rfl) ?_ ?_; rotate_left; (focus (intro w; go_simp; (try with_reducible rfl))); (try simp only [Act.put, qqa, qqb, qqc]); refine TT.takeW 2 (v := ?_) rfl (by kernel_rfl) rfl (by kernel_rfl) (by kernel_rfl) (fun _ _ _ h => h) (by rfl) ?_ ?_; rotate_left; (focus (intro w; go_simp; (try with_reducible rfl))); (try simp only [Act.put, qqa, qqb, qqc]); refine TT.takeW 7 (v := ?_) rfl (by kernel_rfl) rfl (by kernel_rfl) (by kernel_rfl) (fun _ _ _ h => h) (by rfl) ?_ ?_; rotate_left; (focus (intro w; go_simp; (try with_reducible rfl))); (try simp only [Act.put, qqa, qqb, qqc]); refine TT.takeW 8 (v := ?_) rfl (by kernel_rfl) rfl (by kernel_rfl) (by kernel_rfl) (fun _ _ _ h => h) (by rfl) ?_ ?_; rotate_left; (focus (intro w; go_simp; (try with_reducible rfl))); (try simp only [Act.put, qqa, qqb, qqc]); refine TT.takeW 9 (v := ?_) rfl (by kernel_rfl) rfl (by kernel_rfl) (by kernel_rfl) (fun _ _ _ h => h) (by rfl) ?_ ?_; rotate_left; (focus (intro w; go_simp; (try with_reducible rfl))); (try simp only [Act.put, qqa, qqb, qqc]))
      (refine TT.twoE 1 3 (by kernel_rfl) rfl rfl (fun K hK => ?_) (fun K hK => ?_))
      · (go_simp; refine hK.out _ _ ?_; clear hK K; (try simp only [Act.put, qqa, qqb, qqc]))
        (refine TT.out 3 (by kernel_rfl) rfl rfl (fun K hK => ?_); (go_simp; go_at_call 16; refine (next_c b g 10 _ (by omega) (by (repeat (first | (with_reducible assumption) | (with_reducible refine Tp.drew ?_) | (with_reducible refine Tp.drewN ?_ _) | (with_reducible refine Tp.alloc ?_ _) | ((with_reducible refine Tp.setFar ?_ ?_ ?_ _); rotate_left; (focus (first | (simp; done) | (simp; omega) | omega)); (focus (first | (simp; done) | (simp; omega) | omega))) | ((with_reducible apply Tp.step); (focus (with_reducible assumption))))))).mono ?_; rintro e w4 ⟨r, rfl, hr, ht4, hg4, hz4⟩); refine hK.out _ _ ?_; clear hK K; (try simp only [Act.put, qqa, qqb, qqc]))
        have q0 := (hg4.block w3.heap.size (by first | (simp; done) | (simp; omega) | omega) (by first | (simp; done) | (simp; omega) | omega)).trans (heap_alloc_new _ _)
        obtain ⟨c0, f0⟩ := blk_rules q0
        have hg4' : w.grownBy w4 (some b) := by (repeat (first | (with_reducible exact grown_refl _ _) | (with_reducible assumption) | (with_reducible refine only_drew ?_) | (with_reducible refine only_drewN ?_ _) | ((with_reducible refine only_setCell ?_ ?_ _); rotate_left; (focus (first | (simp; done) | (simp; omega) | omega | (right; simp; done) | (right; simp; omega) | (right; omega)))) | (with_reducible refine only_alloc ?_ _) | ((with_reducible apply only_step); (focus (with_reducible assumption))) | ((with_reducible apply only_trans); (focus (with_reducible assumption)))))
        have hzz : w3.heap.size < w4.heap.size := by rw [hz4]; simp
        clear hz4
        obtain ⟨s, hs, cs⟩ := strCs_cell opTs rfl c0 r (show r < 10 by omega)
        have hsl := opTs_len s hs
        have HS := Lib.hid hs
        have hr0 : (0 : Int) ≤ (r : Int) := by omega
        have hr12 : (r : Int) < 10 := by omega
        obtain ⟨u1, hu1, a1⟩ := add_ex s1 s (by omega)
        have a3 := fun s2 (h : s2.length ≤ 1000) => add_ex u1 s2 (by rw [hu1]; simp; omega)
        have HU := Lib.hid (show ∀ s2, u1 ++ s2 = s1 ++ (s ++ s2) from fun s2 => by rw [hu1]; simp)
        clear hu1
        (refine TT.base (fun w' => w'.cell? ⟨w3.heap.size, r, none⟩ = some (.string ⟨s.toArray⟩)) ?_ (fun hHeld => ?_); (focus (try dsimp only); exact cs))
        (refine TT.take 4 (v := ?_) rfl (by kernel_rfl) (by kernel_rfl) (by kernel_rfl) (fun _ _ _ h => h) (by rfl) (by assumption) ?_ ?_; rotate_left; (focus (intro w hSw; (try dsimp only at hSw); go_simp; (try with_reducible rfl))); (try simp only [Act.put, qqa, qqb, qqc]); refine TT.take 5 (v := ?_) rfl (by kernel_rfl) (by kernel_rfl) (by kernel_rfl) (fun _ _ _ h => h) (by rfl) (by assumption) ?_ ?_; rotate_left; (focus (intro w hSw; (try dsimp only at hSw); go_simp; (try with_reducible rfl))); (try simp only [Act.put, qqa, qqb, qqc]); refine TT.take 6 (v := ?_) rfl (by kernel_rfl) (by kernel_rfl) (by kernel_rfl) (fun _ _ _ h => h) (by rfl) (by assumption) ?_ ?_; rotate_left; (focus (intro w hSw; (try dsimp only at hSw); go_simp; (try with_reducible rfl))); (try simp only [Act.put, qqa, qqb, qqc]))
        (refine TT.one 10 (by kernel_rfl) rfl rfl (fun K hK => ?_); ((go_simp; go_at_call 7; (try simp only [hdw, hdw2]); refine (ih _ (by omega) ht4).mono ?_; rintro e w5 ⟨s2, rfl, f2, ht5, hg5⟩; have L2 := hlen _ f2; have F2 := Lib.hid f2); have cs5 := (World.cell?_of_block (a := ⟨w3.heap.size, r, none⟩) (hg5.block w3.heap.size hzz (by first | (simp; done) | (simp; omega) | omega))).trans cs; obtain ⟨u3, hu3, a3⟩ := a3 s2 L2; have HU2 := Lib.hid (hu3.trans (HU.out s2)); clear hu3 f2); refine hK.out _ _ ?_ (fun hHeld => ?_); (focus (try dsimp only); (exact cs5)); clear hK K; (try simp only [Act.put, qqa, qqb, qqc]))
        (refine TT.take 11 (v := ?_) rfl (by kernel_rfl) (by kernel_rfl) (by kernel_rfl) (fun _ _ _ h => h) (by rfl) (by assumption) ?_ ?_; rotate_left; (focus (intro w hSw; (try dsimp only at hSw); go_simp; (try with_reducible rfl))); (try simp only [Act.put, qqa, qqb, qqc]))
        (refine TT.one 12 (by kernel_rfl) rfl rfl (fun K hK => ?_); go_simp; refine hK.out _ _ ?_ (fun hHeld => ?_); (focus (try dsimp only); (exact cs5)); clear hK K; (try simp only [Act.put, qqa, qqb, qqc]))
        (refine TT.done (by kernel_rfl) ?_)
        go_wp2_with fail
        go_ret
        exact ⟨u3, rfl, HU2.out ▸ .bin HS.out F1.out F2.out, ht5, grown_trans hg4' hg5⟩
      · ((go_simp; go_at_call 16; refine (next_c b g 10 _ (by omega) (by (repeat (first | (with_reducible assumption) | (with_reducible refine Tp.drew ?_) | (with_reducible refine Tp.drewN ?_ _) | (with_reducible refine Tp.alloc ?_ _) | ((with_reducible refine Tp.setFar ?_ ?_ ?_ _); rotate_left; (focus (first | (simp; done) | (simp; omega) | omega)); (focus (first | (simp; done) | (simp; omega) | omega))) | ((with_reducible apply Tp.step); (focus (with_reducible assumption))))))).mono ?_; rintro e w4 ⟨r, rfl, hr, ht4, hg4, hz4⟩); refine hK.out _ _ ?_; clear hK K; (try simp only [Act.put, qqa, qqb, qqc]))
        have hg4' : w.grownBy w4 (some b) := by (repeat (first | (with_reducible exact grown_refl _ _) | (with_reducible assumption) | (with_reducible refine only_drew ?_) | (with_reducible refine only_drewN ?_ _) | ((with_reducible refine only_setCell ?_ ?_ _); rotate_left; (focus (first | (simp; done) | (simp; omega) | omega | (right; simp; done) | (right; simp; omega) | (right; omega)))) | (with_reducible refine only_alloc ?_ _) | ((with_reducible apply only_step); (focus (with_reducible assumption))) | ((with_reducible apply only_trans); (focus (with_reducible assumption)))))
        have hz4l := hg4'.size
        clear hz4
        (refine TT.twoE 1 10 (by kernel_rfl) rfl rfl (fun K hK => ?_) (fun K hK => ?_))
        · (go_simp; refine hK.out _ _ ?_; clear hK K; (try simp only [Act.put, qqa, qqb, qqc]))
          obtain ⟨c0, f0⟩ := blk_rules (heap_alloc_new w4 _)
          obtain ⟨s, hs, cs⟩ := strCs_cell opTs rfl c0 r (show r < 10 by omega)
          have hsl := opTs_len s hs
          have HS := Lib.hid hs
          have hr0 : (0 : Int) ≤ (r : Int) := by omega
          have hr12 : (r : Int) < 10 := by omega
          obtain ⟨u1, hu1, a1⟩ := add_ex s1 s (by omega)
          have a3 := fun s2 (h : s2.length ≤ 1000) => add_ex u1 s2 (by rw [hu1]; simp; omega)
          have HU := Lib.hid (show ∀ s2, u1 ++ s2 = s1 ++ (s ++ s2) from fun s2 => by rw [hu1]; simp)
          clear hu1
          (refine TT.base (fun w' => w'.cell? ⟨w4.heap.size, r, none⟩ = some (.string ⟨s.toArray⟩)) ?_ (fun hHeld => ?_); (focus (try dsimp only); exact cs))
          (refine TT.take 4 (v := ?_) rfl (by kernel_rfl) (by kernel_rfl) (by kernel_rfl) (fun _ _ _ h => h) (by rfl) (by assumption) ?_ ?_; rotate_left; (focus (intro w hSw; (try dsimp only at hSw); go_simp; (try with_reducible rfl))); (try simp only [Act.put, qqa, qqb, qqc]); refine TT.take 5 (v := ?_) rfl (by kernel_rfl) (by kernel_rfl) (by kernel_rfl) (fun _ _ _ h => h) (by rfl) (by assumption) ?_ ?_; rotate_left; (focus (intro w hSw; (try dsimp only at hSw); go_simp; (try with_reducible rfl))); (try simp only [Act.put, qqa, qqb, qqc]); refine TT.take 6 (v := ?_) rfl (by kernel_rfl) (by kernel_rfl) (by kernel_rfl) (fun _ _ _ h => h) (by rfl) (by assumption) ?_ ?_; rotate_left; (focus (intro w hSw; (try dsimp only at hSw); go_simp; (try with_reducible rfl))); (try simp only [Act.put, qqa, qqb, qqc]))
          (refine TT.one 10 (by kernel_rfl) rfl rfl (fun K hK => ?_); ((go_simp; go_at_call 7; (try simp only [hdw, hdw2]); refine (ih _ (by omega) (by (repeat (first | (with_reducible assumption) | (with_reducible refine Tp.drew ?_) | (with_reducible refine Tp.drewN ?_ _) | (with_reducible refine Tp.alloc ?_ _) | ((with_reducible refine Tp.setFar ?_ ?_ ?_ _); rotate_left; (focus (first | (simp; done) | (simp; omega) | omega)); (focus (first | (simp; done) | (simp; omega) | omega))) | ((with_reducible apply Tp.step); (focus (with_reducible assumption))))))).mono ?_; rintro e w5 ⟨s2, rfl, f2, ht5, hg5⟩; have L2 := hlen _ f2; have F2 := Lib.hid f2); have cs5 := (World.cell?_of_block (a := ⟨w4.heap.size, r, none⟩) (hg5.block w4.heap.size (by first | (simp; done) | (simp; omega) | omega) (by first | (simp; done) | (simp; omega) | omega))).trans cs; obtain ⟨u3, hu3, a3⟩ := a3 s2 L2; have HU2 := Lib.hid (hu3.trans (HU.out s2)); clear hu3 f2); refine hK.out _ _ ?_ (fun hHeld => ?_); (focus (try dsimp only); (exact cs5)); clear hK K; (try simp only [Act.put, qqa, qqb, qqc]))
          (refine TT.take 11 (v := ?_) rfl (by kernel_rfl) (by kernel_rfl) (by kernel_rfl) (fun _ _ _ h => h) (by rfl) (by assumption) ?_ ?_; rotate_left; (focus (intro w hSw; (try dsimp only at hSw); go_simp; (try with_reducible rfl))); (try simp only [Act.put, qqa, qqb, qqc]))
          (refine TT.one 12 (by kernel_rfl) rfl rfl (fun K hK => ?_); go_simp; refine hK.out _ _ ?_ (fun hHeld => ?_); (focus (try dsimp only); (exact cs5)); clear hK K; (try simp only [Act.put, qqa, qqb, qqc]))
          (refine TT.done (by kernel_rfl) ?_)
          go_wp2_with fail
          go_ret
          exact ⟨u3, rfl, HU2.out ▸ .bin HS.out F1.out F2.out, by (repeat (first | (with_reducible assumption) | (with_reducible refine Tp.drew ?_) | (with_reducible refine Tp.drewN ?_ _) | (with_reducible refine Tp.alloc ?_ _) | ((with_reducible refine Tp.setFar ?_ ?_ ?_ _); rotate_left; (focus (first | (simp; done) | (simp; omega) | omega)); (focus (first | (simp; done) | (simp; omega) | omega))) | ((with_reducible apply Tp.step); (focus (with_reducible assumption))))), by (repeat (first | (with_reducible exact grown_refl _ _) | (with_reducible assumption) | (with_reducible refine only_drew ?_) | (with_reducible refine only_drewN ?_ _) | ((with_reducible refine only_setCell ?_ ?_ _); rotate_left; (focus (first | (simp; done) | (simp; omega) | omega | (right; simp; done) | (right; simp; omega) | (right; omega)))) | (with_reducible refine only_alloc ?_ _) | ((with_reducible apply only_step); (focus (with_reducible assumption))) | ((with_reducible apply only_trans); (focus (with_reducible assumption)))))⟩
        · ((go_simp; go_at_call 7; (try simp only [hdw, hdw2]); refine (ih _ (by omega) ht4).mono ?_; rintro e w5 ⟨s2, rfl, f2, ht5, hg5⟩; have L2 := hlen _ f2; have F2 := Lib.hid f2); refine hK.out _ _ ?_; clear hK K; (try simp only [Act.put, qqa, qqb, qqc]))
          (refine TT.out 1 (by kernel_rfl) rfl rfl (fun K hK => ?_); go_simp; refine hK.out _ _ ?_; clear hK K; (try simp only [Act.put, qqa, qqb, qqc]))
          obtain ⟨c0, f0⟩ := blk_rules (heap_alloc_new w5 _)
          have hg5' : w.grownBy w5 (some b) := grown_trans hg4' hg5
          obtain ⟨s, hs, cs⟩ := strCs_cell opTs rfl c0 r (show r < 10 by omega)
          have hsl := opTs_len s hs
          have HS := Lib.hid hs
          have hr0 : (0 : Int) ≤ (r : Int) := by omega
          have hr12 : (r : Int) < 10 := by omega
          obtain ⟨u1, hu1, a1⟩ := add_ex s1 s (by omega)
          have a3 := fun s2 (h : s2.length ≤ 1000) => add_ex u1 s2 (by rw [hu1]; simp; omega)
          have HU := Lib.hid (show ∀ s2, u1 ++ s2 = s1 ++ (s ++ s2) from fun s2 => by rw [hu1]; simp)
          clear hu1
          (refine TT.base (fun w' => w'.cell? ⟨w5.heap.size, r, none⟩ = some (.string ⟨s.toArray⟩)) ?_ (fun hHeld => ?_); (focus (try dsimp only); exact cs))
          (obtain ⟨u3, hu3, a3⟩ := a3 s2 L2; have HU2 := Lib.hid (hu3.trans (HU.out s2)); clear hu3 f2)
          (refine TT.take 4 (v := ?_) rfl (by kernel_rfl) (by kernel_rfl) (by kernel_rfl) (fun _ _ _ h => h) (by rfl) (by assumption) ?_ ?_; rotate_left; (focus (intro w hSw; (try dsimp only at hSw); go_simp; (try with_reducible rfl))); (try simp only [Act.put, qqa, qqb, qqc]); refine TT.take 5 (v := ?_) rfl (by kernel_rfl) (by kernel_rfl) (by kernel_rfl) (fun _ _ _ h => h) (by rfl) (by assumption) ?_ ?_; rotate_left; (focus (intro w hSw; (try dsimp only at hSw); go_simp; (try with_reducible rfl))); (try simp only [Act.put, qqa, qqb, qqc]); refine TT.take 6 (v := ?_) rfl (by kernel_rfl) (by kernel_rfl) (by kernel_rfl) (fun _ _ _ h => h) (by rfl) (by assumption) ?_ ?_; rotate_left; (focus (intro w hSw; (try dsimp only at hSw); go_simp; (try with_reducible rfl))); (try simp only [Act.put, qqa, qqb, qqc]))
          (refine TT.take 11 (v := ?_) rfl (by kernel_rfl) (by kernel_rfl) (by kernel_rfl) (fun _ _ _ h => h) (by rfl) (by assumption) ?_ ?_; rotate_left; (focus (intro w hSw; (try dsimp only at hSw); go_simp; (try with_reducible rfl))); (try simp only [Act.put, qqa, qqb, qqc]))
          (refine TT.one 12 (by kernel_rfl) rfl rfl (fun K hK => ?_); go_simp; refine hK.out _ _ ?_ (fun hHeld => ?_); (focus (try dsimp only); (exact cs)); clear hK K; (try simp only [Act.put, qqa, qqb, qqc]))
          (refine TT.done (by kernel_rfl) ?_)
          go_wp2_with fail
          go_ret
          exact ⟨u3, rfl, HU2.out ▸ .bin HS.out F1.out F2.out, by (repeat (first | (with_reducible assumption) | (with_reducible refine Tp.drew ?_) | (with_reducible refine Tp.drewN ?_ _) | (with_reducible refine Tp.alloc ?_ _) | ((with_reducible refine Tp.setFar ?_ ?_ ?_ _); rotate_left; (focus (first | (simp; done) | (simp; omega) | omega)); (focus (first | (simp; done) | (simp; omega) | omega))) | ((with_reducible apply Tp.step); (focus (with_reducible assumption))))), by (repeat (first | (with_reducible exact grown_refl _ _) | (with_reducible assumption) | (with_reducible refine only_drew ?_) | (with_reducible refine only_drewN ?_ _) | ((with_reducible refine only_setCell ?_ ?_ _); rotate_left; (focus (first | (simp; done) | (simp; omega) | omega | (right; simp; done) | (right; simp; omega) | (right; omega)))) | (with_reducible refine only_alloc ?_ _) | ((with_reducible apply only_step); (focus (with_reducible assumption))) | ((with_reducible apply only_trans); (focus (with_reducible assumption)))))⟩
end Go.Proofs.YtpnfbehbheddeaaGreatDoor
