/- Contract of the tape's SpoilExpr, the walk: rows of at most a thousand terms. -/
import Derived.Test.YtojcabnjodfdmaaDoorTm
namespace Go.Proofs.YtojcabnjodfdmaaDoor
open Go.RowKit

theorem five_lt {es : List T} {r : Nat} {t : T} (h : es[r]? = some t) : r < es.length := (List.getElem?_eq_some_iff.1 h).1
set_option maxRecDepth 100000 in
set_option maxHeartbeats 4000000 in
theorem tspoil (b g n c : Nat) (A : Option Addr) (es : List T) (w : World) (hn : n ≤ 1000) (hnil : A = none → c = 0) (h : Tp w b g) (hr : RowT w w.heap.size A n es) : Calls Tryd.prog 14 #[.pointer (some ⟨b, 0, none⟩), .slice A n c] w (SpPost w b g n) := by
  have hlt := h.lt
  have hltg := h.ltg
  have HNL := Lib.hid hnil
  have HLN := Lib.hid hr.len
  have hbg := h.ne
  clear hnil
  have hrd : Rd (w.alloc (.cells #[] 36)) w.heap.size A (es.flatMap T.cells) := (hr.alloc (Nat.le_refl _) _).rd
  go_enter Tryd.func14, Tryd.ntmps14
  go_upto_if 12 with (at_builtin; refine wpList_appAny (v := .slice (some ⟨w.heap.size, 0, none⟩) 0 0) rfl _ _ stT rfl rfl (own_new w #[] 36 5 0 (by decide) rfl) rfl (news := es.flatMap T.cells) (by rw [tcells_len, HLN.out]) hrd HNL.out (tcells_one _) (by omega) (by simp) ?_; intro v2 w2 own2 hg2 hat2; have hz2 := hg2.size; simp at hz2; obtain ⟨A2, c2, rfl, hc2, hc2'⟩ := own_slice own2)
  rw [Nat.zero_add] at own2 hc2
  rw [List.nil_append] at own2
  have hb2 : Below w.heap.size w w2 := ⟨hg2.os, hg2.tape, hg2.output, by omega, fun k hk => (hg2.block k (by simp; omega) (by simp [Value.ownBlock]; omega)).trans (Below.heap_alloc w _ k hk)⟩
  have ht2 : Tp w2 b g := h.step hb2
  have hg02 := grown_of_below hb2 (some b)
  have hnil2 : A2 = none → c2 = 0 := by
    rintro rfl
    rcases own2.2 with ⟨h1, _⟩ | ⟨g', cap, cur, h1, _⟩
    · injection h1
    · injection h1 with h1 _ _; cases h1
  clear hg2 hat2 h hr hrd
  by_cases hn0 : n = 0
  · subst hn0
    go_wp2_with fail
    go_ret
    exact ⟨A2, _, c2, es, rfl, by omega, hc2', by omega, hnil2, RowX.of_own own2 HLN.out hlt, ht2, hg02⟩
  have tn0 : ((n : Int) == 0) = false := by simp; omega
  clear hnil2
  obtain ⟨q, rfl, hq0, cur, hq1, hq2⟩ : ∃ q, A2 = some ⟨q, 0, none⟩ ∧ w.heap.size ≤ q ∧ ∃ cur : Array Value, w2.heap[q]? = some (.cells cur 36 (0, 0)) ∧ cur.toList.take (n * 5) = es.flatMap T.cells := by
    rcases own2.2 with ⟨_, h2⟩ | ⟨g', cap, cur, h1, h2, h3, _, _, _, h4⟩
    · exact absurd h2 hn0
    · injection h1 with h1 _ _; exact ⟨g', h1, h2, cur, h3, h4⟩
  have hql : q < w2.heap.size := by
    rcases Nat.lt_or_ge q w2.heap.size with hl | hl
    · exact hl
    · rw [Array.getElem?_eq_none hl] at hq1; cases hq1
  have hqb : q ≠ b := by omega
  have hqg : q ≠ g := by omega
  go_wp2_with fail
  refine (next_c b g n _ (by omega) ht2).mono ?_
  rintro e w3 ⟨r, rfl, hr3, ht3, hg3, hz3⟩
  have hz3' := hg3.size
  have hrn : r < n := by have : (r : Int) < max (n : Int) 1 := hr3; omega
  clear hz3 hr3
  go_wp2_with fail
  refine (next_c b g 7 _ (by omega) ht3).mono ?_
  rintro e w4 ⟨s, rfl, hs4, ht4, hg4, hz4⟩
  have hz4' := hg4.size
  have hs7 : s < 7 := by have : (s : Int) < max 7 1 := hs4; omega
  clear hz4 hs4
  have own4 := own_tape (own_tape own2 hg3 hlt) hg4 hlt
  have hqw4 := (hg4.block q (by omega) (by simp; omega)).trans ((hg3.block q hql (by simp; omega)).trans hq1)
  have g4 := grown_trans (grown_trans hg02 hg3) hg4
  obtain ⟨t, ht⟩ : ∃ t, es[r]? = some t := ⟨_, List.getElem?_eq_getElem (by rw [HLN.out]; exact hrn)⟩
  have HT := Lib.hid ht
  have hcur : ∀ (j : Nat) u, t.cells[j]? = some u → cur[r * 5 + j]? = some u := by
    intro j u hu
    have h1 := flatMap_at (cells := T.cells) 5 (fun _ => rfl) es r j t u ht hu
    rw [← hq2, List.getElem?_take] at h1
    split at h1
    · simpa using h1
    · cases h1
  have k0 : cur[r * 5]? = some (.int .i64 t.op) := hcur 0 _ rfl
  have k1 : cur[r * 5 + 1]? = some (.int .i64 t.v.k) := hcur 1 _ rfl
  have k2 : cur[r * 5 + 2]? = some (.int .i64 t.v.n) := hcur 2 _ rfl
  have k3 : cur[r * 5 + 3]? = some (.string t.v.s) := hcur 3 _ rfl
  have k4 : cur[r * 5 + 4]? = some (.int .i64 t.c) := hcur 4 _ rfl
  have r0 : (0 : Int) ≤ (r : Int) := by omega
  have r1 : (r : Int) < (n : Int) := by omega
  have r2 : (r : Int) ≤ 1000 := by omega
  clear ht hcur hq1 hq2 hg3 hg02 own2 ht2 ht3
  -- a row of which one cell after another is set
  have fin : ∀ (W : World) (es' : List T), RowT W W.heap.size (some ⟨q, 0, none⟩) n es' → Tp W b g → w.grownBy W (some b) → SpPost w b g n (.returned (.slice (some ⟨q, 0, none⟩) n c2)) W := by
    intro W es' h1 h2 h3
    exact ⟨_, n, c2, es', rfl, hc2, hc2', by omega, (fun h => by cases h), ⟨h1, .inr ⟨q, 0, rfl, hqb⟩⟩, h2, h3⟩
  have FIN := Lib.hid fin
  clear fin
  have hsz : ∀ (W : World) (p : Addr) (u : Value), (W.setCell p u).heap.size = W.heap.size := fun W p u => by simp [World.setCell]
  have HSZ := Lib.hid hsz
  clear hsz
  obtain rfl | rfl | rfl | rfl | rfl | rfl | rfl : s = 0 ∨ s = 1 ∨ s = 2 ∨ s = 3 ∨ s = 4 ∨ s = 5 ∨ s = 6 := by omega
  · go_wp2_with (go_at_call 31; refine (next_c b g 21 _ (by omega) ht4).mono ?_; rintro e w5 ⟨z, rfl, hz5, ht5, hg5, hzz⟩; have hz5' : (z : Int) < 21 := (by have : (z : Int) < max 21 1 := hz5; omega); have hz6 := hg5.size; clear hzz hz5; have hqw5 := (hg5.block q (by omega) (by simp; omega)).trans hqw4; obtain ⟨hcc, hff⟩ := blk_rules hqw5; have hzw : IntKind.i64.wrap ((z : Int) - 1) = (z : Int) - 1 := IntWalk.i64_in _ (by omega))
    go_ret
    have own5 := own_tape own4 hg5 hlt
    have row5 : RowT w5 w5.heap.size (some ⟨q, 0, none⟩) n es := RowOf.of_own own5 HLN.out
    have := RowT.set1 (t' := ⟨(z : Int) - 1, t.v, t.c⟩) row5 HT.out (show 0 < 5 by omega) rfl
    refine FIN.out _ _ (by rw [HSZ.out]; simpa using this) (by (repeat (first | (with_reducible assumption) | (with_reducible refine Tp.drew ?_) | (with_reducible refine Tp.drewN ?_ _) | (with_reducible refine Tp.alloc ?_ _) | ((with_reducible refine Tp.setFar ?_ ?_ ?_ _); rotate_left; (focus (first | (simp; done) | (simp; omega) | omega)); (focus (first | (simp; done) | (simp; omega) | omega))) | ((with_reducible apply Tp.step); (focus (with_reducible assumption)))))) (by (repeat (first | (with_reducible exact grown_refl _ _) | (with_reducible assumption) | (with_reducible refine only_drew ?_) | (with_reducible refine only_drewN ?_ _) | ((with_reducible refine only_setCell ?_ ?_ _); rotate_left; (focus (first | (simp; done) | (simp; omega) | omega | (right; simp; done) | (right; simp; omega) | (right; omega)))) | (with_reducible refine only_alloc ?_ _) | ((with_reducible apply only_step); (focus (with_reducible assumption))) | ((with_reducible apply only_trans); (focus (with_reducible assumption))))))
  · go_wp2_with (go_at_call 39; refine (tvalue b g _ ht4).mono ?_; rintro e w5 ⟨v, rfl, hv, ht5, hg5⟩; have hz6 := hg5.size; clear hv; have hqw5 := (hg5.block q (by omega) (by simp; omega)).trans hqw4; obtain ⟨hcc, hff⟩ := blk_rules hqw5)
    go_ret
    have own5 := own_tape own4 hg5 hlt
    have row5 : RowT w5 w5.heap.size (some ⟨q, 0, none⟩) n es := RowOf.of_own own5 HLN.out
    have s0 := RowT.set1 (t' := ⟨t.op, ⟨v.k, t.v.n, t.v.s⟩, t.c⟩) row5 (HT.out) (show 1 < 5 by omega) rfl
    have s1 := RowT.set1 (t' := ⟨t.op, ⟨v.k, v.n, t.v.s⟩, t.c⟩) s0 (List.getElem?_set_self (by skip; exact five_lt HT.out)) (show 2 < 5 by omega) rfl
    have s2 := RowT.set1 (t' := ⟨t.op, v, t.c⟩) s1 (List.getElem?_set_self (by rw [List.length_set]; exact five_lt HT.out)) (show 3 < 5 by omega) rfl
    refine FIN.out _ _ (by rw [HSZ.out, HSZ.out, HSZ.out]; simpa using s2) (by (repeat (first | (with_reducible assumption) | (with_reducible refine Tp.drew ?_) | (with_reducible refine Tp.drewN ?_ _) | (with_reducible refine Tp.alloc ?_ _) | ((with_reducible refine Tp.setFar ?_ ?_ ?_ _); rotate_left; (focus (first | (simp; done) | (simp; omega) | omega)); (focus (first | (simp; done) | (simp; omega) | omega))) | ((with_reducible apply Tp.step); (focus (with_reducible assumption)))))) (by (repeat (first | (with_reducible exact grown_refl _ _) | (with_reducible assumption) | (with_reducible refine only_drew ?_) | (with_reducible refine only_drewN ?_ _) | ((with_reducible refine only_setCell ?_ ?_ _); rotate_left; (focus (first | (simp; done) | (simp; omega) | omega | (right; simp; done) | (right; simp; omega) | (right; omega)))) | (with_reducible refine only_alloc ?_ _) | ((with_reducible apply only_step); (focus (with_reducible assumption))) | ((with_reducible apply only_trans); (focus (with_reducible assumption))))))
  · go_wp2_with (go_at_call 31; refine (next_c b g 5 _ (by omega) ht4).mono ?_; rintro e w5 ⟨z, rfl, hz5, ht5, hg5, hzz⟩; have hz5' : (z : Int) < 5 := (by have : (z : Int) < max 5 1 := hz5; omega); have hz6 := hg5.size; clear hzz hz5; have hqw5 := (hg5.block q (by omega) (by simp; omega)).trans hqw4; obtain ⟨hcc, hff⟩ := blk_rules hqw5; have hzw : IntKind.i64.wrap ((z : Int) - 1) = (z : Int) - 1 := IntWalk.i64_in _ (by omega))
    go_ret
    have own5 := own_tape own4 hg5 hlt
    have row5 : RowT w5 w5.heap.size (some ⟨q, 0, none⟩) n es := RowOf.of_own own5 HLN.out
    have s0 := RowT.set1 (t' := ⟨t.op, t.v, (z : Int) - 1⟩) row5 HT.out (show 4 < 5 by omega) rfl
    refine FIN.out _ _ (by rw [HSZ.out]; simpa using s0) (by (repeat (first | (with_reducible assumption) | (with_reducible refine Tp.drew ?_) | (with_reducible refine Tp.drewN ?_ _) | (with_reducible refine Tp.alloc ?_ _) | ((with_reducible refine Tp.setFar ?_ ?_ ?_ _); rotate_left; (focus (first | (simp; done) | (simp; omega) | omega)); (focus (first | (simp; done) | (simp; omega) | omega))) | ((with_reducible apply Tp.step); (focus (with_reducible assumption)))))) (by (repeat (first | (with_reducible exact grown_refl _ _) | (with_reducible assumption) | (with_reducible refine only_drew ?_) | (with_reducible refine only_drewN ?_ _) | ((with_reducible refine only_setCell ?_ ?_ _); rotate_left; (focus (first | (simp; done) | (simp; omega) | omega | (right; simp; done) | (right; simp; omega) | (right; omega)))) | (with_reducible refine only_alloc ?_ _) | ((with_reducible apply only_step); (focus (with_reducible assumption))) | ((with_reducible apply only_trans); (focus (with_reducible assumption))))))
  · have row4 : RowT w4 w4.heap.size (some ⟨q, 0, none⟩) n es := RowOf.of_own own4 HLN.out
    have h1c : (1 : Int) ≤ (c2 : Int) := by omega
    have h1n : (1 : Int) ≤ (n : Int) := by omega
    by_cases hc1 : c2 = 1
    · obtain rfl : n = 1 := by omega
      subst hc1
      go_wp2_with fail
      go_ret
      exact ⟨_, 0, _, [], rfl, by omega, by decide, by omega, (fun h => by cases h), ⟨RowOf.nil_, .inl rfl⟩, ht4, g4⟩
    · have hp := RowT.part (p := 1) (y := es.drop 1) (r := []) row4 (by simp)
      have hdl : (es.drop 1).length = n - 1 := by rw [List.length_drop, HLN.out]
      rw [hdl] at hp
      have HDL := Lib.hid hdl
      clear hdl
      go_wp2_with fail
      go_ret
      refine ⟨some ⟨q, 5, none⟩, n - 1, c2 - 1, es.drop 1, ?_, by omega, by unfold maxLen at *; omega, by omega, (fun h => by cases h), ⟨by simpa using hp, .inr ⟨q, 5, rfl, hqb⟩⟩, ht4, g4⟩
      simp
      try omega
  · obtain ⟨hcc, hff⟩ := blk_rules hqw4
    have HC2 := Lib.hid hc2'
    clear hc2'
    go_wp2_with (at_builtin; refine wpList_app (v := .slice (some ⟨q, 0, none⟩) n c2) rfl _ _ stT rfl rfl (own4) rfl (by simp) rfl (by simp [Value.oneCell']) (by omega) (by omega) ?_; intro v6 w6 own6 hg6 hat6; have hz6 := hg6.size; obtain ⟨A6, c6, rfl, hc6, hc6'⟩ := own_slice own6)
    go_ret
    have hnil6 : A6 = none → c6 = 0 := own_none own6
    refine ⟨A6, n + 1, c6, es ++ [t], rfl, hc6, hc6', by omega, hnil6, RowX.of_own (by rw [List.flatMap_append]; exact own6) (by simp [HLN.out]) hlt, Tp.own ht4 own4 hg6 hlt hltg, grown_own g4 own4 hg6⟩
  · obtain ⟨hcc, hff⟩ := blk_rules hqw4
    have row4 : RowT w4 w4.heap.size (some ⟨q, 0, none⟩) n es := RowOf.of_own own4 HLN.out
    go_wp2_with fail
    go_ret
    have s0 := RowT.set1 (t' := ⟨t.op, ⟨1, t.v.n, t.v.s⟩, t.c⟩) row4 (HT.out) (show 1 < 5 by omega) rfl
    have s1 := RowT.set1 (t' := ⟨t.op, ⟨1, 1, t.v.s⟩, t.c⟩) s0 (List.getElem?_set_self (by skip; exact five_lt HT.out)) (show 2 < 5 by omega) rfl
    have s2 := RowT.set1 (t' := ⟨t.op, ⟨1, 1, ⟨#[120]⟩⟩, t.c⟩) s1 (List.getElem?_set_self (by rw [List.length_set]; exact five_lt HT.out)) (show 3 < 5 by omega) rfl
    refine FIN.out _ _ (by rw [HSZ.out, HSZ.out, HSZ.out]; simpa using s2) (by (repeat (first | (with_reducible assumption) | (with_reducible refine Tp.drew ?_) | (with_reducible refine Tp.drewN ?_ _) | (with_reducible refine Tp.alloc ?_ _) | ((with_reducible refine Tp.setFar ?_ ?_ ?_ _); rotate_left; (focus (first | (simp; done) | (simp; omega) | omega)); (focus (first | (simp; done) | (simp; omega) | omega))) | ((with_reducible apply Tp.step); (focus (with_reducible assumption)))))) (by (repeat (first | (with_reducible exact grown_refl _ _) | (with_reducible assumption) | (with_reducible refine only_drew ?_) | (with_reducible refine only_drewN ?_ _) | ((with_reducible refine only_setCell ?_ ?_ _); rotate_left; (focus (first | (simp; done) | (simp; omega) | omega | (right; simp; done) | (right; simp; omega) | (right; omega)))) | (with_reducible refine only_alloc ?_ _) | ((with_reducible apply only_step); (focus (with_reducible assumption))) | ((with_reducible apply only_trans); (focus (with_reducible assumption))))))
  · go_wp2_with (go_at_call 31; refine (next_c b g 16 _ (by omega) ht4).mono ?_; rintro e w5 ⟨z, rfl, hz5, ht5, hg5, hzz⟩; have hz5' : (z : Int) < 16 := (by have : (z : Int) < max 16 1 := hz5; omega); have hz6 := hg5.size; clear hzz hz5; have hqw5 := (hg5.block q (by omega) (by simp; omega)).trans hqw4; obtain ⟨hcc, hff⟩ := blk_rules hqw5; have hzw : IntKind.i64.wrap (3 + (z : Int)) = 3 + (z : Int) := IntWalk.i64_in _ (by omega))
    go_ret
    have own5 := own_tape own4 hg5 hlt
    have row5 : RowT w5 w5.heap.size (some ⟨q, 0, none⟩) n es := RowOf.of_own own5 HLN.out
    have s0 := RowT.set1 (t' := ⟨3 + (z : Int), t.v, t.c⟩) row5 (HT.out) (show 0 < 5 by omega) rfl
    have s1 := RowT.set1 (t' := ⟨3 + (z : Int), ⟨0, t.v.n, t.v.s⟩, t.c⟩) s0 (List.getElem?_set_self (by skip; exact five_lt HT.out)) (show 1 < 5 by omega) rfl
    have s2 := RowT.set1 (t' := ⟨3 + (z : Int), ⟨0, 0, t.v.s⟩, t.c⟩) s1 (List.getElem?_set_self (by rw [List.length_set]; exact five_lt HT.out)) (show 2 < 5 by omega) rfl
    have s3 := RowT.set1 (t' := ⟨3 + (z : Int), ⟨0, 0, ⟨#[]⟩⟩, t.c⟩) s2 (List.getElem?_set_self (by rw [List.length_set, List.length_set]; exact five_lt HT.out)) (show 3 < 5 by omega) rfl
    have s4 := RowT.set1 (t' := ⟨3 + (z : Int), ⟨0, 0, ⟨#[]⟩⟩, 0⟩) s3 (List.getElem?_set_self (by rw [List.length_set, List.length_set, List.length_set]; exact five_lt HT.out)) (show 4 < 5 by omega) rfl
    refine FIN.out _ _ (by rw [HSZ.out, HSZ.out, HSZ.out, HSZ.out, HSZ.out]; simpa using s4) (by (repeat (first | (with_reducible assumption) | (with_reducible refine Tp.drew ?_) | (with_reducible refine Tp.drewN ?_ _) | (with_reducible refine Tp.alloc ?_ _) | ((with_reducible refine Tp.setFar ?_ ?_ ?_ _); rotate_left; (focus (first | (simp; done) | (simp; omega) | omega)); (focus (first | (simp; done) | (simp; omega) | omega))) | ((with_reducible apply Tp.step); (focus (with_reducible assumption)))))) (by (repeat (first | (with_reducible exact grown_refl _ _) | (with_reducible assumption) | (with_reducible refine only_drew ?_) | (with_reducible refine only_drewN ?_ _) | ((with_reducible refine only_setCell ?_ ?_ _); rotate_left; (focus (first | (simp; done) | (simp; omega) | omega | (right; simp; done) | (right; simp; omega) | (right; omega)))) | (with_reducible refine only_alloc ?_ _) | ((with_reducible apply only_step); (focus (with_reducible assumption))) | ((with_reducible apply only_trans); (focus (with_reducible assumption))))))
end Go.Proofs.YtojcabnjodfdmaaDoor
