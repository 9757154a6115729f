/- Contracts of the tape's Name and Pieces: strings of bounded length; only the tape's own block has changed. -/
import Derived.Test.YtmbegmhgiekofaaDoorDi
import Derived.Test.YtmbegmhgiekofaaDoorRowMore
import Derived.Laws.Concat
namespace Go.Proofs.YtmbegmhgiekofaaDoor
open Go.RowKit

/-- A string of at most m bytes is taken from the tape. -/
def StrPost (w : World) (b g m : Nat) (e : Ending) (w' : World) : Prop :=
  ∃ s : ByteArray, e = .returned (.string s) ∧ s.size ≤ m ∧ Tp w' b g ∧ w.grownBy w' (some b)
def isStrN (m : Nat) : Value → Bool | .string s => decide (s.size ≤ m) | _ => false
theorem strN_cell {w : World} {b m : Nat} {cs : Array Value} (hc : ∀ i, w.cell? ⟨b, i, none⟩ = cs[i]?) (h : cs.toList.all (isStrN m) = true) (r : Nat) (hr : r < cs.size) : ∃ s : ByteArray, w.cell? ⟨b, r, none⟩ = some (.string s) ∧ s.size ≤ m := by
  have h1 := List.all_eq_true.1 h cs[r] (by simp)
  have h2 : cs[r]? = some cs[r] := Array.getElem?_eq_getElem hr
  cases hv : cs[r] with
  | string s =>
    rw [hv] at h1
    exact ⟨s, (hc r).trans (by rw [h2, hv]), by simpa [isStrN] using h1⟩
  | _ => rw [hv] at h1; cases h1
set_option maxRecDepth 100000 in
set_option maxHeartbeats 1000000 in
theorem tname (b g : Nat) (w : World) (h : Tp w b g) : Calls Tryd.prog 18 #[.pointer (some ⟨b, 0, none⟩)] w (StrPost w b g 5) := by
  have hlt := h.lt
  have hltg := h.ltg
  go_enter Tryd.func18, Tryd.ntmps18
  go_wp2_with fail
  refine (next_c b g 10 _ (by omega) (h.alloc _)).mono ?_
  rintro e w1 ⟨r, rfl, hr, ht1, hg1, hz1⟩
  have q1 := (hg1.block w.heap.size (by simp) (by simp; omega)).trans (heap_alloc_new _ _)
  obtain ⟨c1, f1⟩ := blk_rules q1
  obtain ⟨s, cs1, hs⟩ := strN_cell (m := 5) c1 rfl r (show r < 10 by omega)
  have hr0 : (0 : Int) ≤ (r : Int) := by omega
  have hr10 : (r : Int) < 10 := by omega
  clear c1 f1 q1 hr hz1
  go_wp2_with fail
  go_ret
  exact ⟨s, rfl, hs, ht1, grown_alloc hg1⟩
theorem fmtV_le (v : V) : (⟨(fmtV v).toArray⟩ : ByteArray).size ≤ 100 := by
  obtain ⟨b1, b2, b3⟩ := cl_bounds v
  rw [Lib.size_eq]
  show (fmtV v).length ≤ 100
  unfold fmtV
  split
  · have := Lib.itoa_length_le v.cl.n (by omega) (by omega)
    omega
  · split
    · have := flat_len v.cl.s.data.toList
      rw [← Lib.size_eq] at this
      unfold quoteL
      simp only [List.length_append, List.length_cons, List.length_nil]
      omega
    · simp
/-- After some pieces. -/
def PcRel (w : World) (b g n : Nat) (v5 v6 : Value) (wr : World) : Prop :=
  ∃ (j : Nat) (s : ByteArray), v6 = .int .i64 (j : Int) ∧ v5 = .string s ∧ s.size + 100 * j ≤ 100 * n ∧ Tp wr b g ∧ w.grownBy wr (some b)
theorem PcRel.next {w wr w2 : World} {b g n j : Nat} {s s2 : ByteArray} {v5 v6 : Value} (h1 : 0 < j) (h2 : s.size + 100 * j ≤ 100 * n) (h3 : s2.size ≤ 100) (e5 : v5 = .string (s ++ s2)) (e6 : v6 = .int .i64 ((j : Int) - 1)) (ht : Tp w2 b g) (hg : w.grownBy wr (some b)) (hg2 : wr.grownBy w2 (some b)) : PcRel w b g n v5 v6 w2 :=
  ⟨j - 1, s ++ s2, by rw [e6]; congr 1; omega, e5, by rw [ByteArray.size_append]; omega, ht, grown_trans hg hg2⟩
set_option maxRecDepth 100000 in
set_option maxHeartbeats 4000000 in
theorem tpieces (b g n : Nat) (w : World) (hn : n ≤ 1000) (h : Tp w b g) : Calls Tryd.prog 13 #[.pointer (some ⟨b, 0, none⟩), .int .i64 (n : Int)] w (StrPost w b g (100 * n)) := by
  go_enter Tryd.func13, Tryd.ntmps13
  go_wp2_with fail
  refine (next_c b g _ _ (by omega) h).mono ?_
  rintro e w1 ⟨r, rfl, hr, ht1, hg1, hz1⟩
  clear hz1
  go_wp2_with fail
  go_loopw [5, 6] (fun v5 v6 wr => PcRel w b g n v5 v6 wr) (fun _ v6 _ => (intOf v6).toNat)
  case atStart => exact ⟨r, ⟨#[]⟩, rfl, rfl, by show 0 + 100 * r ≤ _; omega, ht1, hg1⟩
  case round =>
    obtain ⟨j, s, rfl, rfl, hsz, htr, hgr⟩ := hrel
    have hlt := htr.lt
    have hltg := htr.ltg
    by_cases hj : 0 < j
    · have hj1 : (0 : Int) < (j : Int) := by omega
      have hjw : IntKind.i64.wrap ((j : Int) - 1) = (j : Int) - 1 := IntWalk.i64_in _ (by omega)
      go_wp2_with fail
      refine (next_c b g 6 _ (by omega) htr).mono ?_
      rintro e w2 ⟨d, rfl, hd, ht2, hg2, hz2⟩
      have hlt2 := ht2.lt
      have hltg2 := ht2.ltg
      clear hz2
      by_cases d0 : d = 0 ∨ d = 1
      · have key : ∀ s2 : ByteArray, s2.size ≤ 5 → ∀ w, (Op.stringOp .add s s2).run Tryd.prog w = .ok (.string (s ++ s2)) w := fun s2 h2 w => run_string_add_sum w _ _ (by omega)
        have KEY := Lib.hid key
        clear key
        rcases d0 with rfl | rfl
        · go_wp2_with fail
          refine (tname b g _ ht2).mono ?_
          rintro e w3 ⟨s2, rfl, hs2, ht3, hg3⟩
          have ha := KEY.out s2 hs2
          go_wp2_with fail
          go_roundw
          case rel => exact PcRel.next hj hsz (by omega) rfl rfl ht3 hgr (grown_trans hg2 hg3)
          case measure => simp [intOf]; omega
        · go_wp2_with fail
          refine (tname b g _ ht2).mono ?_
          rintro e w3 ⟨s2, rfl, hs2, ht3, hg3⟩
          have ha := KEY.out s2 hs2
          go_wp2_with fail
          go_roundw
          case rel => exact PcRel.next hj hsz (by omega) rfl rfl ht3 hgr (grown_trans hg2 hg3)
          case measure => simp [intOf]; omega
      have t0 : ((d : Int) == 0) = false := by rw [beq_eq_false_iff_ne]; omega
      have t1 : ((d : Int) == 1) = false := by rw [beq_eq_false_iff_ne]; omega
      by_cases d2 : d = 2
      · have t2 : ((d : Int) == 2) = true := by rw [beq_iff_eq]; omega
        clear d0 d2
        go_wp2_with fail
        refine (tvalue b g _ ht2).mono ?_
        rintro e w3 ⟨v, rfl, hv, ht3, hg3⟩
        have hF := fun w => rformat v w
        have hfs := fmtV_le v
        generalize (⟨(fmtV v).toArray⟩ : ByteArray) = s2 at hF hfs
        have ha : ∀ w, (Op.stringOp .add s s2).run Tryd.prog w = .ok (.string (s ++ s2)) w := fun w => run_string_add_sum w _ _ (by omega)
        go_wp2_with fail
        refine (hF _).mono ?_
        rintro e w4 ⟨rfl, hb4⟩
        go_wp2_with fail
        go_roundw
        case rel => exact PcRel.next hj hsz hfs rfl rfl (ht3.step hb4) hgr (only_step hb4 (grown_trans hg2 hg3))
        case measure => simp [intOf]; omega
      have t2 : ((d : Int) == 2) = false := by rw [beq_eq_false_iff_ne]; omega
      by_cases d3 : d = 3
      · have t3 : ((d : Int) == 3) = true := by rw [beq_iff_eq]; omega
        clear d0 d2 d3
        go_wp2_with fail
        refine (next_c b g 13 _ (by omega) (ht2.alloc _)).mono ?_
        rintro e w3 ⟨q, rfl, hq, ht3, hg3, hz3⟩
        have q1 := (hg3.block w2.heap.size (by simp) (by simp; omega)).trans (heap_alloc_new _ _)
        obtain ⟨c1, f1⟩ := blk_rules q1
        obtain ⟨s2, cs1, hs2⟩ := strN_cell (m := 16) c1 rfl q (show q < 13 by omega)
        have hq0 : (0 : Int) ≤ (q : Int) := by omega
        have hq1 : (q : Int) < 13 := by omega
        have ha : ∀ w, (Op.stringOp .add s s2).run Tryd.prog w = .ok (.string (s ++ s2)) w := fun w => run_string_add_sum w _ _ (by omega)
        clear c1 f1 q1 hq hz3
        go_wp2_with fail
        go_roundw
        case rel => exact PcRel.next hj hsz (by omega) rfl rfl ht3 hgr (grown_trans hg2 (grown_alloc hg3))
        case measure => simp [intOf]; omega
      have t3 : ((d : Int) == 3) = false := by rw [beq_eq_false_iff_ne]; omega
      by_cases d4 : d = 4
      · have t4 : ((d : Int) == 4) = true := by rw [beq_iff_eq]; omega
        clear d0 d2 d3 d4
        go_wp2_with fail
        refine (next_c b g 7 _ (by omega) (ht2.alloc _)).mono ?_
        rintro e w3 ⟨q, rfl, hq, ht3, hg3, hz3⟩
        have q1 := (hg3.block w2.heap.size (by simp) (by simp; omega)).trans (heap_alloc_new _ _)
        obtain ⟨c1, f1⟩ := blk_rules q1
        obtain ⟨s2, cs1, hs2⟩ := strN_cell (m := 16) c1 rfl q (show q < 7 by omega)
        have hq0 : (0 : Int) ≤ (q : Int) := by omega
        have hq1 : (q : Int) < 7 := by omega
        have ha : ∀ w, (Op.stringOp .add s s2).run Tryd.prog w = .ok (.string (s ++ s2)) w := fun w => run_string_add_sum w _ _ (by omega)
        clear c1 f1 q1 hq hz3
        go_wp2_with fail
        go_roundw
        case rel => exact PcRel.next hj hsz (by omega) rfl rfl ht3 hgr (grown_trans hg2 (grown_alloc hg3))
        case measure => simp [intOf]; omega
      have t4 : ((d : Int) == 4) = false := by rw [beq_eq_false_iff_ne]; omega
      clear d0 d2 d3 d4
      go_wp2_with fail
      refine (next_c b g 10 _ (by omega) (ht2.alloc _)).mono ?_
      rintro e w3 ⟨q, rfl, hq, ht3, hg3, hz3⟩
      have q1 := (hg3.block w2.heap.size (by simp) (by simp; omega)).trans (heap_alloc_new _ _)
      obtain ⟨c1, f1⟩ := blk_rules q1
      obtain ⟨s2, cs1, hs2⟩ := strN_cell (m := 16) c1 rfl q (show q < 10 by omega)
      have hq0 : (0 : Int) ≤ (q : Int) := by omega
      have hq1 : (q : Int) < 10 := by omega
      have ha : ∀ w, (Op.stringOp .add s s2).run Tryd.prog w = .ok (.string (s ++ s2)) w := fun w => run_string_add_sum w _ _ (by omega)
      clear c1 f1 q1 hq hz3
      go_wp2_with fail
      go_roundw
      case rel => exact PcRel.next hj hsz (by omega) rfl rfl ht3 hgr (grown_trans hg2 (grown_alloc hg3))
      case measure => simp [intOf]; omega
    · have hj1 : ¬ (0 : Int) < (j : Int) := by omega
      go_wp2_with fail
      go_ret
      exact ⟨s, rfl, by omega, htr, hgr⟩
end Go.Proofs.YtmbegmhgiekofaaDoor
