/- Contract of the reference's Quote: strings of at most a million bytes. -/
import Derived.Test.YtmbegmhgiekofaaDoorVf
namespace Go.Proofs.YtmbegmhgiekofaaDoor
open Go.RowKit

/-- s[k]. -/
theorem run_idx {s : ByteArray} {k : Nat} {c : UInt8} (h : s.data.toList[k]? = some c) (w : World) : (Instr.index 9 (.string s) (.int .i64 (k : Int))).run Tryd.prog w = .ok (.int .u8 c.toNat) w := by
  have hk : k < s.data.toList.length := (List.getElem?_eq_some_iff.1 h).1
  have hk2 : k < s.size := by rw [Lib.size_eq]; exact hk
  have he := (List.getElem?_eq_some_iff.1 h).2
  simp [go_sem, hk2]
  show (s.data[k].toNat : Int) = c.toNat
  rw [← he]
  simp

set_option maxRecDepth 100000 in
set_option maxHeartbeats 1000000 in
theorem rquote_c (s : ByteArray) (w : World) (hs : s.size ≤ 1000000) : Calls Tryd.prog 39 #[.string s] w fun e w' => e = .returned (.string ⟨(quoteL s.data.toList).toArray⟩) ∧ Below w.heap.size w w' := by
  go_enter Tryd.func39, Tryd.ntmps39
  go_wp2
  go_loopw [3, 4] (fun v i wr => ∃ k : Nat, k ≤ s.size ∧ i = .int .i64 k ∧ wr.ownsRow w.heap.size 5 1 v (34 :: (s.data.toList.take k).flatMap qbyte).length (bcells (34 :: (s.data.toList.take k).flatMap qbyte)) ∧ Below w.heap.size w wr) (fun _ i _ => s.size - (intOf i).toNat)
  case atStart => exact ⟨0, Nat.zero_le _, rfl, own_new w #[.int .u8 34] 5 1 1 (by decide) rfl, (Below.refl _ _).alloc (Nat.le_refl _) _⟩
  case round =>
    obtain ⟨k, hk, rfl, hown, hbel⟩ := hrel
    have hzz := hbel.size
    have hlen := flat_len (s.data.toList.take k)
    have hlt2 : (s.data.toList.take k).length ≤ k := List.length_take_le _ _
    have hL : (34 :: (s.data.toList.take k).flatMap qbyte).length ≤ 3000001 := by simp only [List.length_cons]; omega
    generalize hN : (34 :: (s.data.toList.take k).flatMap qbyte).length = N at hown hL
    have HN := Lib.hid hN
    clear hlen hlt2 hN
    by_cases hlt : k < s.size
    · have hl : k < s.data.toList.length := by rw [← Lib.size_eq]; exact hlt
      obtain ⟨c, hc⟩ : ∃ c, s.data.toList[k]? = some c := ⟨_, List.getElem?_eq_getElem hl⟩
      have hix := run_idx hc
      have HC := Lib.hid hc
      clear hc hl
      cases hp : plainB c
      · have HP := Lib.hid hp
        clear hp
        have i1 := run_hex ((c.toNat : Int) / 16) (hi4 c).1 (hi4 c).2
        have i2 := run_hex ((c.toNat : Int) % 16) (lo4 c).1 (lo4 c).2
        have a1 := wrap16 c
        have a2 : (c.toNat : Int).tmod 16 = (c.toNat : Int) % 16 := Int.tmod_eq_emod_of_nonneg (by omega)
        have hd : c.toNat = 34 ∨ c.toNat = 92 ∨ c.toNat < 32 ∨ 126 < c.toNat := by
          have := HP.out
          simp only [plainB, Bool.and_eq_false_iff, decide_eq_false_iff_not, bne_eq_false_iff_eq] at this
          omega
        by_cases d1 : c.toNat = 34
        · have t1 : ((c.toNat : Int) == 34) = true := by simp; omega
          clear d1 hd
          go_wp2_with fail
          go_region_law (first | (refine step_appD rfl _ _ stB rfl rfl hown rfl (by simp) rfl (by simp [Value.oneCell']) (by omega) (by omega) ?_; intro v' w2 hown' hg' hat'))
          all_goals have hbel' : Below w.heap.size w w2 := below_app hbel hown hg' (Nat.le_refl _) (by omega)
          all_goals go_wp2
          all_goals go_roundw
          all_goals (try (case measure => simp [intOf]; omega))
          all_goals refine ⟨k + 1, by omega, by go_num, ?_, hbel'⟩
          all_goals (rw [quote_step HC.out, bcells_append, qcells c HP.out, List.length_append, HN.out, show (qbyte c).length = 3 from by simp [qbyte, HP.out]]; exact hown')
        by_cases d2 : c.toNat = 92
        · have t1 : ((c.toNat : Int) == 34) = false := by simp; omega
          have t2 : ((c.toNat : Int) == 92) = true := by simp; omega
          clear d1 d2 hd
          go_wp2_with fail
          go_region_law (first | (refine step_appD rfl _ _ stB rfl rfl hown rfl (by simp) rfl (by simp [Value.oneCell']) (by omega) (by omega) ?_; intro v' w2 hown' hg' hat'))
          all_goals have hbel' : Below w.heap.size w w2 := below_app hbel hown hg' (Nat.le_refl _) (by omega)
          all_goals go_wp2
          all_goals go_roundw
          all_goals (try (case measure => simp [intOf]; omega))
          all_goals refine ⟨k + 1, by omega, by go_num, ?_, hbel'⟩
          all_goals (rw [quote_step HC.out, bcells_append, qcells c HP.out, List.length_append, HN.out, show (qbyte c).length = 3 from by simp [qbyte, HP.out]]; exact hown')
        have t1 : ((c.toNat : Int) == 34) = false := by simp; omega
        have t2 : ((c.toNat : Int) == 92) = false := by simp; omega
        by_cases d3 : c.toNat < 32
        · have t3 : (c.toNat : Int) < 32 := by omega
          clear d1 d2 d3 hd
          go_wp2_with fail
          go_region_law (first | (refine step_appD rfl _ _ stB rfl rfl hown rfl (by simp) rfl (by simp [Value.oneCell']) (by omega) (by omega) ?_; intro v' w2 hown' hg' hat'))
          all_goals have hbel' : Below w.heap.size w w2 := below_app hbel hown hg' (Nat.le_refl _) (by omega)
          all_goals go_wp2
          all_goals go_roundw
          all_goals (try (case measure => simp [intOf]; omega))
          all_goals refine ⟨k + 1, by omega, by go_num, ?_, hbel'⟩
          all_goals (rw [quote_step HC.out, bcells_append, qcells c HP.out, List.length_append, HN.out, show (qbyte c).length = 3 from by simp [qbyte, HP.out]]; exact hown')
        · have t3 : ¬ (c.toNat : Int) < 32 := by omega
          have t4 : 126 < (c.toNat : Int) := by omega
          clear d1 d2 d3 hd
          go_wp2_with fail
          go_region_law (first | (refine step_appD rfl _ _ stB rfl rfl hown rfl (by simp) rfl (by simp [Value.oneCell']) (by omega) (by omega) ?_; intro v' w2 hown' hg' hat'))
          all_goals have hbel' : Below w.heap.size w w2 := below_app hbel hown hg' (Nat.le_refl _) (by omega)
          all_goals go_wp2
          all_goals go_roundw
          all_goals (try (case measure => simp [intOf]; omega))
          all_goals refine ⟨k + 1, by omega, by go_num, ?_, hbel'⟩
          all_goals (rw [quote_step HC.out, bcells_append, qcells c HP.out, List.length_append, HN.out, show (qbyte c).length = 3 from by simp [qbyte, HP.out]]; exact hown')
      · have HP := Lib.hid hp
        simp only [plainB, Bool.and_eq_true, decide_eq_true_eq, bne_iff_ne] at hp
        have t1 : ((c.toNat : Int) == 34) = false := by simp; omega
        have t2 : ((c.toNat : Int) == 92) = false := by simp; omega
        have t3 : ¬ (c.toNat : Int) < 32 := by omega
        have t4 : ¬ 126 < (c.toNat : Int) := by omega
        clear hp
        go_wp2_with (at_builtin; refine wpList_app rfl _ _ stB rfl rfl hown rfl (by simp) rfl (by simp [Value.oneCell']) (by omega) (by omega) ?_; intro v' w2 hown' hg' hat')
        go_roundw
        case measure => simp [intOf]; omega
        case rel =>
          refine ⟨k + 1, by omega, by go_num, ?_, below_app hbel hown hg' (Nat.le_refl _) (by omega)⟩
          rw [quote_step HC.out, bcells_append, qcells1 c HP.out, List.length_append, HN.out, show (qbyte c).length = 1 from by simp [qbyte, HP.out]]
          exact hown'
    · have hfin : s.data.toList.take k = s.data.toList := List.take_of_length_le (by rw [← Lib.size_eq]; omega)
      rw [hfin] at hown
      clear hfin
      go_wp2_with (at_builtin; refine wpList_app rfl _ _ stB rfl rfl hown rfl (by simp) rfl (by simp [Value.oneCell']) (by omega) (by omega) ?_; intro v' w2 hown' hg' hat'; have hts := run_toStr (l := quoteL s.data.toList) (by simpa [quoteL, bcells] using hown'))
      go_ret
      exact ⟨rfl, below_app hbel hown hg' (Nat.le_refl _) (by omega)⟩
end Go.Proofs.YtmbegmhgiekofaaDoor
