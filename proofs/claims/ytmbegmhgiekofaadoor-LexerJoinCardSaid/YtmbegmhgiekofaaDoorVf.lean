/- Contracts of plain, quote and the reference's Quote: strings of at most a million bytes. -/
import Derived.Test.YtmbegmhgiekofaaDoorQSpec
import Derived.Test.YtmbegmhgiekofaaDoorVa
import Derived.Deep.RegionLaw
namespace Go.Proofs.YtmbegmhgiekofaaDoor
open Go.RowKit

set_option maxHeartbeats 400000 in
theorem plain_c (c : UInt8) (w : World) : Calls Tryd.prog 80 #[.int .u8 c.toNat] w fun e w' => e = .returned (.bool (plainB c)) ∧ w = w' := by
  go_enter Tryd.func80, Tryd.ntmps80
  go_wp2
  all_goals go_ret
  all_goals refine ⟨ret_bool ?_, rfl⟩
  · have h1 : (c.toNat : Int) = 34 := by assumption
    have h2 : c.toNat = 34 := by omega
    simp [plainB, h2]
  · have h1 : 32 ≤ (c.toNat : Int) := by assumption
    have h2 : (c.toNat : Int) ≤ 126 := by assumption
    have h3 : 32 ≤ c.toNat := by omega
    have h4 : c.toNat ≤ 126 := by omega
    have e1 : ((c.toNat : Int) != 34) = (c.toNat != 34) := by rw [Bool.eq_iff_iff]; simp; omega
    have e2 : ((c.toNat : Int) != 92) = (c.toNat != 92) := by rw [Bool.eq_iff_iff]; simp; omega
    show ((c.toNat : Int) != 34 && (c.toNat : Int) != 92) = plainB c
    rw [e1, e2]
    simp [plainB, h3, h4]
  · have h1 : 126 < (c.toNat : Int) := by assumption
    have h2 : ¬ c.toNat ≤ 126 := by omega
    simp [plainB, h2]
  · have h1 : (c.toNat : Int) < 32 := by assumption
    have h2 : ¬ 32 ≤ c.toNat := by omega
    simp [plainB, h2]

/-- What a round of quoting leaves: the row grows by the byte's text. -/
theorem quote_step {l : List UInt8} {k : Nat} {c : UInt8} (h : l[k]? = some c) : (34 :: (l.take (k + 1)).flatMap qbyte : List UInt8) = (34 :: (l.take k).flatMap qbyte) ++ qbyte c := by
  rw [List.take_add_one, h]; simp
theorem qcells (c : UInt8) (h : plainB c = false) : bcells (qbyte c) = [.int .u8 92, .int .u8 (hexd ((c.toNat : Int) / 16).toNat).toNat, .int .u8 (hexd ((c.toNat : Int) % 16).toNat).toNat] := by
  have h1 : ((c.toNat : Int) / 16).toNat = c.toNat / 16 := by omega
  have h2 : ((c.toNat : Int) % 16).toNat = c.toNat % 16 := by omega
  simp [qbyte, h, bcells, h1, h2]
theorem qcells1 (c : UInt8) (h : plainB c = true) : bcells (qbyte c) = [.int .u8 c.toNat] := by simp [qbyte, h, bcells]

set_option maxRecDepth 100000 in
set_option maxHeartbeats 1000000 in
theorem quote_c (s : ByteArray) (w : World) (hs : s.size ≤ 1000000) : Calls Tryd.prog 67 #[.string s] w fun e w' => e = .returned (.string ⟨(quoteL s.data.toList).toArray⟩) ∧ Below w.heap.size w w' := by
  have hcv := run_toBytes
  go_enter Tryd.func67, Tryd.ntmps67
  go_wp2
  clear hcv
  go_loopw [3, 10] (fun v i wr => ∃ k : Nat, k ≤ s.size ∧ i = .int .i64 k ∧ wr.ownsRow w.heap.size 5 1 v (34 :: (s.data.toList.take k).flatMap qbyte).length (bcells (34 :: (s.data.toList.take k).flatMap qbyte)) ∧ Below w.heap.size w wr ∧ Rd wr (w.heap.size + 2) (some ⟨w.heap.size + 1, 0, none⟩) (bcells s.data.toList) ∧ v.ownBlock ≠ some (w.heap.size + 1) ∧ w.heap.size + 2 ≤ wr.heap.size) (fun _ i _ => s.size - (intOf i).toNat)
  case atStart =>
    refine ⟨0, Nat.zero_le _, rfl, own_bytes (own_new w #[.int .u8 34] 5 1 1 (by decide) rfl) _ _, below_bytes ((Below.refl _ _).alloc (Nat.le_refl _) _) (by simp) _ _, ?_, by simp [Value.ownBlock], by rw [Lib.bytesWorld_size]; simp⟩
    have := rd_bytes (w.alloc (.cells #[.int .u8 34] 5)) 5 s
    simpa using this
  case round =>
    obtain ⟨k, hk, rfl, hown, hbel, hrd, hne, hz⟩ := hrel
    have hzz := hbel.size
    have hlen := flat_len (s.data.toList.take k)
    have hlt2 : (s.data.toList.take k).length ≤ k := List.length_take_le _ _
    have hL : (34 :: (s.data.toList.take k).flatMap qbyte).length ≤ 3000001 := by simp only [List.length_cons]; omega
    generalize hN : (34 :: (s.data.toList.take k).flatMap qbyte).length = N at hown hL
    have HN := Lib.hid hN
    clear hlen hlt2 hN
    by_cases hlt : k < s.size
    · have hl : k < s.data.toList.length := by rw [← Lib.size_eq]; exact hlt
      obtain ⟨c, hc⟩ : ∃ c, s.data.toList[k]? = some c := ⟨_, List.getElem?_eq_getElem hl⟩
      have hx := hrd.byte hc
      simp only [Nat.zero_add] at hx
      have HC := Lib.hid hc
      clear hc hl
      cases hp : plainB c
      · have HP := Lib.hid hp
        clear hp
        have i1 := run_hex ((c.toNat : Int) / 16) (hi4 c).1 (hi4 c).2
        have i2 := run_hex ((c.toNat : Int) % 16) (lo4 c).1 (lo4 c).2
        have a1 := and15 c
        go_wp2_with (go_at_call 80; refine (plain_c c _).mono ?_; rintro e w1 ⟨rfl, rfl⟩; rw [HP.out])
        go_region_law (first | (refine step_appD rfl _ _ stB rfl rfl hown rfl (by simp) rfl (by simp [Value.oneCell']) (by omega) (by omega) ?_; intro v' w2 hown' hg' hat'))
        all_goals have hbel' : Below w.heap.size w w2 := below_app hbel hown hg' (Nat.le_refl _) (by omega)
        all_goals have hrd' := hrd.grownAt hg' (by omega) (Ne.symm hne)
        all_goals have hz' := hg'.size
        all_goals go_wp2
        all_goals go_roundw
        all_goals (try (case measure => simp [intOf]; omega))
        all_goals refine ⟨k + 1, by omega, by go_num, ?_, hbel', hrd', ?_, by omega⟩
        all_goals (try (rw [quote_step HC.out, bcells_append, qcells c HP.out, List.length_append, HN.out, show (qbyte c).length = 3 from by simp [qbyte, HP.out]]; exact hown'))
        all_goals (rcases hat' with e | e <;> rw [e] <;> first | exact hne | (intro h; injection h with h; omega))
      · have HP := Lib.hid hp
        clear hp
        go_wp2_with (first
          | (go_at_call 80; refine (plain_c c _).mono ?_; rintro e w1 ⟨rfl, rfl⟩; rw [HP.out])
          | (at_builtin; refine wpList_app rfl _ _ stB rfl rfl hown rfl (by simp) rfl (by simp [Value.oneCell']) (by omega) (by omega) ?_; intro v' w2 hown' hg' hat'))
        all_goals have hbel' : Below w.heap.size w w2 := below_app hbel hown hg' (Nat.le_refl _) (by omega)
        all_goals have hrd' := hrd.grownAt hg' (by omega) (Ne.symm hne)
        all_goals have hz' := hg'.size
        all_goals go_wp2
        all_goals go_roundw
        all_goals (try (case measure => simp [intOf]; omega))
        all_goals refine ⟨k + 1, by omega, by go_num, ?_, hbel', hrd', ?_, by omega⟩
        all_goals (try (rw [quote_step HC.out, bcells_append, qcells1 c HP.out, List.length_append, HN.out, show (qbyte c).length = 1 from by simp [qbyte, HP.out]]; exact hown'))
        all_goals (rcases hat' with e | e <;> rw [e] <;> first | exact hne | (intro h; injection h with h; omega))
    · have hfin : s.data.toList.take k = s.data.toList := List.take_of_length_le (by rw [← Lib.size_eq]; omega)
      rw [hfin] at hown
      clear hfin
      go_wp2_with (at_builtin; refine wpList_app rfl _ _ stB rfl rfl hown rfl (by simp) rfl (by simp [Value.oneCell']) (by omega) (by omega) ?_; intro v' w2 hown' hg' hat'; have hts := run_toStr (l := quoteL s.data.toList) (by simpa [quoteL, bcells] using hown'))
      go_ret
      exact ⟨rfl, below_app hbel hown hg' (Nat.le_refl _) (by omega)⟩
end Go.Proofs.YtmbegmhgiekofaaDoor
