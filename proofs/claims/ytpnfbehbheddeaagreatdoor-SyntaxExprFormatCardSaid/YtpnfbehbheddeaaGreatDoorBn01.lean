/- Contracts of plain, quote and the reference's Quote: strings of at most a million bytes. Contract of the reference's Quote: strings of at most a million bytes. Contract of the reference's Digits: numbers whose absolute value is below 2^40. Contracts of Format, of the program and of the reference; the program's where the table of powers of ten is as it is laid. What the rows' lists of package-level variables give, and a world that meets them. No condition. How the arguments of the laws are opened: values and rows of values that came in. No condition. -/
import Derived.Test.YtpnfbehbheddeaaGreatDoorBn00
import Derived.Deep.RegionLaw
import Derived.Lib.ItoaNum
import Derived.Lib.ItoaLen
import Derived.Deep.RegionWith
import Derived.Test.YtpnfbehbheddeaaGreatDoorShelf
import Derived.Lib.LaidTab
import Derived.Lib.AppendIntMem
import Derived.Test.YtpnfbehbheddeaaGreatDoorCards
import Derived.Test.YtpnfbehbheddeaaGreatDoorTie
import Derived.WalkKit
import Derived.ProofKit
import Derived.OpenShut
import Derived.Deep.DeepHandedRow
import Derived.LaidSub
import Derived.Deep.Slices
import Derived.Deep.Fields
import Derived.ChangeSame
import Derived.Carry
namespace Go.Proofs.YtpnfbehbheddeaaGreatDoor
set_option maxRecDepth 100000
set_option maxHeartbeats 8000000
set_option linter.unusedVariables false
set_option linter.unusedSimpArgs false
open Go.RowKit
theorem plain_c (c : UInt8) (w : World) : Calls Tryz.prog 229 #[.int .u8 c.toNat] w fun e w' => e = .returned (.bool (plainB c)) ∧ w = w' := by
  go_enter Tryz.func229, Tryz.ntmps229
  go_wp2
  all_goals go_ret
  all_goals refine ⟨ret_bool ?_, rfl⟩
  · have h1 : (c.toNat : Int) = 34 := by assumption
    have h2 : c.toNat = 34 := by omega
    simp [plainB, h2]
  · have h1 : 32 ≤ (c.toNat : Int) := by assumption
    have h2 : (c.toNat : Int) ≤ 126 := by assumption
    have h3 : 32 ≤ c.toNat := by omega
    have h4 : c.toNat ≤ 126 := by omega
    have e1 : ((c.toNat : Int) != 34) = (c.toNat != 34) := by rw [Bool.eq_iff_iff]; simp; omega
    have e2 : ((c.toNat : Int) != 92) = (c.toNat != 92) := by rw [Bool.eq_iff_iff]; simp; omega
    show ((c.toNat : Int) != 34 && (c.toNat : Int) != 92) = plainB c
    rw [e1, e2]
    simp [plainB, h3, h4]
  · have h1 : 126 < (c.toNat : Int) := by assumption
    have h2 : ¬ c.toNat ≤ 126 := by omega
    simp [plainB, h2]
  · have h1 : (c.toNat : Int) < 32 := by assumption
    have h2 : ¬ 32 ≤ c.toNat := by omega
    simp [plainB, h2]
theorem quote_step {l : List UInt8} {k : Nat} {c : UInt8} (h : l[k]? = some c) : (34 :: (l.take (k + 1)).flatMap qbyte : List UInt8) = (34 :: (l.take k).flatMap qbyte) ++ qbyte c := by
  rw [List.take_add_one, h]; simp
theorem qcells (c : UInt8) (h : plainB c = false) : bcells (qbyte c) = [.int .u8 92, .int .u8 (hexd ((c.toNat : Int) / 16).toNat).toNat, .int .u8 (hexd ((c.toNat : Int) % 16).toNat).toNat] := by
  have h1 : ((c.toNat : Int) / 16).toNat = c.toNat / 16 := by omega
  have h2 : ((c.toNat : Int) % 16).toNat = c.toNat % 16 := by omega
  simp [qbyte, h, bcells, h1, h2]
theorem qcells1 (c : UInt8) (h : plainB c = true) : bcells (qbyte c) = [.int .u8 c.toNat] := by simp [qbyte, h, bcells]
theorem quote_c (s : ByteArray) (w : World) (hs : s.size ≤ 1000000) : Calls Tryz.prog 175 #[.string s] w fun e w' => e = .returned (.string ⟨(quoteL s.data.toList).toArray⟩) ∧ Below w.heap.size w w' := by
  have hcv := run_toBytes
  go_enter Tryz.func175, Tryz.ntmps175
  go_wp2
  clear hcv
  go_loopw [3, 10] (fun v i wr => ∃ k : Nat, k ≤ s.size ∧ i = .int .i64 k ∧ wr.ownsRow w.heap.size 5 1 v (34 :: (s.data.toList.take k).flatMap qbyte).length (bcells (34 :: (s.data.toList.take k).flatMap qbyte)) ∧ Below w.heap.size w wr ∧ Rd wr (w.heap.size + 2) (some ⟨w.heap.size + 1, 0, none⟩) (bcells s.data.toList) ∧ v.ownBlock ≠ some (w.heap.size + 1) ∧ w.heap.size + 2 ≤ wr.heap.size) (fun _ i _ => s.size - (intOf i).toNat)
  case atStart =>
    refine ⟨0, Nat.zero_le _, rfl, own_bytes (own_new w #[.int .u8 34] 5 1 1 (by decide) rfl) _ _, below_bytes ((Below.refl _ _).alloc (Nat.le_refl _) _) (by simp) _ _, ?_, by simp [Value.ownBlock], by rw [Lib.bytesWorld_size]; simp⟩
    have := rd_bytes (w.alloc (.cells #[.int .u8 34] 5)) 5 s
    simpa using this
  case round =>
    obtain ⟨k, hk, rfl, hown, hbel, hrd, hne, hz⟩ := hrel
    have hzz := hbel.size
    have hlen := flat_len (s.data.toList.take k)
    have hlt2 : (s.data.toList.take k).length ≤ k := List.length_take_le _ _
    have hL : (34 :: (s.data.toList.take k).flatMap qbyte).length ≤ 3000001 := by simp only [List.length_cons]; omega
    generalize hN : (34 :: (s.data.toList.take k).flatMap qbyte).length = N at hown hL
    have HN := Lib.hid hN
    clear hlen hlt2 hN
    by_cases hlt : k < s.size
    · have hl : k < s.data.toList.length := by rw [← Lib.size_eq]; exact hlt
      obtain ⟨c, hc⟩ : ∃ c, s.data.toList[k]? = some c := ⟨_, List.getElem?_eq_getElem hl⟩
      have hx := hrd.byte hc
      simp only [Nat.zero_add] at hx
      have HC := Lib.hid hc
      clear hc hl
      cases hp : plainB c
      · have HP := Lib.hid hp
        clear hp
        have i1 := run_hex ((c.toNat : Int) / 16) (hi4 c).1 (hi4 c).2
        have i2 := run_hex ((c.toNat : Int) % 16) (lo4 c).1 (lo4 c).2
        have a1 := and15 c
        go_wp2_with (go_at_call 229; refine (plain_c c _).mono ?_; rintro e w1 ⟨rfl, rfl⟩; rw [HP.out])
        go_region_law (first | (refine step_appD rfl _ _ stB rfl rfl hown rfl (by simp) rfl (by simp [Value.oneCell']) (by omega) (by omega) ?_; intro v' w2 hown' hg' hat'))
        all_goals have hbel' : Below w.heap.size w w2 := below_app hbel hown hg' (Nat.le_refl _) (by omega)
        all_goals have hrd' := hrd.grownAt hg' (by omega) (Ne.symm hne)
        all_goals have hz' := hg'.size
        all_goals go_wp2
        all_goals go_roundw
        all_goals (try (case measure => simp [intOf]; omega))
        all_goals refine ⟨k + 1, by omega, by go_num, ?_, hbel', hrd', ?_, by omega⟩
        all_goals (try (rw [quote_step HC.out, bcells_append, qcells c HP.out, List.length_append, HN.out, show (qbyte c).length = 3 from by simp [qbyte, HP.out]]; exact hown'))
        all_goals (rcases hat' with e | e <;> rw [e] <;> first | exact hne | (intro h; injection h with h; omega))
      · have HP := Lib.hid hp
        clear hp
        go_wp2_with (first
          | (go_at_call 229; refine (plain_c c _).mono ?_; rintro e w1 ⟨rfl, rfl⟩; rw [HP.out])
          | (at_builtin; refine wpList_app rfl _ _ stB rfl rfl hown rfl (by simp) rfl (by simp [Value.oneCell']) (by omega) (by omega) ?_; intro v' w2 hown' hg' hat'))
        all_goals have hbel' : Below w.heap.size w w2 := below_app hbel hown hg' (Nat.le_refl _) (by omega)
        all_goals have hrd' := hrd.grownAt hg' (by omega) (Ne.symm hne)
        all_goals have hz' := hg'.size
        all_goals go_wp2
        all_goals go_roundw
        all_goals (try (case measure => simp [intOf]; omega))
        all_goals refine ⟨k + 1, by omega, by go_num, ?_, hbel', hrd', ?_, by omega⟩
        all_goals (try (rw [quote_step HC.out, bcells_append, qcells1 c HP.out, List.length_append, HN.out, show (qbyte c).length = 1 from by simp [qbyte, HP.out]]; exact hown'))
        all_goals (rcases hat' with e | e <;> rw [e] <;> first | exact hne | (intro h; injection h with h; omega))
    · have hfin : s.data.toList.take k = s.data.toList := List.take_of_length_le (by rw [← Lib.size_eq]; omega)
      rw [hfin] at hown
      clear hfin
      go_wp2_with (at_builtin; refine wpList_app rfl _ _ stB rfl rfl hown rfl (by simp) rfl (by simp [Value.oneCell']) (by omega) (by omega) ?_; intro v' w2 hown' hg' hat'; have hts := run_toStr (l := quoteL s.data.toList) (by simpa [quoteL, bcells] using hown'))
      go_ret
      exact ⟨rfl, below_app hbel hown hg' (Nat.le_refl _) (by omega)⟩
theorem run_idx {s : ByteArray} {k : Nat} {c : UInt8} (h : s.data.toList[k]? = some c) (w : World) : (Instr.index 9 (.string s) (.int .i64 (k : Int))).run Tryz.prog w = .ok (.int .u8 c.toNat) w := by
  have hk : k < s.data.toList.length := (List.getElem?_eq_some_iff.1 h).1
  have hk2 : k < s.size := by rw [Lib.size_eq]; exact hk
  have he := (List.getElem?_eq_some_iff.1 h).2
  simp [go_sem, hk2]
  show (s.data[k].toNat : Int) = c.toNat
  rw [← he]
  simp
theorem rquote_c (s : ByteArray) (w : World) (hs : s.size ≤ 1000000) : Calls Tryz.prog 124 #[.string s] w fun e w' => e = .returned (.string ⟨(quoteL s.data.toList).toArray⟩) ∧ Below w.heap.size w w' := by
  go_enter Tryz.func124, Tryz.ntmps124
  go_wp2
  go_loopw [3, 4] (fun v i wr => ∃ k : Nat, k ≤ s.size ∧ i = .int .i64 k ∧ wr.ownsRow w.heap.size 5 1 v (34 :: (s.data.toList.take k).flatMap qbyte).length (bcells (34 :: (s.data.toList.take k).flatMap qbyte)) ∧ Below w.heap.size w wr) (fun _ i _ => s.size - (intOf i).toNat)
  case atStart => exact ⟨0, Nat.zero_le _, rfl, own_new w #[.int .u8 34] 5 1 1 (by decide) rfl, (Below.refl _ _).alloc (Nat.le_refl _) _⟩
  case round =>
    obtain ⟨k, hk, rfl, hown, hbel⟩ := hrel
    have hzz := hbel.size
    have hlen := flat_len (s.data.toList.take k)
    have hlt2 : (s.data.toList.take k).length ≤ k := List.length_take_le _ _
    have hL : (34 :: (s.data.toList.take k).flatMap qbyte).length ≤ 3000001 := by simp only [List.length_cons]; omega
    generalize hN : (34 :: (s.data.toList.take k).flatMap qbyte).length = N at hown hL
    have HN := Lib.hid hN
    clear hlen hlt2 hN
    by_cases hlt : k < s.size
    · have hl : k < s.data.toList.length := by rw [← Lib.size_eq]; exact hlt
      obtain ⟨c, hc⟩ : ∃ c, s.data.toList[k]? = some c := ⟨_, List.getElem?_eq_getElem hl⟩
      have hix := run_idx hc
      have HC := Lib.hid hc
      clear hc hl
      cases hp : plainB c
      · have HP := Lib.hid hp
        clear hp
        have i1 := run_hex ((c.toNat : Int) / 16) (hi4 c).1 (hi4 c).2
        have i2 := run_hex ((c.toNat : Int) % 16) (lo4 c).1 (lo4 c).2
        have a1 := wrap16 c
        have a2 : (c.toNat : Int).tmod 16 = (c.toNat : Int) % 16 := Int.tmod_eq_emod_of_nonneg (by omega)
        have hd : c.toNat = 34 ∨ c.toNat = 92 ∨ c.toNat < 32 ∨ 126 < c.toNat := by
          have := HP.out
          simp only [plainB, Bool.and_eq_false_iff, decide_eq_false_iff_not, bne_eq_false_iff_eq] at this
          omega
        by_cases d1 : c.toNat = 34
        · have t1 : ((c.toNat : Int) == 34) = true := by simp; omega
          clear d1 hd
          go_wp2_with fail
          go_region_law (first | (refine step_appD rfl _ _ stB rfl rfl hown rfl (by simp) rfl (by simp [Value.oneCell']) (by omega) (by omega) ?_; intro v' w2 hown' hg' hat'))
          all_goals have hbel' : Below w.heap.size w w2 := below_app hbel hown hg' (Nat.le_refl _) (by omega)
          all_goals go_wp2
          all_goals go_roundw
          all_goals (try (case measure => simp [intOf]; omega))
          all_goals refine ⟨k + 1, by omega, by go_num, ?_, hbel'⟩
          all_goals (rw [quote_step HC.out, bcells_append, qcells c HP.out, List.length_append, HN.out, show (qbyte c).length = 3 from by simp [qbyte, HP.out]]; exact hown')
        by_cases d2 : c.toNat = 92
        · have t1 : ((c.toNat : Int) == 34) = false := by simp; omega
          have t2 : ((c.toNat : Int) == 92) = true := by simp; omega
          clear d1 d2 hd
          go_wp2_with fail
          go_region_law (first | (refine step_appD rfl _ _ stB rfl rfl hown rfl (by simp) rfl (by simp [Value.oneCell']) (by omega) (by omega) ?_; intro v' w2 hown' hg' hat'))
          all_goals have hbel' : Below w.heap.size w w2 := below_app hbel hown hg' (Nat.le_refl _) (by omega)
          all_goals go_wp2
          all_goals go_roundw
          all_goals (try (case measure => simp [intOf]; omega))
          all_goals refine ⟨k + 1, by omega, by go_num, ?_, hbel'⟩
          all_goals (rw [quote_step HC.out, bcells_append, qcells c HP.out, List.length_append, HN.out, show (qbyte c).length = 3 from by simp [qbyte, HP.out]]; exact hown')
        have t1 : ((c.toNat : Int) == 34) = false := by simp; omega
        have t2 : ((c.toNat : Int) == 92) = false := by simp; omega
        by_cases d3 : c.toNat < 32
        · have t3 : (c.toNat : Int) < 32 := by omega
          clear d1 d2 d3 hd
          go_wp2_with fail
          go_region_law (first | (refine step_appD rfl _ _ stB rfl rfl hown rfl (by simp) rfl (by simp [Value.oneCell']) (by omega) (by omega) ?_; intro v' w2 hown' hg' hat'))
          all_goals have hbel' : Below w.heap.size w w2 := below_app hbel hown hg' (Nat.le_refl _) (by omega)
          all_goals go_wp2
          all_goals go_roundw
          all_goals (try (case measure => simp [intOf]; omega))
          all_goals refine ⟨k + 1, by omega, by go_num, ?_, hbel'⟩
          all_goals (rw [quote_step HC.out, bcells_append, qcells c HP.out, List.length_append, HN.out, show (qbyte c).length = 3 from by simp [qbyte, HP.out]]; exact hown')
        · have t3 : ¬ (c.toNat : Int) < 32 := by omega
          have t4 : 126 < (c.toNat : Int) := by omega
          clear d1 d2 d3 hd
          go_wp2_with fail
          go_region_law (first | (refine step_appD rfl _ _ stB rfl rfl hown rfl (by simp) rfl (by simp [Value.oneCell']) (by omega) (by omega) ?_; intro v' w2 hown' hg' hat'))
          all_goals have hbel' : Below w.heap.size w w2 := below_app hbel hown hg' (Nat.le_refl _) (by omega)
          all_goals go_wp2
          all_goals go_roundw
          all_goals (try (case measure => simp [intOf]; omega))
          all_goals refine ⟨k + 1, by omega, by go_num, ?_, hbel'⟩
          all_goals (rw [quote_step HC.out, bcells_append, qcells c HP.out, List.length_append, HN.out, show (qbyte c).length = 3 from by simp [qbyte, HP.out]]; exact hown')
      · have HP := Lib.hid hp
        simp only [plainB, Bool.and_eq_true, decide_eq_true_eq, bne_iff_ne] at hp
        have t1 : ((c.toNat : Int) == 34) = false := by simp; omega
        have t2 : ((c.toNat : Int) == 92) = false := by simp; omega
        have t3 : ¬ (c.toNat : Int) < 32 := by omega
        have t4 : ¬ 126 < (c.toNat : Int) := by omega
        clear hp
        go_wp2_with (at_builtin; refine wpList_app rfl _ _ stB rfl rfl hown rfl (by simp) rfl (by simp [Value.oneCell']) (by omega) (by omega) ?_; intro v' w2 hown' hg' hat')
        go_roundw
        case measure => simp [intOf]; omega
        case rel =>
          refine ⟨k + 1, by omega, by go_num, ?_, below_app hbel hown hg' (Nat.le_refl _) (by omega)⟩
          rw [quote_step HC.out, bcells_append, qcells1 c HP.out, List.length_append, HN.out, show (qbyte c).length = 1 from by simp [qbyte, HP.out]]
          exact hown'
    · have hfin : s.data.toList.take k = s.data.toList := List.take_of_length_le (by rw [← Lib.size_eq]; omega)
      rw [hfin] at hown
      clear hfin
      go_wp2_with (at_builtin; refine wpList_app rfl _ _ stB rfl rfl hown rfl (by simp) rfl (by simp [Value.oneCell']) (by omega) (by omega) ?_; intro v' w2 hown' hg' hat'; have hts := run_toStr (l := quoteL s.data.toList) (by simpa [quoteL, bcells] using hown'))
      go_ret
      exact ⟨rfl, below_app hbel hown hg' (Nat.le_refl _) (by omega)⟩
theorem run_toStr1 (d : UInt8) (W : World) (g : Nat) (h : W.cell? ⟨g, 0, none⟩ = some (.int .u8 d.toNat)) : (convert 180 9 (.slice (some ⟨g, 0, none⟩) 1 1)).run Tryz.prog W = .ok (.string ⟨#[d]⟩) W := by
  have hr := run_convert_bytes_arg (P := Tryz.prog) W 180 5 Tryz.underlying180 Tryz.underlying5 g 0 1 1 [(d.toNat : Int)] rfl (fun i hi => by
    obtain rfl : i = 0 := by omega
    simpa using h) 9 Tryz.underlying9
  rw [hr]
  simp [strOfNums]
def dig (u : Nat) : UInt8 := UInt8.ofNat (48 + u % 10)
theorem dig_nat (u : Nat) : ((dig u).toNat : Int) = 48 + (u : Int) % 10 := by
  unfold dig
  rw [UInt8.toNat_ofNat', Nat.mod_eq_of_lt (by omega)]
  omega
theorem digits_nat : ∀ (u : Nat) (w : World), u ≤ 1099511627776 → Calls Tryz.prog 123 #[.int .i64 (u : Int)] w fun e w' => e = .returned (.string ⟨(Lib.decDigits u).toArray⟩) ∧ Below w.heap.size w w' := by
  intro u
  induction u using Nat.strongRecOn with
  | ind u ih =>
    intro w hu
    have ih' := Lib.hid ih
    clear ih
    have hd := dig_nat u
    have h0 : ¬ (u : Int) < 0 := by omega
    have hts := run_toStr1 (dig u)
    rw [hd] at hts
    clear hd
    by_cases h10 : u < 10
    · have h1 : (u : Int) < 10 := by omega
      have e1 : (u : Int) % 10 = u := by omega
      have e2 : IntKind.u8.wrap (48 + (u : Int)) = 48 + (u : Int) := IntWalk.u8_in _ (by omega)
      rw [e1] at hts
      clear e1
      go_enter Tryz.func123, Tryz.ntmps123
      go_wp2_with fail
      go_ret
      refine ⟨?_, by (exact belQ)⟩
      rw [Lib.decDigits, dif_pos h10, show UInt8.ofNat (48 + u) = dig u by rw [dig, Nat.mod_eq_of_lt h10]]
      rfl
    · have h1 : ¬ (u : Int) < 10 := by omega
      have q1 : ((u / 10 : Nat) : Int) = (u : Int) / 10 := by omega
      have q0 : (u : Int).tdiv 10 = (u : Int) / 10 := Int.tdiv_eq_ediv_of_nonneg (by omega)
      have m0 : (u : Int).tmod 10 = (u : Int) % 10 := Int.tmod_eq_emod_of_nonneg (by omega)
      have e0 : IntKind.i64.wrap ((u : Int) / 10) = (u : Int) / 10 := IntWalk.i64_in _ (by omega)
      have e1 : IntKind.i64.wrap (48 + (u : Int) % 10) = 48 + (u : Int) % 10 := IntWalk.i64_in _ (by omega)
      have e2 : IntKind.u8.wrap (48 + (u : Int) % 10) = 48 + (u : Int) % 10 := IntWalk.u8_in _ (by omega)
      have hcall := fun W => (ih'.out (u / 10) (by omega) W (by omega))
      rw [q1] at hcall
      have HC := Lib.hid hcall
      have hcat : ∀ w, (Op.stringOp .add ⟨(Lib.decDigits (u / 10)).toArray⟩ ⟨#[dig u]⟩).run Tryz.prog w = .ok (.string ⟨(Lib.decDigits u).toArray⟩) w := fun w => by
        have := run_string_add_lists (P := Tryz.prog) w (Lib.decDigits (u / 10)) [dig u] (by rw [Lib.decDigits_length]; have := Lib.nDigits_le20 (u / 10) (by omega); omega) (by simp)
        rw [show Lib.decDigits u = Lib.decDigits (u / 10) ++ [dig u] by rw [Lib.decDigits, dif_neg h10]; rfl]
        exact this
      clear hcall q1
      go_enter Tryz.func123, Tryz.ntmps123
      go_wp2_with fail
      go_region_with (first | (go_at_call 123; refine (HC.out _).mono ?_; rintro e w1 ⟨rfl, hb1⟩; obtain ⟨hc1, hf1⟩ := bcell hb1; have hz1 := (hb1).size; try simp at hz1))
      all_goals go_wp2
      all_goals go_ret
      all_goals refine ⟨rfl, ?_⟩
      all_goals (exact belQ)
theorem digits_c (n : Int) (w : World) (h1 : -1099511627776 ≤ n) (h2 : n ≤ 1099511627776) : Calls Tryz.prog 123 #[.int .i64 n] w fun e w' => e = .returned (.string ⟨(Lib.itoa n).toArray⟩) ∧ Below w.heap.size w w' := by
  by_cases hn : n < 0
  · obtain ⟨u, hu⟩ := Int.eq_ofNat_of_zero_le (show 0 ≤ -n by omega)
    have hcall := fun W => digits_nat u W (by omega)
    rw [← hu] at hcall
    have HC := Lib.hid hcall
    have hcat : ∀ w, (Op.stringOp .add ⟨#[45]⟩ ⟨(Lib.decDigits u).toArray⟩).run Tryz.prog w = .ok (.string ⟨(Lib.itoa n).toArray⟩) w := fun w => by
      have := run_string_add_lists (P := Tryz.prog) w [45] (Lib.decDigits u) (by simp) (by rw [Lib.decDigits_length]; have := Lib.nDigits_le20 u (by omega); omega)
      rw [Lib.itoa, if_pos hn, show n.natAbs = u by omega]
      exact this
    clear hcall hu
    go_enter Tryz.func123, Tryz.ntmps123
    go_wp2_with (go_at_call 123; refine (HC.out _).mono ?_; rintro e w1 ⟨rfl, hb1⟩)
    go_ret
    exact ⟨rfl, by (exact belQ)⟩
  · obtain ⟨u, rfl⟩ := Int.eq_ofNat_of_zero_le (show 0 ≤ n by omega)
    rw [Lib.itoa, if_neg hn, Int.toNat_natCast]
    exact digits_nat u w (by omega)
structure G (w : World) : Prop where
  tab : Lib.TabIs Tryz.prog w "internal/strconv.uint64pow10" .u64 Lib.pow10Tab
theorem G.below {w w' : World} (h : G w) (hb : Below w.heap.size w w') : G w' := ⟨Lib.tabBelow_of_tabIs h.tab w' hb⟩
theorem below_grow {w w' : World} (h : ∃ k os, w' = Sort.grow (w.drewN k) os) : Below w.heap.size w w' := by
  obtain ⟨k, os, rfl⟩ := h
  refine ⟨rfl, rfl, rfl, ?_, fun i hi => ?_⟩
  · show w.heap.size ≤ (w.heap ++ os).size
    simp
  · show (w.heap ++ os)[i]? = _
    rw [Array.getElem?_append_left hi]
def fmtV (v : V) : List UInt8 := if v.cl.k = 1 then Lib.itoa v.cl.n else if v.cl.k = 2 then quoteL v.cl.s.data.toList else [110, 117, 108, 108]
theorem cl_bounds (v : V) : -4294967296 ≤ v.cl.n ∧ v.cl.n ≤ 4294967296 ∧ v.cl.s.size ≤ 32 := by
  have h := V.ok_cases v.cl_ok
  rw [Lib.size_eq]
  rcases h with ⟨_, h2, h3⟩ | ⟨_, h2, h2', h3⟩ | ⟨_, h2, h3⟩
  · rw [h3]; simp; omega
  · rw [h3]; simp; omega
  · omega
theorem vformat (v : V) (w : World) (hG : G w) : Calls Tryz.prog 116 #[.agg #[.int .i64 v.k, .int .i64 v.n, .string v.s]] w fun e w' => e = .returned (.string ⟨(fmtV v).toArray⟩) ∧ Below w.heap.size w w' := by
  obtain ⟨b1, b2, b3⟩ := cl_bounds v
  by_cases h1 : v.cl.k = 1
  · have H1 := Lib.hid h1
    have t1 : (v.cl.k == 1) = true := by simpa using h1
    clear h1
    go_enter Tryz.func116, Tryz.ntmps116
    go_wp2_with (first
      | (go_at_call 97; refine (vclean v _).mono ?_; rintro e w1 ⟨rfl, hb1⟩; obtain ⟨hc1, hf1⟩ := bcell hb1; have hz1 := (hb1).size; try simp at hz1; have hl10 : w.heap.size < w1.heap.size := (by omega))
      | (go_at_call 115; refine (Tryz.strconv_FormatInt_10 _ (by omega) (by omega) _ (by exact (hG.below (by (exact belQ))).tab)).mono ?_; rintro e w2 ⟨rfl, hb2'⟩; have hb2 := below_grow hb2'; clear hb2'))
    go_ret
    exact ⟨by rw [fmtV, if_pos H1.out]; rfl, by (exact belQ)⟩
  · have H1 := Lib.hid h1
    have t1 : (v.cl.k == 1) = false := by simpa using h1
    clear h1
    by_cases h2 : v.cl.k = 2
    · have H2 := Lib.hid h2
      have t2 : (v.cl.k == 2) = true := by simpa using h2
      clear h2
      go_enter Tryz.func116, Tryz.ntmps116
      go_wp2_with (first
        | (go_at_call 97; refine (vclean v _).mono ?_; rintro e w1 ⟨rfl, hb1⟩; obtain ⟨hc1, hf1⟩ := bcell hb1; have hz1 := (hb1).size; try simp at hz1; have hl10 : w.heap.size < w1.heap.size := (by omega))
        | (go_at_call 175; refine (quote_c _ _ (by omega)).mono ?_; rintro e w2 ⟨rfl, hb2⟩))
      go_ret
      exact ⟨by rw [fmtV, if_neg H1.out, if_pos H2.out]; rfl, by (exact belQ)⟩
    · have H2 := Lib.hid h2
      have t2 : (v.cl.k == 2) = false := by simpa using h2
      clear h2
      go_enter Tryz.func116, Tryz.ntmps116
      go_wp2_with (first
        | (go_at_call 97; refine (vclean v _).mono ?_; rintro e w1 ⟨rfl, hb1⟩; obtain ⟨hc1, hf1⟩ := bcell hb1; have hz1 := (hb1).size; try simp at hz1; have hl10 : w.heap.size < w1.heap.size := (by omega)))
      go_ret
      exact ⟨by rw [fmtV, if_neg H1.out, if_neg H2.out]; rfl, by (exact belQ)⟩
open Go.ChangeShapes Go.WideShapes Go.ChangeAt
theorem own : ownKnob Tryz.prog.godebug = none := by kernel_rfl
theorem laidOut : laidOutB Tryz.prog = true := by kernel_rfl
theorem gPow : Tryz.prog.globalNamed "internal/strconv.uint64pow10" = some 1 := by kernel_rfl
theorem gPowType : (Tryz.prog.globals[1]?).map (·.type) = some 314 := by kernel_rfl
theorem cellsPow : Tryz.prog.cellsOf 314 = 20 := by kernel_rfl
theorem cellsU64 : Tryz.prog.cellsOf 245 = 1 := by kernel_rfl
def laid3 : List (String × DataW Unit) := [("math/bits.deBruijn32tab", Rows.laid_math_bits_deBruijn32tab), ("math/bits.deBruijn64tab", Rows.laid_math_bits_deBruijn64tab), ("internal/strconv.uint64pow10", Rows.laid_internal_strconv_uint64pow10)]
theorem pow_of {l : List (String × DataW Unit)} {W : World} (hl : l.filter (fun x => x.1 == "internal/strconv.uint64pow10") = [("internal/strconv.uint64pow10", Lib.tabData .u64 Lib.pow10Tab)]) (h : laidMetH Tryz.prog l W) : G W := by
  have h2 := laidMetH.filter (fun x => x.1 == "internal/strconv.uint64pow10") h
  rw [hl] at h2
  exact ⟨Lib.tabIs_of_head (rest := []) gPow gPowType Tryz.underlying314 Tryz.underlying245 cellsU64 cellsPow h2⟩
open Go.Deep
theorem exists_list {α : Type} {P : Nat → α → Prop} : ∀ n : Nat, (∀ i, i < n → ∃ v, P i v) → ∃ vs : List α, vs.length = n ∧ ∀ i v, vs[i]? = some v → P i v := by
  intro n
  induction n with
  | zero => intro _; exact ⟨[], rfl, fun i v h => by simp at h⟩
  | succ n ih =>
    intro h
    obtain ⟨vs, h1, h2⟩ := ih fun i hi => h i (by omega)
    obtain ⟨x, hx⟩ := h n (by omega)
    refine ⟨vs ++ [x], by simp [h1], fun i v hv => ?_⟩
    rcases Nat.lt_or_ge i n with hi | hi
    · rw [List.getElem?_append_left (by omega)] at hv
      exact h2 i v hv
    · rw [List.getElem?_append_right (by omega)] at hv
      have : i = n := by
        have := (List.getElem?_eq_some_iff.1 hv).1
        simp at this
        omega
      subst this
      rw [h1] at hv
      simp at hv
      subst hv
      exact hx
theorem cell_lt {w : World} {a : Addr} {u : Value} (h : w.cell? a = some u) : a.block < w.heap.size := by
  rcases Nat.lt_or_ge a.block w.heap.size with hl | hl
  · exact hl
  · simp [World.cell?, Array.getElem?_eq_none hl] at h
theorem addr_add (b off j : Nat) : (⟨b, off, none⟩ : Addr).add j = ⟨b, off + j, none⟩ := by
  unfold Addr.add
  split
  · subst_vars; rfl
  · simp
theorem list3 {α : Type} {l : List α} (h : l.length = 3) : ∃ a b c, l = [a, b, c] := by
  match l, h with
  | [a, b, c], _ => exact ⟨a, b, c, rfl⟩
theorem cellsV : Tryz.prog.cellsOf 36 = 3 := by kernel_rfl
theorem cellsInt : Tryz.prog.cellsOf 3 = 1 := by kernel_rfl
theorem cellsInt64 : Tryz.prog.cellsOf 2 = 1 := by kernel_rfl
theorem cellsStr : Tryz.prog.cellsOf 9 = 1 := by kernel_rfl
section
variable {H : Type} {enc : TypeId × Value → H} {w : World} {base : Nat} {spare : Nat → Bool} {held : Bool} {fuel : Nat}
theorem openV {cs : List Value} {x : DataW H × List MemPlace} (h : DataW.trod enc Tryz.prog w base spare held fuel 36 cs = some x) : ∃ v : V, cs = v.cells := by
  obtain ⟨ys, n, _, _, hl, hyl, hf⟩ := DataW.trod_struct Tryz.underlying36 h
  rw [cellsV] at hl
  obtain ⟨c0, c1, c2, rfl⟩ := list3 hl
  obtain ⟨y0, y1, y2, rfl⟩ := list3 (l := ys) hyl
  have h0 : DataW.trod enc Tryz.prog w base spare held n 3 [c0] = some y0 := by simpa [cellsInt] using hf 0 _ rfl
  have h1 : DataW.trod enc Tryz.prog w base spare held n 2 [c1] = some y1 := by simpa [cellsInt64] using hf 1 _ rfl
  have h2 : DataW.trod enc Tryz.prog w base spare held n 9 [c2] = some y2 := by simpa [cellsStr] using hf 2 _ rfl
  obtain ⟨k, e0, _⟩ := DataW.trod_int Tryz.underlying3 h0
  obtain ⟨m, e1, _⟩ := DataW.trod_int Tryz.underlying2 h1
  obtain ⟨s, e2, _⟩ := DataW.trod_string Tryz.underlying9 h2
  simp at e0 e1 e2
  subst e0 e1 e2
  exact ⟨⟨k, m, s⟩, rfl⟩
end
end Go.Proofs.YtpnfbehbheddeaaGreatDoor
