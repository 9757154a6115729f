/- Contract of the reference's Digits: numbers whose absolute value is below 2^40. -/
import Derived.Test.YtmbegmhgiekofaaDoorVg
import Derived.Lib.ItoaNum
import Derived.Lib.ItoaLen
import Derived.Deep.RegionWith
namespace Go.Proofs.YtmbegmhgiekofaaDoor
open Go.RowKit

/-- string([]byte{d}), wherever the byte lies. -/
theorem run_toStr1 (d : UInt8) (W : World) (g : Nat) (h : W.cell? ⟨g, 0, none⟩ = some (.int .u8 d.toNat)) : (convert 31 9 (.slice (some ⟨g, 0, none⟩) 1 1)).run Tryd.prog W = .ok (.string ⟨#[d]⟩) W := by
  have hr := run_convert_bytes_arg (P := Tryd.prog) W 31 5 Tryd.underlying31 Tryd.underlying5 g 0 1 1 [(d.toNat : Int)] rfl (fun i hi => by
    obtain rfl : i = 0 := by omega
    simpa using h) 9 Tryd.underlying9
  rw [hr]
  simp [strOfNums]

def dig (u : Nat) : UInt8 := UInt8.ofNat (48 + u % 10)
theorem dig_nat (u : Nat) : ((dig u).toNat : Int) = 48 + (u : Int) % 10 := by
  unfold dig
  rw [UInt8.toNat_ofNat', Nat.mod_eq_of_lt (by omega)]
  omega

set_option maxRecDepth 100000 in
set_option maxHeartbeats 1000000 in
theorem digits_nat : ∀ (u : Nat) (w : World), u ≤ 1099511627776 → Calls Tryd.prog 38 #[.int .i64 (u : Int)] w fun e w' => e = .returned (.string ⟨(Lib.decDigits u).toArray⟩) ∧ Below w.heap.size w w' := by
  intro u
  induction u using Nat.strongRecOn with
  | ind u ih =>
    intro w hu
    have ih' := Lib.hid ih
    clear ih
    have hd := dig_nat u
    have h0 : ¬ (u : Int) < 0 := by omega
    have hts := run_toStr1 (dig u)
    rw [hd] at hts
    clear hd
    by_cases h10 : u < 10
    · have h1 : (u : Int) < 10 := by omega
      have e1 : (u : Int) % 10 = u := by omega
      have e2 : IntKind.u8.wrap (48 + (u : Int)) = 48 + (u : Int) := IntWalk.u8_in _ (by omega)
      rw [e1] at hts
      clear e1
      go_enter Tryd.func38, Tryd.ntmps38
      go_wp2_with fail
      go_ret
      refine ⟨?_, by (repeat (first | (with_reducible exact Below.refl _ _) | (with_reducible assumption) | (with_reducible refine Below.drew ?_) | (with_reducible refine below_drewN ?_ _) | ((with_reducible refine Below.setCell ?_ ?_ _); rotate_left; (focus (first | (simp; done) | (simp; omega) | omega))) | ((with_reducible refine Below.alloc ?_ ?_ _); rotate_left; (focus (first | (simp; done) | (simp; omega) | omega))) | ((with_reducible apply below_step1); (focus (with_reducible assumption)))))⟩
      rw [Lib.decDigits, dif_pos h10, show UInt8.ofNat (48 + u) = dig u by rw [dig, Nat.mod_eq_of_lt h10]]
      rfl
    · have h1 : ¬ (u : Int) < 10 := by omega
      have q1 : ((u / 10 : Nat) : Int) = (u : Int) / 10 := by omega
      have q0 : (u : Int).tdiv 10 = (u : Int) / 10 := Int.tdiv_eq_ediv_of_nonneg (by omega)
      have m0 : (u : Int).tmod 10 = (u : Int) % 10 := Int.tmod_eq_emod_of_nonneg (by omega)
      have e0 : IntKind.i64.wrap ((u : Int) / 10) = (u : Int) / 10 := IntWalk.i64_in _ (by omega)
      have e1 : IntKind.i64.wrap (48 + (u : Int) % 10) = 48 + (u : Int) % 10 := IntWalk.i64_in _ (by omega)
      have e2 : IntKind.u8.wrap (48 + (u : Int) % 10) = 48 + (u : Int) % 10 := IntWalk.u8_in _ (by omega)
      have hcall := fun W => (ih'.out (u / 10) (by omega) W (by omega))
      rw [q1] at hcall
      have HC := Lib.hid hcall
      have hcat : ∀ w, (Op.stringOp .add ⟨(Lib.decDigits (u / 10)).toArray⟩ ⟨#[dig u]⟩).run Tryd.prog w = .ok (.string ⟨(Lib.decDigits u).toArray⟩) w := fun w => by
        have := run_string_add_lists (P := Tryd.prog) w (Lib.decDigits (u / 10)) [dig u] (by rw [Lib.decDigits_length]; have := Lib.nDigits_le20 (u / 10) (by omega); omega) (by simp)
        rw [show Lib.decDigits u = Lib.decDigits (u / 10) ++ [dig u] by rw [Lib.decDigits, dif_neg h10]; rfl]
        exact this
      clear hcall q1
      go_enter Tryd.func38, Tryd.ntmps38
      go_wp2_with fail
      go_region_with (first | (go_at_call 38; refine (HC.out _).mono ?_; rintro e w1 ⟨rfl, hb1⟩; obtain ⟨hc1, hf1⟩ := bcell hb1; have hz1 := (hb1).size; try simp at hz1))
      all_goals go_wp2
      all_goals go_ret
      all_goals refine ⟨rfl, ?_⟩
      all_goals (repeat (first | (with_reducible exact Below.refl _ _) | (with_reducible assumption) | (with_reducible refine Below.drew ?_) | (with_reducible refine below_drewN ?_ _) | ((with_reducible refine Below.setCell ?_ ?_ _); rotate_left; (focus (first | (simp; done) | (simp; omega) | omega))) | ((with_reducible refine Below.alloc ?_ ?_ _); rotate_left; (focus (first | (simp; done) | (simp; omega) | omega))) | ((with_reducible apply below_step1); (focus (with_reducible assumption)))))

set_option maxRecDepth 100000 in
set_option maxHeartbeats 1000000 in
theorem digits_c (n : Int) (w : World) (h1 : -1099511627776 ≤ n) (h2 : n ≤ 1099511627776) : Calls Tryd.prog 38 #[.int .i64 n] w fun e w' => e = .returned (.string ⟨(Lib.itoa n).toArray⟩) ∧ Below w.heap.size w w' := by
  by_cases hn : n < 0
  · obtain ⟨u, hu⟩ := Int.eq_ofNat_of_zero_le (show 0 ≤ -n by omega)
    have hcall := fun W => digits_nat u W (by omega)
    rw [← hu] at hcall
    have HC := Lib.hid hcall
    have hcat : ∀ w, (Op.stringOp .add ⟨#[45]⟩ ⟨(Lib.decDigits u).toArray⟩).run Tryd.prog w = .ok (.string ⟨(Lib.itoa n).toArray⟩) w := fun w => by
      have := run_string_add_lists (P := Tryd.prog) w [45] (Lib.decDigits u) (by simp) (by rw [Lib.decDigits_length]; have := Lib.nDigits_le20 u (by omega); omega)
      rw [Lib.itoa, if_pos hn, show n.natAbs = u by omega]
      exact this
    clear hcall hu
    go_enter Tryd.func38, Tryd.ntmps38
    go_wp2_with (go_at_call 38; refine (HC.out _).mono ?_; rintro e w1 ⟨rfl, hb1⟩)
    go_ret
    exact ⟨rfl, by (repeat (first | (with_reducible exact Below.refl _ _) | (with_reducible assumption) | (with_reducible refine Below.drew ?_) | (with_reducible refine below_drewN ?_ _) | ((with_reducible refine Below.setCell ?_ ?_ _); rotate_left; (focus (first | (simp; done) | (simp; omega) | omega))) | ((with_reducible refine Below.alloc ?_ ?_ _); rotate_left; (focus (first | (simp; done) | (simp; omega) | omega))) | ((with_reducible apply below_step1); (focus (with_reducible assumption)))))⟩
  · obtain ⟨u, rfl⟩ := Int.eq_ofNat_of_zero_le (show 0 ≤ n by omega)
    rw [Lib.itoa, if_neg hn, Int.toNat_natCast]
    exact digits_nat u w (by omega)
end Go.Proofs.YtmbegmhgiekofaaDoor
