/- The walk of the law ValueLimits, where the table of powers of ten is as it is laid. -/
import Derived.Test.YtjlhapbahecpoaaDoorVm
import Derived.Test.YtjlhapbahecpoaaDoorVp
namespace Go.Proofs.YtjlhapbahecpoaaDoor
open Go.RowKit

theorem ok_int (x : Int) : V.ok ⟨1, x, ⟨#[]⟩⟩ = (decide (-4294967296 ≤ x) && decide (x ≤ 4294967296)) := by
  have h : (⟨#[]⟩ : ByteArray) = ByteArray.empty := rfl
  simp [V.ok, h]
theorem ok_text (s : ByteArray) : V.ok ⟨2, 0, s⟩ = decide (s.size ≤ 32) := by simp [V.ok]

theorem made3 (x y z : Value) (m : Nat) : (madeCells #[x, y, z] (m * 3)).toList = (List.replicate m [x, y, z]).flatten := by
  have key : ∀ m : Nat, (List.range (m * 3)).map (fun i => (#[x, y, z] : Array Value)[i % 3]!) = (List.replicate m [x, y, z]).flatten := by
    intro m
    induction m with
    | zero => rfl
    | succ m ih =>
      have e : (m + 1) * 3 = m * 3 + 1 + 1 + 1 := by omega
      have c1 : m * 3 % 3 = 0 := by omega
      have c2 : (m * 3 + 1) % 3 = 1 := by omega
      have c3 : (m * 3 + 1 + 1) % 3 = 2 := by omega
      rw [e, List.range_succ, List.range_succ, List.range_succ, List.replicate_succ']
      simp only [List.map_append, ih, List.map_cons, List.map_nil, c1, c2, c3, List.flatten_append, List.append_assoc]
      rfl
  have := key m
  simp only [madeCells, Array.toList_map, Array.toList_range]
  exact this
theorem made_null (m : Nat) : (madeCells (Value.agg #[.int .i64 0, .int .i64 0, .string ⟨#[]⟩]).cells (m * 3)).toList = (List.replicate m V.null).flatMap V.cells := by
  have hc : (Value.agg #[.int .i64 0, .int .i64 0, .string ⟨#[]⟩]).cells = #[.int .i64 0, .int .i64 0, .string ⟨#[]⟩] := by simp [Value.cells]
  rw [hc, made3, List.flatMap_def, List.map_replicate]
  rfl
theorem null_row (m : Nat) : rowOk (List.replicate m V.null) = decide (m ≤ 16) := by
  have : (List.replicate m V.null).all V.ok = true := List.all_eq_true.2 fun v hv => by rw [(List.mem_replicate.1 hv).2]; exact V.null_ok
  simp [rowOk, this]
theorem okA (kk : Int) (b2 : -3 < kk) (b1 : kk < 3) : V.ok ⟨1, 4294967296 + kk, ⟨#[]⟩⟩ = decide (kk ≤ 0) := by
  rw [ok_int, Bool.eq_iff_iff]; simp; omega
theorem okB (kk : Int) (b2 : -3 < kk) (b1 : kk < 3) : V.ok ⟨1, -4294967296 + kk, ⟨#[]⟩⟩ = decide (0 ≤ kk) := by
  rw [ok_int, Bool.eq_iff_iff]; simp; omega
theorem okC (kk : Int) (st : ByteArray) (h : (st.size : Int) = 32 + kk) : V.ok ⟨2, 0, st⟩ = decide (kk ≤ 0) := by
  rw [ok_text, Bool.eq_iff_iff]; simp; omega
theorem okR (kk : Int) (m : Nat) (h : (m : Int) = 16 + kk) : rowOk (List.replicate m V.null) = decide (kk ≤ 0) := by
  rw [null_row, Bool.eq_iff_iff]; simp; omega

theorem null_own {w : World} {base m : Nat} {A : Option Addr} (h : w.ownsRow base 23 3 (.slice A m m) m ((List.replicate m V.null).flatMap V.cells)) : ∀ W, Below w.heap.size w W → Row W W.heap.size A m (List.replicate m V.null) := by
  have h2 := (own_row (vs := List.replicate m V.null) (by rw [List.length_replicate]; exact h)).2
  rwa [List.length_replicate] at h2

set_option maxRecDepth 100000 in
set_option maxHeartbeats 2000000 in
theorem valueLimits_w (n : Int) (w : World) (hG : G w) :
    Calls Tryd.prog 5 #[.int .i8 n] w fun e w' => e = .returned (.bool true) ∧ Below w.heap.size w w' := by
  have b1 := Int.tmod_lt_of_pos n (show (0 : Int) < 3 by omega)
  have b2 := Int.lt_tmod_of_pos n (show (0 : Int) < 3 by omega)
  obtain ⟨kk, hk⟩ : ∃ kk, n.tmod 3 = kk := ⟨_, rfl⟩
  rw [hk] at b1 b2
  obtain ⟨m, hm⟩ : ∃ m : Nat, (m : Int) = 16 + kk := ⟨(16 + kk).toNat, by omega⟩
  have HM := Lib.hid hm
  clear hm
  obtain ⟨i0, hi, hz0, hz1, hz2⟩ := info_parts (P := Tryd.prog) (e := 23) (z := .agg #[.int .i64 0, .int .i64 0, .string ⟨#[]⟩]) (size := 3) (bytes := 32) (by kernel_rfl)
  have HI := Lib.hid (And.intro hi (And.intro hz0 (And.intro hz1 hz2)))
  clear hi hz0 hz1 hz2
  obtain ⟨va, ha⟩ : ∃ va, 4294967296 + kk = va := ⟨_, rfl⟩
  obtain ⟨vb, hb⟩ : ∃ vb, -4294967296 + kk = vb := ⟨_, rfl⟩
  have a1 : 4294967293 < va := by omega
  have a2 : va < 4294967299 := by omega
  have a3 : -4294967299 < vb := by omega
  have a4 : vb < -4294967293 := by omega
  have HA := okA kk b2 b1
  have HB := okB kk b2 b1
  rw [ha] at HA
  rw [hb] at HB
  have HA := Lib.hid HA
  have HB := Lib.hid HB
  go_enter Tryd.func5, Tryd.ntmps5
  go_wp2_with fail
  go_loop [6, 7] (fun s i => ∃ (st : ByteArray) (j : Nat), s = .string st ∧ i = .int .i64 j ∧ st.size = j ∧ (j : Int) ≤ 32 + kk) (fun _ i => 40 - (intOf i).toNat)
  case atStart => exact ⟨⟨#[]⟩, 0, rfl, rfl, rfl, by omega⟩
  case round =>
    obtain ⟨st, j, rfl, rfl, hst, hj⟩ := hrel
    by_cases hlt : (j : Int) < 32 + kk
    · have hcat : ∀ w, (Op.stringOp .add st ⟨#[120]⟩).run Tryd.prog w = .ok (.string (st ++ ⟨#[120]⟩)) w := fun w => run_string_add_sum w _ _ (by rw [show (⟨#[120]⟩ : ByteArray).size = 1 from rfl]; omega)
      go_wp2
      refine ⟨⟨_, j + 1, rfl, by go_num, ?_, by omega⟩, by simp [intOf]; omega⟩
      rw [ByteArray.size_append, hst]; rfl
    · have HS := Lib.hid (show (st.size : Int) = 32 + kk by omega)
      clear hst hj hk
      have q1 : w.heap.size < w.heap.size + 1 + 1 + 1 := by omega
      have q2 : w.heap.size + 1 < w.heap.size + 1 + 1 + 1 := by omega
      go_wp2_with (first
        | (at_make; go_loud (refine wpList_make_full _ rfl _ _ 27 rfl (w.heap.size + 1 + 1 + 1) 23 i0 (.agg #[.int .i64 0, .int .i64 0, .string ⟨#[]⟩]) 3 Tryd.underlying27 HI.out.1 HI.out.2.1 HI.out.2.2.1 .i64 .i64 _ _ m rfl rfl (by first | exact HM.out.symm | (have := HM.out; omega)) (by first | exact HM.out.symm | (have := HM.out; omega)) (by rw [HI.out.2.2.2]; have := HM.out; omega) (by unfold maxLen; have := HM.out; omega) (by simp) ?_; intro w0 hown0 hgrow0; rw [made_null m] at hown0; have hz9 : (((w.alloc (.cells #[.int .i64 1, .int .i64 va, .string ⟨#[]⟩] 23)).alloc (.cells #[.int .i64 1, .int .i64 vb, .string ⟨#[]⟩] 23)).alloc (.cells #[.int .i64 2, .int .i64 0, .string st] 23)).heap.size = w.heap.size + 1 + 1 + 1 := (by simp); rw [hz9] at hown0; clear hz9; have HR := Lib.hid (null_own hown0); have hb0 := (Below.refl _ _).grown hgrow0 (Nat.le_refl _) (fun k h => by cases h); (obtain ⟨hc0, hf0⟩ := bcell hb0; have hz0 := (hb0).size; try simp at hz0); have l0a : w.heap.size < w0.heap.size := (by omega); have l0b : w.heap.size + 1 < w0.heap.size := (by omega); have l0c : w.heap.size + 1 + 1 < w0.heap.size := (by omega)))
        | (go_at_call 18; refine (vvalid ⟨_, _, _⟩ _).mono ?_; rintro e w1 ⟨rfl, hb1⟩; (first | rw [HA.out] | rw [HB.out] | rw [okC kk st HS.out]); (obtain ⟨hc1, hf1⟩ := bcell hb1; have hz1 := (hb1).size; try simp at hz1); have l1a : w.heap.size < w1.heap.size := (by omega); have l1b : w.heap.size + 1 < w1.heap.size := (by omega); have l1c : w.heap.size + 1 + 1 < w1.heap.size := (by omega))
        | (go_at_call 22; refine (vvalidRow _ m _ (List.replicate m V.null) _ (by unfold maxLen; have := HM.out; omega) (HR.out _ (by (repeat (first | (with_reducible exact Below.refl _ _) | (with_reducible assumption) | (with_reducible refine Below.drew ?_) | (with_reducible refine below_drewN ?_ _) | ((with_reducible refine Below.setCell ?_ ?_ _); rotate_left; (focus (first | (simp; done) | (simp; omega) | omega))) | ((with_reducible refine Below.alloc ?_ ?_ _); rotate_left; (focus (first | (simp; done) | (simp; omega) | omega))) | ((with_reducible apply below_step1); (focus (with_reducible assumption)))))))).mono ?_; rintro e w4 ⟨rfl, hb4⟩; rw [okR kk m HM.out])
        | (go_at_call 14; refine (awake_c _ (by exact hG.below (by (repeat (first | (with_reducible exact Below.refl _ _) | (with_reducible assumption) | (with_reducible refine Below.drew ?_) | (with_reducible refine below_drewN ?_ _) | ((with_reducible refine Below.setCell ?_ ?_ _); rotate_left; (focus (first | (simp; done) | (simp; omega) | omega))) | ((with_reducible refine Below.alloc ?_ ?_ _); rotate_left; (focus (first | (simp; done) | (simp; omega) | omega))) | ((with_reducible apply below_step1); (focus (with_reducible assumption)))))))).mono ?_; rintro e w5 ⟨rfl, hb5⟩))
      go_ret
      exact ⟨rfl, by (repeat (first | (with_reducible exact Below.refl _ _) | (with_reducible assumption) | (with_reducible refine Below.drew ?_) | (with_reducible refine below_drewN ?_ _) | ((with_reducible refine Below.setCell ?_ ?_ _); rotate_left; (focus (first | (simp; done) | (simp; omega) | omega))) | ((with_reducible refine Below.alloc ?_ ?_ _); rotate_left; (focus (first | (simp; done) | (simp; omega) | omega))) | ((with_reducible apply below_step1); (focus (with_reducible assumption)))))⟩
end Go.Proofs.YtjlhapbahecpoaaDoor
