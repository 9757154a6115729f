/- Contract of the reference's Apply: valid values. -/
import Derived.Test.YtojcabnjodfdmaaDoorEq
import Derived.Test.YtojcabnjodfdmaaDoorGrow
namespace Go.Proofs.YtojcabnjodfdmaaDoor
open Go.RowKit

theorem ar_one {op : Int} (h : ar op = 1) : op = 3 ∨ op = 9 ∨ op = 13 ∨ op = 16 := by
  unfold ar arity at h
  split at h
  · simp at h
  · split at h
    · assumption
    · split at h
      · simp at h
      · split at h <;> simp at h
theorem ar_two {op : Int} (h : ar op = 2) : op = 4 ∨ op = 5 ∨ op = 6 ∨ op = 7 ∨ op = 8 ∨ op = 10 ∨ op = 11 ∨ op = 12 ∨ op = 14 ∨ op = 15 ∨ op = 17 := by
  unfold ar arity at h
  split at h
  · simp at h
  · split at h
    · simp at h
    · split at h
      · simp at h
      · split at h
        · omega
        · simp at h
theorem ar_three {op : Int} (h : ar op = 3) : op = 18 := by
  unfold ar arity at h
  split at h
  · simp at h
  · split at h
    · simp at h
    · split at h
      · assumption
      · split at h <;> simp at h
theorem rstrict (op : Int) (A : Option Addr) (n c : Nat) (vs : List V) (w : World) (hop : 3 ≤ op ∧ op ≤ 13) (hl : vs.length = ar op) (hk : ∀ v ∈ vs, v.ok = true) (hr : Row w w.heap.size A n vs) : Calls Tryd.prog 89 #[.int .i64 op, .slice A n c] w fun e w' => e = .returned (.agg #[.int .i64 (strictR op (vs.getD 0 V.null) (vs.getD 1 V.null)).k, .int .i64 (strictR op (vs.getD 0 V.null) (vs.getD 1 V.null)).n, .string (strictR op (vs.getD 0 V.null) (vs.getD 1 V.null)).s]) ∧ Below w.heap.size w w' := by
  have hn := hr.len
  match vs, hl, hk, hr, hn with
  | [], hl, _, _, _ =>
    exfalso
    simp only [List.length_nil] at hl
    unfold ar arity at hl
    split at hl
    · omega
    · split at hl
      · simp at hl
      · split at hl
        · simp at hl
        · split at hl
          · simp at hl
          · omega
  | [a], hl, hk, hr, hn =>
    simp only [List.length_cons, List.length_nil] at hl hn
    subst hn
    obtain ⟨b, off, rfl, hc⟩ := hr.cells1 (by omega)
    have h0 := hc 0 a rfl
    rw [Nat.zero_mul] at h0
    exact rstrict1 op a b off c w (by have := ar_one hl.symm; omega) (hk a (by simp)) h0
  | [a, x], hl, hk, hr, hn =>
    simp only [List.length_cons, List.length_nil] at hl hn
    subst hn
    obtain ⟨b, off, rfl, hc⟩ := hr.cells1 (by omega)
    have h0 := hc 0 a rfl
    rw [Nat.zero_mul] at h0
    have h1 := hc 1 x rfl
    rw [Nat.one_mul] at h1
    have ha := hk a (by simp)
    have hx := hk x (by simp)
    rcases ar_two hl.symm with h | h | h | h | h | h | h | h | h | h | h
    · exact rstrict_nums op a x b off c w (by omega) ha hx h0 h1
    · exact rstrict_nums op a x b off c w (by omega) ha hx h0 h1
    · exact rstrict_nums op a x b off c w (by omega) ha hx h0 h1
    · exact rstrict_nums op a x b off c w (by omega) ha hx h0 h1
    · exact rstrict_text op a x b off c w (by omega) ha hx h0 h1
    · exact rstrict_text op a x b off c w (by omega) ha hx h0 h1
    · exact rstrict_comp op a x b off c w (by omega) h0 h1
    · exact rstrict_comp op a x b off c w (by omega) h0 h1
    · omega
    · omega
    · omega
  | [a, x, y], hl, _, _, _ => have := ar_three hl.symm; omega
  | a :: x :: y :: z :: r, hl, _, _, _ => have := ar_le op; simp at hl; omega

set_option maxRecDepth 100000 in
set_option maxHeartbeats 2000000 in
theorem rapply_logic (op : Int) (a b : V) (B off c : Nat) (w : World) (hop : op = 14 ∨ op = 15) (hc : Cells1 w B off a) (hd : Cells1 w B (off + 3) b) : Calls Tryd.prog 70 #[.int .i64 op, .slice (some ⟨B, off, none⟩) 2 c] w fun e w' => e = .returned (.agg #[.int .i64 (threeR op (truthR a) (truthR b)).k, .int .i64 (threeR op (truthR a) (truthR b)).n, .string (threeR op (truthR a) (truthR b)).s]) ∧ Below w.heap.size w w' := by
  obtain ⟨hlt, c0, c1, c2⟩ := hc
  obtain ⟨_, d0, d1, d2⟩ := hd
  have hlt1 : B < w.heap.size + 1 := by omega
  have hlt2 : B < w.heap.size + 1 + 1 := by omega
  have hp1 : w.heap.size < w.heap.size + 1 + 1 := by omega
  have T1 := rtruth a
  have T2 := rtruth b
  generalize truthR a = ta at T1
  generalize truthR b = tb at T2
  rcases hop with rfl | rfl
  all_goals go_enter Tryd.func70, Tryd.ntmps70
  all_goals go_wp2_with fail
  all_goals go_region_with (first
    | (go_at_call_of 53 (Value.agg #[.int .i64 a.k, .int .i64 a.n, .string a.s]); refine (T1 _).mono ?_; rintro e w1 ⟨rfl, hb1⟩; obtain ⟨hc1, hf1⟩ := bcell hb1; have hz1 := (hb1).size; (try simp at hz1); have hl10 : w.heap.size < w1.heap.size := (by omega); have hl11 : w.heap.size + 1 < w1.heap.size := (by omega); have hB1 : B < w1.heap.size := (by omega))
    | (go_at_call_of 53 (Value.agg #[.int .i64 b.k, .int .i64 b.n, .string b.s]); refine (T2 _).mono ?_; rintro e w2 ⟨rfl, hb2⟩; obtain ⟨hc2, hf2⟩ := bcell hb2; have hz2 := (hb2).size; (try simp at hz2); have hl20 : w.heap.size < w2.heap.size := (by omega); have hl21 : w.heap.size + 1 < w2.heap.size := (by omega); have hB2 : B < w2.heap.size := (by omega))
    | (go_at_call 87; refine (rthree _ _ _ _).mono ?_; rintro e w3 ⟨rfl, hb3⟩; obtain ⟨hc3, hf3⟩ := bcell hb3; have hz3 := (hb3).size; (try simp at hz3); have hl30 : w.heap.size < w3.heap.size := (by omega); have hl31 : w.heap.size + 1 < w3.heap.size := (by omega)))
  all_goals go_wp2_with fail
  all_goals refine bodyPost_ret (by simp [results, Tryd.results70, go_sem, *]; rfl) rfl ?_
  all_goals exact ⟨rfl, by (repeat (first | (with_reducible exact Below.refl _ _) | (with_reducible assumption) | (with_reducible refine Below.drew ?_) | (with_reducible refine below_drewN ?_ _) | ((with_reducible refine Below.setCell ?_ ?_ _); rotate_left; (focus (first | (simp; done) | (simp; omega) | omega))) | ((with_reducible refine Below.alloc ?_ ?_ _); rotate_left; (focus (first | (simp; done) | (simp; omega) | omega))) | ((with_reducible apply below_step1); (focus (with_reducible assumption)))))⟩
set_option maxRecDepth 100000 in
set_option maxHeartbeats 2000000 in
theorem rapply_rest (op : Int) (a b d : V) (n B off c : Nat) (w : World) (hop : (op = 16 ∧ n = 1) ∨ (op = 17 ∧ n = 2) ∨ (op = 18 ∧ n = 3)) (hc : Cells1 w B off a) (hd : op ≠ 16 → Cells1 w B (off + 3) b) (hd2 : op = 18 → Cells1 w B (off + 6) d) : Calls Tryd.prog 70 #[.int .i64 op, .slice (some ⟨B, off, none⟩) n c] w fun e w' => e = .returned (.agg #[.int .i64 (if op = 16 then truthV (a.beq V.null) else if op = 17 then (if a.beq V.null = false then a else b) else if truthR a = 1 then b else d).k, .int .i64 (if op = 16 then truthV (a.beq V.null) else if op = 17 then (if a.beq V.null = false then a else b) else if truthR a = 1 then b else d).n, .string (if op = 16 then truthV (a.beq V.null) else if op = 17 then (if a.beq V.null = false then a else b) else if truthR a = 1 then b else d).s]) ∧ Below w.heap.size w w' := by
  obtain ⟨hlt, c0, c1, c2⟩ := hc
  have hlt1 : B < w.heap.size + 1 := by omega
  have hlt2 : B < w.heap.size + 1 + 1 := by omega
  have hp1 : w.heap.size < w.heap.size + 1 + 1 := by omega
  rcases hop with ⟨rfl, rfl⟩ | ⟨rfl, rfl⟩ | ⟨rfl, rfl⟩
  · clear hd hd2
    have he := run_eqV a.k a.n a.s 0 0 ⟨#[]⟩
    rw [show eqB a.k a.n a.s 0 0 ⟨#[]⟩ = a.beq V.null from rfl] at he
    rw [if_pos rfl]
    generalize a.beq V.null = q at he
    go_enter Tryd.func70, Tryd.ntmps70
    go_wp2_with fail
    go_region_with ((go_at_call 88; refine (rbit _ _).mono ?_; rintro e w1 ⟨rfl, hb1⟩; obtain ⟨hc1, hf1⟩ := bcell hb1; have hz1 := (hb1).size; (try simp at hz1); have hl10 : w.heap.size < w1.heap.size := (by omega); have hl11 : w.heap.size + 1 < w1.heap.size := (by omega)))
    all_goals go_wp2_with fail
    all_goals refine bodyPost_ret (by simp [results, Tryd.results70, go_sem, *]; rfl) rfl ?_
    all_goals exact ⟨rfl, by (repeat (first | (with_reducible exact Below.refl _ _) | (with_reducible assumption) | (with_reducible refine Below.drew ?_) | (with_reducible refine below_drewN ?_ _) | ((with_reducible refine Below.setCell ?_ ?_ _); rotate_left; (focus (first | (simp; done) | (simp; omega) | omega))) | ((with_reducible refine Below.alloc ?_ ?_ _); rotate_left; (focus (first | (simp; done) | (simp; omega) | omega))) | ((with_reducible apply below_step1); (focus (with_reducible assumption)))))⟩
  · clear hd2
    obtain ⟨_, d0, d1, d2⟩ := hd (by omega)
    clear hd
    have he := run_neqV a.k a.n a.s 0 0 ⟨#[]⟩
    rw [show eqB a.k a.n a.s 0 0 ⟨#[]⟩ = a.beq V.null from rfl] at he
    rw [if_neg (by decide), if_pos rfl]
    generalize a.beq V.null = q at he
    cases q
    · rw [if_pos rfl]
      go_enter Tryd.func70, Tryd.ntmps70
      go_wp2_with fail
      go_quiet (fail)
      go_wp2_with fail
      refine bodyPost_ret (by simp [results, Tryd.results70, go_sem, *]; rfl) rfl ?_
      exact ⟨rfl, by (repeat (first | (with_reducible exact Below.refl _ _) | (with_reducible assumption) | (with_reducible refine Below.drew ?_) | (with_reducible refine below_drewN ?_ _) | ((with_reducible refine Below.setCell ?_ ?_ _); rotate_left; (focus (first | (simp; done) | (simp; omega) | omega))) | ((with_reducible refine Below.alloc ?_ ?_ _); rotate_left; (focus (first | (simp; done) | (simp; omega) | omega))) | ((with_reducible apply below_step1); (focus (with_reducible assumption)))))⟩
    · rw [if_neg (by decide)]
      go_enter Tryd.func70, Tryd.ntmps70
      go_wp2_with fail
      go_quiet (fail)
      go_wp2_with fail
      refine bodyPost_ret (by simp [results, Tryd.results70, go_sem, *]; rfl) rfl ?_
      exact ⟨rfl, by (repeat (first | (with_reducible exact Below.refl _ _) | (with_reducible assumption) | (with_reducible refine Below.drew ?_) | (with_reducible refine below_drewN ?_ _) | ((with_reducible refine Below.setCell ?_ ?_ _); rotate_left; (focus (first | (simp; done) | (simp; omega) | omega))) | ((with_reducible refine Below.alloc ?_ ?_ _); rotate_left; (focus (first | (simp; done) | (simp; omega) | omega))) | ((with_reducible apply below_step1); (focus (with_reducible assumption)))))⟩
  · obtain ⟨_, d0, d1, d2⟩ := hd (by omega)
    obtain ⟨_, g0, g1, g2⟩ := hd2 rfl
    clear hd hd2
    rw [if_neg (by decide), if_neg (by decide)]
    have T1 := rtruth a
    by_cases h : truthR a = 1
    · rw [if_pos h]
      rw [h] at T1
      clear h
      go_enter Tryd.func70, Tryd.ntmps70
      go_wp2_with ((go_at_call 53; refine (T1 _).mono ?_; rintro e w1 ⟨rfl, hb1⟩; obtain ⟨hc1, hf1⟩ := bcell hb1; have hz1 := (hb1).size; (try simp at hz1); have hl10 : w.heap.size < w1.heap.size := (by omega); have hl11 : w.heap.size + 1 < w1.heap.size := (by omega)))
      refine bodyPost_ret (by simp [results, Tryd.results70, go_sem, *]; rfl) rfl ?_
      exact ⟨rfl, by (repeat (first | (with_reducible exact Below.refl _ _) | (with_reducible assumption) | (with_reducible refine Below.drew ?_) | (with_reducible refine below_drewN ?_ _) | ((with_reducible refine Below.setCell ?_ ?_ _); rotate_left; (focus (first | (simp; done) | (simp; omega) | omega))) | ((with_reducible refine Below.alloc ?_ ?_ _); rotate_left; (focus (first | (simp; done) | (simp; omega) | omega))) | ((with_reducible apply below_step1); (focus (with_reducible assumption)))))⟩
    · rw [if_neg h]
      have t : (truthR a == 1) = false := by simpa using h
      clear h
      go_enter Tryd.func70, Tryd.ntmps70
      go_wp2_with ((go_at_call 53; refine (T1 _).mono ?_; rintro e w1 ⟨rfl, hb1⟩; obtain ⟨hc1, hf1⟩ := bcell hb1; have hz1 := (hb1).size; (try simp at hz1); have hl10 : w.heap.size < w1.heap.size := (by omega); have hl11 : w.heap.size + 1 < w1.heap.size := (by omega)))
      refine bodyPost_ret (by simp [results, Tryd.results70, go_sem, *]; rfl) rfl ?_
      exact ⟨rfl, by (repeat (first | (with_reducible exact Below.refl _ _) | (with_reducible assumption) | (with_reducible refine Below.drew ?_) | (with_reducible refine below_drewN ?_ _) | ((with_reducible refine Below.setCell ?_ ?_ _); rotate_left; (focus (first | (simp; done) | (simp; omega) | omega))) | ((with_reducible refine Below.alloc ?_ ?_ _); rotate_left; (focus (first | (simp; done) | (simp; omega) | omega))) | ((with_reducible apply below_step1); (focus (with_reducible assumption)))))⟩

/-- What lies in Apply's own blocks: the result's and null's. -/
structure Ap3 (w wr : World) : Prop where
  bel : Below w.heap.size w wr
  sz : w.heap.size + 2 ≤ wr.heap.size
  fr0 : ∀ i, wr.frozen? ⟨w.heap.size, i, none⟩ = false
  r0 : wr.cell? ⟨w.heap.size, 0, none⟩ = some (.int .i64 0)
  r1 : wr.cell? ⟨w.heap.size, 1, none⟩ = some (.int .i64 0)
  r2 : wr.cell? ⟨w.heap.size, 2, none⟩ = some (.string ⟨#[]⟩)
  n0 : wr.cell? ⟨w.heap.size + 1, 0, none⟩ = some (.int .i64 0)
  n1 : wr.cell? ⟨w.heap.size + 1, 1, none⟩ = some (.int .i64 0)
  n2 : wr.cell? ⟨w.heap.size + 1, 2, none⟩ = some (.string ⟨#[]⟩)
def ApRel (w : World) (vs : List V) (v6 : Value) (wr : World) : Prop := ∃ k : Nat, k ≤ vs.length ∧ v6 = .int .i64 k ∧ (vs.take k).any (fun v => v.beq V.null) = false ∧ Ap3 w wr
set_option maxRecDepth 100000 in
set_option maxHeartbeats 2000000 in
theorem rapply_strict (op : Int) (A : Option Addr) (n c : Nat) (vs : List V) (w : World) (hop : 3 ≤ op ∧ op ≤ 13) (hl : vs.length = ar op) (hk : ∀ v ∈ vs, v.ok = true) (hr : Row w w.heap.size A n vs) : Calls Tryd.prog 70 #[.int .i64 op, .slice A n c] w fun e w' => e = .returned (.agg #[.int .i64 (if vs.any (fun v => v.beq V.null) = true then V.null else strictR op (vs.getD 0 V.null) (vs.getD 1 V.null)).k, .int .i64 (if vs.any (fun v => v.beq V.null) = true then V.null else strictR op (vs.getD 0 V.null) (vs.getD 1 V.null)).n, .string (if vs.any (fun v => v.beq V.null) = true then V.null else strictR op (vs.getD 0 V.null) (vs.getD 1 V.null)).s]) ∧ Below w.heap.size w w' := by
  have hst := fun w1 hr1 => rstrict op A n c vs w1 hop hl hk hr1
  generalize strictR op (vs.getD 0 V.null) (vs.getD 1 V.null) = sv at hst
  obtain ⟨r, hre⟩ : ∃ r, (if vs.any (fun v => v.beq V.null) = true then V.null else sv) = r := ⟨_, rfl⟩
  rw [hre]
  have HE := Lib.hid hre.symm
  clear hre
  have HLN := Lib.hid hr.len
  have hn3 : n ≤ 3 := by have := hr.len; have := ar_le op; omega
  have hp1 : w.heap.size < w.heap.size + 1 + 1 := by omega
  obtain ⟨o1, o2⟩ := hop
  have t14 : (op == 14) = false := by simp; omega
  have t15 : (op == 15) = false := by simp; omega
  have t16 : (op == 16) = false := by simp; omega
  have t17 : (op == 17) = false := by simp; omega
  have t18 : (op == 18) = false := by simp; omega
  clear hl hk
  go_enter Tryd.func70, Tryd.ntmps70
  go_wp2_with fail
  go_loopw [6] (fun v6 wr => ApRel w vs v6 wr) (fun v6 _ => n - (intOf v6).toNat)
  case atStart =>
    refine ⟨0, Nat.zero_le _, rfl, rfl, ?_⟩
    constructor
    · (repeat (first | (with_reducible exact Below.refl _ _) | (with_reducible assumption) | (with_reducible refine Below.drew ?_) | (with_reducible refine below_drewN ?_ _) | ((with_reducible refine Below.setCell ?_ ?_ _); rotate_left; (focus (first | (simp; done) | (simp; omega) | omega))) | ((with_reducible refine Below.alloc ?_ ?_ _); rotate_left; (focus (first | (simp; done) | (simp; omega) | omega))) | ((with_reducible apply below_step1); (focus (with_reducible assumption)))))
    · simp
    all_goals (first | (intro i; simp [go_sem]; done) | (simp [go_sem]; done))
  case round =>
    obtain ⟨k, hk, rfl, hany, h3⟩ := hrel
    obtain ⟨hbel, hsz, fr0, r0, r1, r2, n0, n1, n2⟩ := h3
    have hzz := hbel.size
    have HA := Lib.hid hany
    clear hany
    have hs0 : w.heap.size < wr.heap.size := by omega
    have hs1 : w.heap.size + 1 < wr.heap.size := by omega
    by_cases hlt : k < n
    · obtain ⟨b, off, v, rfl, hb, hv, c0, c1, c2⟩ := Row.at3 ((hr.below hbel).more hzz) hlt
      have HV := Lib.hid hv
      have he := run_eqV v.k v.n v.s 0 0 ⟨#[]⟩
      rw [show eqB v.k v.n v.s 0 0 ⟨#[]⟩ = v.beq V.null from rfl] at he
      have hk0 : (0 : Int) ≤ (k : Int) := by omega
      have hk1 : (k : Int) < (n : Int) := by omega
      have hkw : IntKind.i64.wrap ((k : Int) + 1) = (k : Int) + 1 := IntWalk.i64_in _ (by omega)
      cases hq : v.beq V.null
      · rw [hq] at he
        have HQ := Lib.hid hq
        clear hq hv
        go_wp2_with fail
        go_quiet (fail)
        go_wp2_with fail
        go_roundw
        case rel =>
          refine ⟨k + 1, by have := HLN.out; omega, by go_num, ?_, ⟨by (repeat (first | (with_reducible exact Below.refl _ _) | (with_reducible assumption) | (with_reducible refine Below.drew ?_) | (with_reducible refine below_drewN ?_ _) | ((with_reducible refine Below.setCell ?_ ?_ _); rotate_left; (focus (first | (simp; done) | (simp; omega) | omega))) | ((with_reducible refine Below.alloc ?_ ?_ _); rotate_left; (focus (first | (simp; done) | (simp; omega) | omega))) | ((with_reducible apply below_step1); (focus (with_reducible assumption))))), hsz, fr0, r0, r1, r2, n0, n1, n2⟩⟩
          rw [take_any_succ _ _ _ _ HV.out, HA.out, HQ.out]
          rfl
        case measure => simp [intOf]; omega
      · rw [hq] at he
        have HR := Lib.hid (show r = V.null by rw [HE.out, if_pos (any_of_at _ vs k v hv hq)])
        clear hq hv
        go_wp2_with fail
        go_quiet (fail)
        go_wp2_with fail
        refine bodyPost_ret (by simp [results, Tryd.results70, go_sem, *]; rfl) rfl ?_
        rw [HR.out]
        exact ⟨rfl, by (repeat (first | (with_reducible exact Below.refl _ _) | (with_reducible assumption) | (with_reducible refine Below.drew ?_) | (with_reducible refine below_drewN ?_ _) | ((with_reducible refine Below.setCell ?_ ?_ _); rotate_left; (focus (first | (simp; done) | (simp; omega) | omega))) | ((with_reducible refine Below.alloc ?_ ?_ _); rotate_left; (focus (first | (simp; done) | (simp; omega) | omega))) | ((with_reducible apply below_step1); (focus (with_reducible assumption)))))⟩
    · have hkl : k = vs.length := by have := HLN.out; omega
      have HR := Lib.hid (show r = sv by
        have h1 := HA.out
        rw [hkl, List.take_length] at h1
        rw [HE.out, h1, if_neg (by decide)])
      have hlt2 : ¬ (k : Int) < (n : Int) := by omega
      clear hkl
      go_wp2_with ((go_at_call 89; refine (hst _ (by exact (hr.below hbel).more hzz)).mono ?_; rintro e w1 ⟨rfl, hb1⟩; obtain ⟨hc1, hf1⟩ := bcell hb1; have hz1 := (hb1).size; (try simp at hz1); have hl10 : w.heap.size < w1.heap.size := (by omega); have hl11 : w.heap.size + 1 < w1.heap.size := (by omega)))
      refine bodyPost_ret (by simp [results, Tryd.results70, go_sem, *]; rfl) rfl ?_
      rw [HR.out]
      exact ⟨rfl, by (repeat (first | (with_reducible exact Below.refl _ _) | (with_reducible assumption) | (with_reducible refine Below.drew ?_) | (with_reducible refine below_drewN ?_ _) | ((with_reducible refine Below.setCell ?_ ?_ _); rotate_left; (focus (first | (simp; done) | (simp; omega) | omega))) | ((with_reducible refine Below.alloc ?_ ?_ _); rotate_left; (focus (first | (simp; done) | (simp; omega) | omega))) | ((with_reducible apply below_step1); (focus (with_reducible assumption)))))⟩
theorem rapply (op : Int) (A : Option Addr) (n c : Nat) (vs : List V) (w : World) (hop : 3 ≤ op ∧ op ≤ 18) (hl : vs.length = ar op) (hk : ∀ v ∈ vs, v.ok = true) (hr : Row w w.heap.size A n vs) : Calls Tryd.prog 70 #[.int .i64 op, .slice A n c] w fun e w' => e = .returned (.agg #[.int .i64 (applyR op vs).k, .int .i64 (applyR op vs).n, .string (applyR op vs).s]) ∧ Below w.heap.size w w' := by
  by_cases h13 : op ≤ 13
  · have := rapply_strict op A n c vs w ⟨hop.1, h13⟩ hl hk hr
    rw [show applyR op vs = if vs.any (fun v => v.beq V.null) = true then V.null else strictR op (vs.getD 0 V.null) (vs.getD 1 V.null) by
      unfold applyR
      rw [if_neg (by omega), if_neg (by omega), if_neg (by omega), if_neg (by omega)]]
    exact this
  have hn := hr.len
  match vs, hl, hk, hr, hn with
  | [], hl, _, _, _ =>
    exfalso
    simp only [List.length_nil] at hl
    unfold ar arity at hl
    split at hl
    · omega
    · split at hl
      · simp at hl
      · split at hl
        · simp at hl
        · split at hl
          · simp at hl
          · omega
  | [a], hl, hk, hr, hn =>
    simp only [List.length_cons, List.length_nil] at hl hn
    subst hn
    obtain ⟨b, off, rfl, hc⟩ := hr.cells1 (by omega)
    have h0 := hc 0 a rfl
    rw [Nat.zero_mul] at h0
    obtain rfl : op = 16 := by have := ar_one hl.symm; omega
    exact rapply_rest 16 a V.null V.null 1 b off c w (by omega) h0 (fun h => absurd rfl h) (fun h => by omega)
  | [a, x], hl, hk, hr, hn =>
    simp only [List.length_cons, List.length_nil] at hl hn
    subst hn
    obtain ⟨b, off, rfl, hc⟩ := hr.cells1 (by omega)
    have h0 := hc 0 a rfl
    rw [Nat.zero_mul] at h0
    have h1 := hc 1 x rfl
    rw [Nat.one_mul] at h1
    have hh : op = 14 ∨ op = 15 ∨ op = 17 := by have := ar_two hl.symm; omega
    rcases hh with rfl | rfl | rfl
    · exact rapply_logic 14 a x b off c w (by omega) h0 h1
    · exact rapply_logic 15 a x b off c w (by omega) h0 h1
    · exact rapply_rest 17 a x V.null 2 b off c w (by omega) h0 (fun _ => h1) (fun h => by omega)
  | [a, x, y], hl, _, hr, hn =>
    simp only [List.length_cons, List.length_nil] at hl hn
    subst hn
    obtain ⟨b, off, rfl, hc⟩ := hr.cells1 (by omega)
    have h0 := hc 0 a rfl
    rw [Nat.zero_mul] at h0
    have h1 := hc 1 x rfl
    rw [Nat.one_mul] at h1
    have h2 := hc 2 y rfl
    obtain rfl := ar_three hl.symm
    exact rapply_rest 18 a x y 3 b off c w (by omega) h0 (fun _ => h1) (fun _ => h2)
  | a :: x :: y :: z :: r, hl, _, _, _ => have := ar_le op; simp at hl; omega
end Go.Proofs.YtojcabnjodfdmaaDoor
