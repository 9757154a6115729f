/- Contract of the reference's strict: valid values. -/
import Derived.Test.YtojcabnjodfdmaaDoorEp
namespace Go.Proofs.YtojcabnjodfdmaaDoor
open Go.RowKit

/-- The cells of a slice of values, laid out. -/
structure Cells1 (w : World) (b off : Nat) (a : V) : Prop where
  lt : b < w.heap.size
  c0 : w.cell? ⟨b, off, none⟩ = some (.int .i64 a.k)
  c1 : w.cell? ⟨b, off + 1, none⟩ = some (.int .i64 a.n)
  c2 : w.cell? ⟨b, off + 2, none⟩ = some (.string a.s)
theorem Row.cells1 {w : World} {n : Nat} {A : Option Addr} {vs : List V} (h : Row w w.heap.size A n vs) (hn : 0 < n) : ∃ b off, A = some ⟨b, off, none⟩ ∧ ∀ k v, vs[k]? = some v → Cells1 w b (off + k * 3) v := by
  obtain ⟨b, off, v, h1, h2, _⟩ := Row.at3 h hn
  refine ⟨b, off, h1, fun k v hk => ?_⟩
  have hkn : k < n := by have := (List.getElem?_eq_some_iff.1 hk).1; have := h.len; omega
  obtain ⟨b', off', v', e1, _, e2, e3, e4, e5⟩ := Row.at3 h hkn
  rw [h1] at e1
  injection e1 with e1
  injection e1 with e6 e7
  subst e6 e7
  obtain rfl := Option.some.inj (e2.symm.trans hk)
  exact ⟨h2, e3, e4, e5⟩

set_option maxRecDepth 100000 in
set_option maxHeartbeats 1000000 in
theorem rstrict1 (op : Int) (a : V) (b off c : Nat) (w : World) (hop : op = 3 ∨ op = 9 ∨ op = 13) (ha : a.ok = true) (hc : Cells1 w b off a) : Calls Tryd.prog 89 #[.int .i64 op, .slice (some ⟨b, off, none⟩) 1 c] w fun e w' => e = .returned (.agg #[.int .i64 (strictR op a V.null).k, .int .i64 (strictR op a V.null).n, .string (strictR op a V.null).s]) ∧ Below w.heap.size w w' := by
  obtain ⟨hb, c0, c1, c2⟩ := hc
  have sa := ok_size ha
  have na := ok_bounds ha
  have hna : IntKind.i64.wrap (-a.n) = -a.n := IntWalk.i64_in _ (by omega)
  clear ha
  rcases hop with rfl | rfl | rfl
  · have HE := Lib.hid (show strictR 3 a V.null = if a.k = 1 then numV (-a.n) else V.null from rfl)
    generalize strictR 3 a V.null = r at HE
    by_cases h : a.k = 1
    · have t : (a.k == 1) = true := by simpa using h
      rw [if_pos h] at HE
      clear h
      go_enter Tryd.func89, Tryd.ntmps89
      go_wp2_with ((go_at_call 22; refine (rintN _ _).mono ?_; rintro e w1 ⟨rfl, hb1⟩; obtain ⟨hc1, hf1⟩ := bcell hb1; have hz1 := (hb1).size; (try simp at hz1); have hl10 : w.heap.size < w1.heap.size := (by omega)))
      refine bodyPost_ret (by simp [results, Tryd.results89, go_sem, *]; rfl) rfl ?_; rw [HE.out]; exact ⟨rfl, by (repeat (first | (with_reducible exact Below.refl _ _) | (with_reducible assumption) | (with_reducible refine Below.drew ?_) | (with_reducible refine below_drewN ?_ _) | ((with_reducible refine Below.setCell ?_ ?_ _); rotate_left; (focus (first | (simp; done) | (simp; omega) | omega))) | ((with_reducible refine Below.alloc ?_ ?_ _); rotate_left; (focus (first | (simp; done) | (simp; omega) | omega))) | ((with_reducible apply below_step1); (focus (with_reducible assumption)))))⟩
    · have t : (a.k == 1) = false := by simpa using h
      rw [if_neg h] at HE
      clear h
      go_enter Tryd.func89, Tryd.ntmps89
      go_wp2_with fail
      refine bodyPost_ret (by simp [results, Tryd.results89, go_sem, *]; rfl) rfl ?_; rw [HE.out]; exact ⟨rfl, by (repeat (first | (with_reducible exact Below.refl _ _) | (with_reducible assumption) | (with_reducible refine Below.drew ?_) | (with_reducible refine below_drewN ?_ _) | ((with_reducible refine Below.setCell ?_ ?_ _); rotate_left; (focus (first | (simp; done) | (simp; omega) | omega))) | ((with_reducible refine Below.alloc ?_ ?_ _); rotate_left; (focus (first | (simp; done) | (simp; omega) | omega))) | ((with_reducible apply below_step1); (focus (with_reducible assumption)))))⟩
  · have HE := Lib.hid (show strictR 9 a V.null = if a.k = 2 then numV a.s.size else V.null from rfl)
    generalize strictR 9 a V.null = r at HE
    have hsw : IntKind.i64.wrap (a.s.size : Int) = (a.s.size : Int) := IntWalk.i64_in _ (by omega)
    by_cases h : a.k = 2
    · have t : (a.k == 2) = true := by simpa using h
      rw [if_pos h] at HE
      clear h
      go_enter Tryd.func89, Tryd.ntmps89
      go_wp2_with ((go_at_call 22; refine (rintN _ _).mono ?_; rintro e w1 ⟨rfl, hb1⟩; obtain ⟨hc1, hf1⟩ := bcell hb1; have hz1 := (hb1).size; (try simp at hz1); have hl10 : w.heap.size < w1.heap.size := (by omega)))
      refine bodyPost_ret (by simp [results, Tryd.results89, go_sem, *]; rfl) rfl ?_; rw [HE.out]; exact ⟨rfl, by (repeat (first | (with_reducible exact Below.refl _ _) | (with_reducible assumption) | (with_reducible refine Below.drew ?_) | (with_reducible refine below_drewN ?_ _) | ((with_reducible refine Below.setCell ?_ ?_ _); rotate_left; (focus (first | (simp; done) | (simp; omega) | omega))) | ((with_reducible refine Below.alloc ?_ ?_ _); rotate_left; (focus (first | (simp; done) | (simp; omega) | omega))) | ((with_reducible apply below_step1); (focus (with_reducible assumption)))))⟩
    · have t : (a.k == 2) = false := by simpa using h
      rw [if_neg h] at HE
      clear h
      go_enter Tryd.func89, Tryd.ntmps89
      go_wp2_with fail
      refine bodyPost_ret (by simp [results, Tryd.results89, go_sem, *]; rfl) rfl ?_; rw [HE.out]; exact ⟨rfl, by (repeat (first | (with_reducible exact Below.refl _ _) | (with_reducible assumption) | (with_reducible refine Below.drew ?_) | (with_reducible refine below_drewN ?_ _) | ((with_reducible refine Below.setCell ?_ ?_ _); rotate_left; (focus (first | (simp; done) | (simp; omega) | omega))) | ((with_reducible refine Below.alloc ?_ ?_ _); rotate_left; (focus (first | (simp; done) | (simp; omega) | omega))) | ((with_reducible apply below_step1); (focus (with_reducible assumption)))))⟩
  · have HE := Lib.hid (show strictR 13 a V.null = if a.k = 1 then truthV (a.n == 0) else V.null from rfl)
    generalize strictR 13 a V.null = r at HE
    by_cases h : a.k = 1
    · have t : (a.k == 1) = true := by simpa using h
      rw [if_pos h] at HE
      clear h
      go_enter Tryd.func89, Tryd.ntmps89
      go_wp2_with ((go_at_call 88; refine (rbit _ _).mono ?_; rintro e w1 ⟨rfl, hb1⟩; obtain ⟨hc1, hf1⟩ := bcell hb1; have hz1 := (hb1).size; (try simp at hz1); have hl10 : w.heap.size < w1.heap.size := (by omega)))
      refine bodyPost_ret (by simp [results, Tryd.results89, go_sem, *]; rfl) rfl ?_; rw [HE.out]; exact ⟨rfl, by (repeat (first | (with_reducible exact Below.refl _ _) | (with_reducible assumption) | (with_reducible refine Below.drew ?_) | (with_reducible refine below_drewN ?_ _) | ((with_reducible refine Below.setCell ?_ ?_ _); rotate_left; (focus (first | (simp; done) | (simp; omega) | omega))) | ((with_reducible refine Below.alloc ?_ ?_ _); rotate_left; (focus (first | (simp; done) | (simp; omega) | omega))) | ((with_reducible apply below_step1); (focus (with_reducible assumption)))))⟩
    · have t : (a.k == 1) = false := by simpa using h
      rw [if_neg h] at HE
      clear h
      go_enter Tryd.func89, Tryd.ntmps89
      go_wp2_with fail
      refine bodyPost_ret (by simp [results, Tryd.results89, go_sem, *]; rfl) rfl ?_; rw [HE.out]; exact ⟨rfl, by (repeat (first | (with_reducible exact Below.refl _ _) | (with_reducible assumption) | (with_reducible refine Below.drew ?_) | (with_reducible refine below_drewN ?_ _) | ((with_reducible refine Below.setCell ?_ ?_ _); rotate_left; (focus (first | (simp; done) | (simp; omega) | omega))) | ((with_reducible refine Below.alloc ?_ ?_ _); rotate_left; (focus (first | (simp; done) | (simp; omega) | omega))) | ((with_reducible apply below_step1); (focus (with_reducible assumption)))))⟩

set_option maxRecDepth 100000 in
set_option maxHeartbeats 2000000 in
theorem rstrict_nums (op : Int) (a b : V) (B off c : Nat) (w : World) (hop : op = 4 ∨ op = 5 ∨ op = 6 ∨ op = 7) (ha : a.ok = true) (hb : b.ok = true) (hc : Cells1 w B off a) (hd : Cells1 w B (off + 3) b) : Calls Tryd.prog 89 #[.int .i64 op, .slice (some ⟨B, off, none⟩) 2 c] w fun e w' => e = .returned (.agg #[.int .i64 (strictR op a b).k, .int .i64 (strictR op a b).n, .string (strictR op a b).s]) ∧ Below w.heap.size w w' := by
  obtain ⟨hlt, c0, c1, c2⟩ := hc
  obtain ⟨_, d0, d1, d2⟩ := hd
  have na := ok_bounds ha
  have nb := ok_bounds hb
  have HE := Lib.hid (show strictR op a b = if a.k = 1 ∧ b.k = 1 then numsR op a.n b.n else V.null by rcases hop with rfl | rfl | rfl | rfl <;> rfl)
  generalize strictR op a b = r at HE
  clear ha hb
  by_cases h : a.k = 1
  · have t : (a.k == 1) = true := by simpa using h
    by_cases h2 : b.k = 1
    · have t2 : (b.k == 1) = true := by simpa using h2
      rw [if_pos ⟨h, h2⟩] at HE
      clear h h2
      rcases hop with rfl | rfl | rfl | rfl
      all_goals go_enter Tryd.func89, Tryd.ntmps89
      all_goals go_wp2_with fail
      all_goals go_region_with ((go_at_call 101; refine (rnumbers _ _ _ _ na nb).mono ?_; rintro e w1 ⟨rfl, hb1⟩; obtain ⟨hc1, hf1⟩ := bcell hb1; have hz1 := (hb1).size; (try simp at hz1); have hl10 : w.heap.size < w1.heap.size := (by omega)))
      all_goals go_wp2_with fail
      all_goals refine bodyPost_ret (by simp [results, Tryd.results89, go_sem, *]; rfl) rfl ?_
      all_goals rw [HE.out]
      all_goals exact ⟨rfl, by (repeat (first | (with_reducible exact Below.refl _ _) | (with_reducible assumption) | (with_reducible refine Below.drew ?_) | (with_reducible refine below_drewN ?_ _) | ((with_reducible refine Below.setCell ?_ ?_ _); rotate_left; (focus (first | (simp; done) | (simp; omega) | omega))) | ((with_reducible refine Below.alloc ?_ ?_ _); rotate_left; (focus (first | (simp; done) | (simp; omega) | omega))) | ((with_reducible apply below_step1); (focus (with_reducible assumption)))))⟩
    · have t2 : (b.k == 1) = false := by simpa using h2
      rw [if_neg (fun h => h2 h.2)] at HE
      clear h h2
      rcases hop with rfl | rfl | rfl | rfl
      all_goals go_enter Tryd.func89, Tryd.ntmps89
      all_goals go_wp2_with fail
      all_goals refine bodyPost_ret (by simp [results, Tryd.results89, go_sem, *]; rfl) rfl ?_
      all_goals rw [HE.out]
      all_goals exact ⟨rfl, by (repeat (first | (with_reducible exact Below.refl _ _) | (with_reducible assumption) | (with_reducible refine Below.drew ?_) | (with_reducible refine below_drewN ?_ _) | ((with_reducible refine Below.setCell ?_ ?_ _); rotate_left; (focus (first | (simp; done) | (simp; omega) | omega))) | ((with_reducible refine Below.alloc ?_ ?_ _); rotate_left; (focus (first | (simp; done) | (simp; omega) | omega))) | ((with_reducible apply below_step1); (focus (with_reducible assumption)))))⟩
  · have t : (a.k == 1) = false := by simpa using h
    rw [if_neg (fun g => h g.1)] at HE
    clear h
    rcases hop with rfl | rfl | rfl | rfl
    all_goals go_enter Tryd.func89, Tryd.ntmps89
    all_goals go_wp2_with fail
    all_goals refine bodyPost_ret (by simp [results, Tryd.results89, go_sem, *]; rfl) rfl ?_
    all_goals rw [HE.out]
    all_goals exact ⟨rfl, by (repeat (first | (with_reducible exact Below.refl _ _) | (with_reducible assumption) | (with_reducible refine Below.drew ?_) | (with_reducible refine below_drewN ?_ _) | ((with_reducible refine Below.setCell ?_ ?_ _); rotate_left; (focus (first | (simp; done) | (simp; omega) | omega))) | ((with_reducible refine Below.alloc ?_ ?_ _); rotate_left; (focus (first | (simp; done) | (simp; omega) | omega))) | ((with_reducible apply below_step1); (focus (with_reducible assumption)))))⟩
set_option maxRecDepth 100000 in
set_option maxHeartbeats 2000000 in
theorem rstrict_text (op : Int) (a b : V) (B off c : Nat) (w : World) (hop : op = 8 ∨ op = 10) (ha : a.ok = true) (hb : b.ok = true) (hc : Cells1 w B off a) (hd : Cells1 w B (off + 3) b) : Calls Tryd.prog 89 #[.int .i64 op, .slice (some ⟨B, off, none⟩) 2 c] w fun e w' => e = .returned (.agg #[.int .i64 (strictR op a b).k, .int .i64 (strictR op a b).n, .string (strictR op a b).s]) ∧ Below w.heap.size w w' := by
  obtain ⟨hlt, c0, c1, c2⟩ := hc
  obtain ⟨_, d0, d1, d2⟩ := hd
  have sa := ok_size ha
  have sb := ok_size hb
  clear ha hb
  rcases hop with rfl | rfl
  · have HE := Lib.hid (show strictR 8 a b = if a.k = 2 ∧ b.k = 2 then textR (a.s ++ b.s) else V.null from rfl)
    generalize strictR 8 a b = r at HE
    have hadd : ∀ w, (Op.stringOp .add a.s b.s).run Tryd.prog w = .ok (.string (a.s ++ b.s)) w := fun w => run_string_add_sum w _ _ (by omega)
    by_cases h : a.k = 2
    · have t : (a.k == 2) = true := by simpa using h
      by_cases h2 : b.k = 2
      · have t2 : (b.k == 2) = true := by simpa using h2
        rw [if_pos ⟨h, h2⟩] at HE
        clear h h2
        go_enter Tryd.func89, Tryd.ntmps89
        go_wp2_with fail
        go_region_with ((go_at_call 23; refine (rtextR _ _).mono ?_; rintro e w1 ⟨rfl, hb1⟩; obtain ⟨hc1, hf1⟩ := bcell hb1; have hz1 := (hb1).size; (try simp at hz1); have hl10 : w.heap.size < w1.heap.size := (by omega)))
        all_goals go_wp2_with fail
        all_goals refine bodyPost_ret (by simp [results, Tryd.results89, go_sem, *]; rfl) rfl ?_
        all_goals rw [HE.out]
        all_goals exact ⟨rfl, by (repeat (first | (with_reducible exact Below.refl _ _) | (with_reducible assumption) | (with_reducible refine Below.drew ?_) | (with_reducible refine below_drewN ?_ _) | ((with_reducible refine Below.setCell ?_ ?_ _); rotate_left; (focus (first | (simp; done) | (simp; omega) | omega))) | ((with_reducible refine Below.alloc ?_ ?_ _); rotate_left; (focus (first | (simp; done) | (simp; omega) | omega))) | ((with_reducible apply below_step1); (focus (with_reducible assumption)))))⟩
      · have t2 : (b.k == 2) = false := by simpa using h2
        rw [if_neg (fun h => h2 h.2)] at HE
        clear h h2
        go_enter Tryd.func89, Tryd.ntmps89
        go_wp2_with fail
        refine bodyPost_ret (by simp [results, Tryd.results89, go_sem, *]; rfl) rfl ?_; rw [HE.out]; exact ⟨rfl, by (repeat (first | (with_reducible exact Below.refl _ _) | (with_reducible assumption) | (with_reducible refine Below.drew ?_) | (with_reducible refine below_drewN ?_ _) | ((with_reducible refine Below.setCell ?_ ?_ _); rotate_left; (focus (first | (simp; done) | (simp; omega) | omega))) | ((with_reducible refine Below.alloc ?_ ?_ _); rotate_left; (focus (first | (simp; done) | (simp; omega) | omega))) | ((with_reducible apply below_step1); (focus (with_reducible assumption)))))⟩
    · have t : (a.k == 2) = false := by simpa using h
      rw [if_neg (fun g => h g.1)] at HE
      clear h
      go_enter Tryd.func89, Tryd.ntmps89
      go_wp2_with fail
      refine bodyPost_ret (by simp [results, Tryd.results89, go_sem, *]; rfl) rfl ?_; rw [HE.out]; exact ⟨rfl, by (repeat (first | (with_reducible exact Below.refl _ _) | (with_reducible assumption) | (with_reducible refine Below.drew ?_) | (with_reducible refine below_drewN ?_ _) | ((with_reducible refine Below.setCell ?_ ?_ _); rotate_left; (focus (first | (simp; done) | (simp; omega) | omega))) | ((with_reducible refine Below.alloc ?_ ?_ _); rotate_left; (focus (first | (simp; done) | (simp; omega) | omega))) | ((with_reducible apply below_step1); (focus (with_reducible assumption)))))⟩
  · have HE := Lib.hid (show strictR 10 a b = if a.k = 2 ∧ b.k = 1 ∧ 0 ≤ b.n then textR (a.s.extract 0 (min b.n a.s.size).toNat) else V.null from rfl)
    generalize strictR 10 a b = r at HE
    have hsw : IntKind.i64.wrap (a.s.size : Int) = (a.s.size : Int) := IntWalk.i64_in _ (by omega)
    by_cases h : a.k = 2
    · have t : (a.k == 2) = true := by simpa using h
      by_cases h2 : b.k = 1
      · have t2 : (b.k == 1) = true := by simpa using h2
        by_cases h3 : 0 ≤ b.n
        · rw [if_pos ⟨h, h2, h3⟩] at HE
          have hm0 : 0 ≤ min b.n (a.s.size : Int) := by omega
          have hm1 : min b.n (a.s.size : Int) ≤ (a.s.size : Int) := by omega
          clear h h2
          go_enter Tryd.func89, Tryd.ntmps89
          go_wp2_with fail
          go_region_with ((go_at_call 23; refine (rtextR _ _).mono ?_; rintro e w1 ⟨rfl, hb1⟩; obtain ⟨hc1, hf1⟩ := bcell hb1; have hz1 := (hb1).size; (try simp at hz1); have hl10 : w.heap.size < w1.heap.size := (by omega)))
          all_goals go_wp2_with fail
          all_goals refine bodyPost_ret (by simp [results, Tryd.results89, go_sem, *]; rfl) rfl ?_
          all_goals rw [HE.out]
          all_goals exact ⟨rfl, by (repeat (first | (with_reducible exact Below.refl _ _) | (with_reducible assumption) | (with_reducible refine Below.drew ?_) | (with_reducible refine below_drewN ?_ _) | ((with_reducible refine Below.setCell ?_ ?_ _); rotate_left; (focus (first | (simp; done) | (simp; omega) | omega))) | ((with_reducible refine Below.alloc ?_ ?_ _); rotate_left; (focus (first | (simp; done) | (simp; omega) | omega))) | ((with_reducible apply below_step1); (focus (with_reducible assumption)))))⟩
        · rw [if_neg (fun h => h3 h.2.2)] at HE
          clear h h2
          go_enter Tryd.func89, Tryd.ntmps89
          go_wp2_with fail
          refine bodyPost_ret (by simp [results, Tryd.results89, go_sem, *]; rfl) rfl ?_; rw [HE.out]; exact ⟨rfl, by (repeat (first | (with_reducible exact Below.refl _ _) | (with_reducible assumption) | (with_reducible refine Below.drew ?_) | (with_reducible refine below_drewN ?_ _) | ((with_reducible refine Below.setCell ?_ ?_ _); rotate_left; (focus (first | (simp; done) | (simp; omega) | omega))) | ((with_reducible refine Below.alloc ?_ ?_ _); rotate_left; (focus (first | (simp; done) | (simp; omega) | omega))) | ((with_reducible apply below_step1); (focus (with_reducible assumption)))))⟩
      · have t2 : (b.k == 1) = false := by simpa using h2
        rw [if_neg (fun h => h2 h.2.1)] at HE
        clear h h2
        go_enter Tryd.func89, Tryd.ntmps89
        go_wp2_with fail
        refine bodyPost_ret (by simp [results, Tryd.results89, go_sem, *]; rfl) rfl ?_; rw [HE.out]; exact ⟨rfl, by (repeat (first | (with_reducible exact Below.refl _ _) | (with_reducible assumption) | (with_reducible refine Below.drew ?_) | (with_reducible refine below_drewN ?_ _) | ((with_reducible refine Below.setCell ?_ ?_ _); rotate_left; (focus (first | (simp; done) | (simp; omega) | omega))) | ((with_reducible refine Below.alloc ?_ ?_ _); rotate_left; (focus (first | (simp; done) | (simp; omega) | omega))) | ((with_reducible apply below_step1); (focus (with_reducible assumption)))))⟩
    · have t : (a.k == 2) = false := by simpa using h
      rw [if_neg (fun g => h g.1)] at HE
      clear h
      go_enter Tryd.func89, Tryd.ntmps89
      go_wp2_with fail
      refine bodyPost_ret (by simp [results, Tryd.results89, go_sem, *]; rfl) rfl ?_; rw [HE.out]; exact ⟨rfl, by (repeat (first | (with_reducible exact Below.refl _ _) | (with_reducible assumption) | (with_reducible refine Below.drew ?_) | (with_reducible refine below_drewN ?_ _) | ((with_reducible refine Below.setCell ?_ ?_ _); rotate_left; (focus (first | (simp; done) | (simp; omega) | omega))) | ((with_reducible refine Below.alloc ?_ ?_ _); rotate_left; (focus (first | (simp; done) | (simp; omega) | omega))) | ((with_reducible apply below_step1); (focus (with_reducible assumption)))))⟩
set_option maxRecDepth 100000 in
set_option maxHeartbeats 2000000 in
theorem rstrict_comp (op : Int) (a b : V) (B off c : Nat) (w : World) (hop : op = 11 ∨ op = 12) (hc : Cells1 w B off a) (hd : Cells1 w B (off + 3) b) : Calls Tryd.prog 89 #[.int .i64 op, .slice (some ⟨B, off, none⟩) 2 c] w fun e w' => e = .returned (.agg #[.int .i64 (strictR op a b).k, .int .i64 (strictR op a b).n, .string (strictR op a b).s]) ∧ Below w.heap.size w w' := by
  obtain ⟨hlt, c0, c1, c2⟩ := hc
  obtain ⟨_, d0, d1, d2⟩ := hd
  rcases hop with rfl | rfl
  · have HE := Lib.hid (show strictR 11 a b = if a.k = b.k then truthV (a.beq b) else V.null from rfl)
    generalize strictR 11 a b = r at HE
    have he := run_eqV a.k a.n a.s b.k b.n b.s
    rw [show eqB a.k a.n a.s b.k b.n b.s = a.beq b from rfl] at he
    generalize a.beq b = q at he HE
    by_cases h : a.k = b.k
    · have t : (a.k == b.k) = true := by simpa using h
      rw [if_pos h] at HE
      clear h
      go_enter Tryd.func89, Tryd.ntmps89
      go_wp2_with fail
      go_quiet (fail)
      go_wp2_with fail
      go_region_with ((go_at_call 88; refine (rbit _ _).mono ?_; rintro e w1 ⟨rfl, hb1⟩; obtain ⟨hc1, hf1⟩ := bcell hb1; have hz1 := (hb1).size; (try simp at hz1); have hl10 : w.heap.size < w1.heap.size := (by omega)))
      all_goals go_wp2_with fail
      all_goals refine bodyPost_ret (by simp [results, Tryd.results89, go_sem, *]; rfl) rfl ?_
      all_goals rw [HE.out]
      all_goals exact ⟨rfl, by (repeat (first | (with_reducible exact Below.refl _ _) | (with_reducible assumption) | (with_reducible refine Below.drew ?_) | (with_reducible refine below_drewN ?_ _) | ((with_reducible refine Below.setCell ?_ ?_ _); rotate_left; (focus (first | (simp; done) | (simp; omega) | omega))) | ((with_reducible refine Below.alloc ?_ ?_ _); rotate_left; (focus (first | (simp; done) | (simp; omega) | omega))) | ((with_reducible apply below_step1); (focus (with_reducible assumption)))))⟩
    · have t : (a.k == b.k) = false := by simpa using h
      rw [if_neg h] at HE
      clear h
      go_enter Tryd.func89, Tryd.ntmps89
      go_wp2_with fail
      go_quiet (fail)
      go_wp2_with fail
      refine bodyPost_ret (by simp [results, Tryd.results89, go_sem, *]; rfl) rfl ?_; rw [HE.out]; exact ⟨rfl, by (repeat (first | (with_reducible exact Below.refl _ _) | (with_reducible assumption) | (with_reducible refine Below.drew ?_) | (with_reducible refine below_drewN ?_ _) | ((with_reducible refine Below.setCell ?_ ?_ _); rotate_left; (focus (first | (simp; done) | (simp; omega) | omega))) | ((with_reducible refine Below.alloc ?_ ?_ _); rotate_left; (focus (first | (simp; done) | (simp; omega) | omega))) | ((with_reducible apply below_step1); (focus (with_reducible assumption)))))⟩
  · have HE := Lib.hid (show strictR 12 a b = if a.k = b.k then truthV (decide (cmpV a b < 0)) else V.null from rfl)
    generalize strictR 12 a b = r at HE
    have hcm := rcompare a b
    generalize cmpV a b = q at hcm HE
    by_cases h : a.k = b.k
    · have t : (a.k == b.k) = true := by simpa using h
      rw [if_pos h] at HE
      clear h
      go_enter Tryd.func89, Tryd.ntmps89
      go_wp2_with fail
      go_quiet (fail)
      go_wp2_with fail
      go_region_with (first | (go_at_call 102; refine (hcm _).mono ?_; rintro e w1 ⟨rfl, hb1⟩; obtain ⟨hc1, hf1⟩ := bcell hb1; have hz1 := (hb1).size; (try simp at hz1); have hl10 : w.heap.size < w1.heap.size := (by omega)) | (go_at_call 88; refine (rbit _ _).mono ?_; rintro e w2 ⟨rfl, hb2⟩; obtain ⟨hc2, hf2⟩ := bcell hb2; have hz2 := (hb2).size; (try simp at hz2); have hl20 : w.heap.size < w2.heap.size := (by omega)))
      all_goals go_wp2_with fail
      all_goals refine bodyPost_ret (by simp [results, Tryd.results89, go_sem, *]; rfl) rfl ?_
      all_goals rw [HE.out]
      all_goals exact ⟨rfl, by (repeat (first | (with_reducible exact Below.refl _ _) | (with_reducible assumption) | (with_reducible refine Below.drew ?_) | (with_reducible refine below_drewN ?_ _) | ((with_reducible refine Below.setCell ?_ ?_ _); rotate_left; (focus (first | (simp; done) | (simp; omega) | omega))) | ((with_reducible refine Below.alloc ?_ ?_ _); rotate_left; (focus (first | (simp; done) | (simp; omega) | omega))) | ((with_reducible apply below_step1); (focus (with_reducible assumption)))))⟩
    · have t : (a.k == b.k) = false := by simpa using h
      rw [if_neg h] at HE
      clear h
      go_enter Tryd.func89, Tryd.ntmps89
      go_wp2_with fail
      go_quiet (fail)
      go_wp2_with fail
      refine bodyPost_ret (by simp [results, Tryd.results89, go_sem, *]; rfl) rfl ?_; rw [HE.out]; exact ⟨rfl, by (repeat (first | (with_reducible exact Below.refl _ _) | (with_reducible assumption) | (with_reducible refine Below.drew ?_) | (with_reducible refine below_drewN ?_ _) | ((with_reducible refine Below.setCell ?_ ?_ _); rotate_left; (focus (first | (simp; done) | (simp; omega) | omega))) | ((with_reducible refine Below.alloc ?_ ?_ _); rotate_left; (focus (first | (simp; done) | (simp; omega) | omega))) | ((with_reducible apply below_step1); (focus (with_reducible assumption)))))⟩
end Go.Proofs.YtojcabnjodfdmaaDoor
