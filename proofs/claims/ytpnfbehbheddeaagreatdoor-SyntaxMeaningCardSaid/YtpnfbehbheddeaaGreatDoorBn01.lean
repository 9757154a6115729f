/- Contracts of the tape's Next: whatever the tape holds, a number from 0 to n - 1 comes back and only the tape's own block has changed. n is below 2^40, the tape has fewer than 2^44 numbers. Contracts of the tape's Text, Int and Value: a valid value comes back, and only the tape's own block has changed. What the expressions of layer 3 are, in plain Lean: terms, trees, the text of a tree as a list of terms, reading a tree. No program in sight, no condition. -/
import Derived.Test.YtpnfbehbheddeaaGreatDoorBn00
import Derived.Lib.ItoaNum
import Derived.Lib.ItoaLen
import Derived.Deep.RegionWith
import Derived.Test.YtpnfbehbheddeaaGreatDoorShelf
import Derived.Lib.LaidTab
import Derived.Lib.AppendIntMem
namespace Go.Proofs.YtpnfbehbheddeaaGreatDoor
set_option maxRecDepth 100000
set_option maxHeartbeats 8000000
set_option linter.unusedVariables false
set_option linter.unusedSimpArgs false
open Go.RowKit
structure Tp (w : World) (b g : Nat) : Prop where
  ne : b ≠ g
  lt : b < w.heap.size
  ltg : g < w.heap.size
  ex : ∃ (A : Option Addr) (n c a off : Nat), w.heap[b]? = some (.cells #[.slice A n c, .int .i64 (a : Int)] 45 (0, 0)) ∧ n ≤ 17592186044416 ∧ a ≤ 4 * n ∧ (0 < n → A = some ⟨g, off, none⟩ ∧ ∀ j, j < n → ∃ z : Int, w.cell? ⟨g, off + j, none⟩ = some (.int .i64 z))
theorem Tp.grown {w w' : World} {b g : Nat} {row : Option Nat} (h : Tp w b g) (hg : w.grownBy w' row) (h1 : row ≠ some b) (h2 : row ≠ some g) : Tp w' b g := by
  obtain ⟨hne, hlt, hltg, A, n, c, a, off, e1, e2, e3, e4⟩ := h
  refine ⟨hne, Nat.lt_of_lt_of_le hlt hg.size, Nat.lt_of_lt_of_le hltg hg.size, A, n, c, a, off, (hg.block b hlt (Ne.symm h1)).trans e1, e2, e3, fun hn => ⟨(e4 hn).1, fun j hj => ?_⟩⟩
  obtain ⟨z, hz⟩ := (e4 hn).2 j hj
  exact ⟨z, (World.cell?_of_block (hg.block g hltg (Ne.symm h2))).trans hz⟩
theorem Tp.below {w w' : World} {b g B : Nat} (h : Tp w b g) (hb : Below B w w') (h1 : b < B) (h2 : g < B) : Tp w' b g := by
  obtain ⟨hne, hlt, hltg, A, n, c, a, off, e1, e2, e3, e4⟩ := h
  refine ⟨hne, Nat.lt_of_lt_of_le hlt hb.size, Nat.lt_of_lt_of_le hltg hb.size, A, n, c, a, off, (hb.block b h1).trans e1, e2, e3, fun hn => ⟨(e4 hn).1, fun j hj => ?_⟩⟩
  obtain ⟨z, hz⟩ := (e4 hn).2 j hj
  exact ⟨z, (World.cell?_of_block (hb.block g h2)).trans hz⟩
theorem Tp.alloc {w : World} {b g : Nat} (h : Tp w b g) (o : Obj) : Tp (w.alloc o) b g :=
  h.below ((Below.refl w.heap.size w).alloc (Nat.le_refl _) o) h.lt h.ltg
theorem blk_rules {w : World} {b : Nat} {cs : Array Value} {t : TypeId} (h : w.heap[b]? = some (.cells cs t (0, 0))) : (∀ i, w.cell? ⟨b, i, none⟩ = cs[i]?) ∧ (∀ i, w.frozen? ⟨b, i, none⟩ = false) :=
  ⟨fun i => cell_of_row w b i cs t (0, 0) h, fun i => by simp [World.frozen?, h]⟩
def NextPost (w : World) (b g : Nat) (n : Int) (e : Ending) (w' : World) : Prop :=
  ∃ r : Nat, e = .returned (.int .i64 (r : Int)) ∧ (r : Int) < max n 1 ∧ Tp w' b g ∧ w.grownBy w' (some b) ∧ w'.heap.size = w.heap.size
theorem grown_refl (w : World) (r : Option Nat) : w.grownBy w r := ⟨rfl, rfl, rfl, Nat.le_refl _, fun _ _ _ => rfl⟩
theorem grown_drewN (w : World) (r : Option Nat) (k : Nat) : w.grownBy (w.drewN k) r := ⟨rfl, rfl, rfl, Nat.le_refl _, fun _ _ _ => rfl⟩
theorem Tp.drewN {w : World} {b g : Nat} (h : Tp w b g) (k : Nat) : Tp (w.drewN k) b g := ⟨h.ne, h.lt, h.ltg, h.ex⟩
theorem next_num (X n : Int) (h2 : 2 ≤ n) (hn : n ≤ 1099511627776) : ∃ r : Nat, (wrap64 (X.tmod n + n)).tmod n = (r : Int) ∧ (r : Int) < n := by
  have h3 := Int.tmod_lt_of_pos X (show 0 < n by omega)
  have h4 := Int.lt_tmod_of_pos X (show 0 < n by omega)
  rw [IntWalk.wrap64_in _ ⟨by omega, by omega⟩, Int.tmod_eq_emod_of_nonneg (by omega)]
  have h5 := Int.emod_nonneg (X.tmod n + n) (show n ≠ 0 by omega)
  have h6 := Int.emod_lt_of_pos (X.tmod n + n) (show 0 < n by omega)
  obtain ⟨r, hr⟩ := Int.eq_ofNat_of_zero_le h5
  exact ⟨r, hr, by omega⟩
theorem next_end {w : World} {b g l c a off : Nat} {A : Option Addr} (hne : b ≠ g) (hlt : b < w.heap.size) (hltg : g < w.heap.size) (e1 : w.heap[b]? = some (.cells #[.slice A l c, .int .i64 (a : Int)] 45 (0, 0))) (e2 : l ≤ 17592186044416) (ha : a + 1 ≤ 4 * l)
    (e4 : 0 < l → A = some ⟨g, off, none⟩ ∧ ∀ j, j < l → ∃ z : Int, w.cell? ⟨g, off + j, none⟩ = some (.int .i64 z)) (k : Nat) (n X : Int) (h2 : 2 ≤ n) (hn : n ≤ 1099511627776) :
    NextPost w b g n (.returned (.int .i64 ((wrap64 (X.tmod n + n)).tmod n))) ((w.drewN k).setCell ⟨b, 1, none⟩ (.int .i64 ((a : Int) + 1))) := by
  obtain ⟨r, hr, hr2⟩ := next_num X n h2 hn
  have hz : ((w.drewN k).setCell ⟨b, 1, none⟩ (.int .i64 ((a : Int) + 1))).heap.size = w.heap.size := by simp [World.setCell]
  refine ⟨r, by rw [hr], by omega, ⟨hne, by rw [hz]; exact hlt, by rw [hz]; exact hltg, A, l, c, a + 1, off, ?_, e2, ha, fun hl => ⟨(e4 hl).1, fun j hj => ?_⟩⟩, ⟨rfl, rfl, rfl, by rw [hz]; exact Nat.le_refl _, fun i hi hni => ?_⟩, hz⟩
  · have e1' : (w.drewN k).heap[b]? = some (.cells #[.slice A l c, .int .i64 (a : Int)] 45 (0, 0)) := e1
    simp only [World.setCell, Array.getElem?_modify, e1']
    simp
  · obtain ⟨z, hz⟩ := (e4 hl).2 j hj
    exact ⟨z, (World.cell?_setCell_other (w.drewN k) ⟨b, 1, none⟩ ⟨g, off + j, none⟩ _ (fun e => hne (congrArg Addr.block e))).trans hz⟩
  · exact Below.heap_setCell (w.drewN k) ⟨b, 1, none⟩ _ i (fun e => hni (by rw [e]))
theorem next_c (b g : Nat) (n : Int) (w : World) (hn : n ≤ 1099511627776) (h : Tp w b g) : Calls Tryz.prog 16 #[.pointer (some ⟨b, 0, none⟩), .int .i64 n] w (NextPost w b g n) := by
  have HT := Lib.hid h
  obtain ⟨hne, hlt, hltg, A, l, c, a, off, e1, e2, e3, e4⟩ := h
  obtain ⟨hc, hf⟩ := blk_rules e1
  have c0 : w.cell? ⟨b, 0, none⟩ = some (.slice A l c) := hc 0
  have c1 : w.cell? ⟨b, 1, none⟩ = some (.int .i64 (a : Int)) := hc 1
  have f1 := hf 1
  clear hc hf
  have E1 := Lib.hid e1
  have E4 := Lib.hid e4
  clear e1 e4
  by_cases h2 : n < 2
  · have t0 : decide (n < 2) = true := by simpa using h2
    go_enter Tryz.func16, Tryz.ntmps16
    go_wp2_with fail
    go_quiet (fail)
    go_wp2
    go_ret
    exact ⟨0, rfl, by omega, HT.out.drewN _, grown_drewN _ _ _, rfl⟩
  · have t0 : decide (n < 2) = false := by simpa using h2
    by_cases hl : l = 0
    · have t1 : ((l : Int) == 0) = true := by simpa using hl
      clear hl
      go_enter Tryz.func16, Tryz.ntmps16
      go_wp2_with fail
      go_quiet (fail)
      go_wp2
      go_ret
      exact ⟨0, rfl, by omega, HT.out.drewN _, grown_drewN _ _ _, rfl⟩
    · have t1 : ((l : Int) == 0) = false := by simpa using hl
      have e0 : IntKind.i64.wrap (4 * (l : Int)) = 4 * (l : Int) := IntWalk.i64_in _ (by omega)
      by_cases ha : 4 * l ≤ a
      · have t2 : 4 * (l : Int) ≤ (a : Int) := by omega
        have t3 : decide (4 * (l : Int) ≤ (a : Int)) = true := by simpa using t2
        go_enter Tryz.func16, Tryz.ntmps16
        go_wp2_with fail
        go_quiet (fail)
        go_wp2
        go_ret
        exact ⟨0, rfl, by omega, HT.out.drewN _, grown_drewN _ _ _, rfl⟩
      · have t2 : ¬ 4 * (l : Int) ≤ (a : Int) := by omega
        have t3 : decide (4 * (l : Int) ≤ (a : Int)) = false := by simpa using t2
        have hl1 : 1 ≤ l := by omega
        obtain ⟨hA, hz⟩ := E4.out (by omega)
        obtain ⟨q, hq⟩ : ∃ q, a / l = q := ⟨_, rfl⟩
        obtain ⟨r, hr⟩ : ∃ r, a % l = r := ⟨_, rfl⟩
        have hq4 : q < 4 := by rw [← hq]; exact (Nat.div_lt_iff_lt_mul (by omega)).2 (by omega)
        have hrl : r < l := by rw [← hr]; exact Nat.mod_lt _ (by omega)
        obtain ⟨z, hz⟩ := hz r hrl
        obtain rfl := hA
        have m0 : (a : Int).tmod (l : Int) = (r : Int) := by rw [Int.tmod_eq_emod_of_nonneg (by omega), ← hr, Int.natCast_emod]
        have d0 : (a : Int).tdiv (l : Int) = (q : Int) := by rw [Int.tdiv_eq_ediv_of_nonneg (by omega), ← hq, Int.natCast_ediv]
        clear hq hr
        have b0 : (0 : Int) ≤ (r : Int) := by omega
        have b1 : (r : Int) < (l : Int) := by omega
        have w0 : IntKind.i64.wrap (r : Int) = (r : Int) := IntWalk.i64_in _ (by omega)
        have w1 : IntKind.i64.wrap (q : Int) = (q : Int) := IntWalk.i64_in _ (by omega)
        have w2 : (0 : Int) ≤ (q : Int) := by omega
        have z0 : ((l : Int) == 0) = false := t1
        go_enter Tryz.func16, Tryz.ntmps16
        go_wp2_with fail
        go_quiet (fail)
        go_wp2_with fail
        go_quiet (fail)
        go_wp2_with fail
        go_quiet (fail)
        obtain rfl | rfl | rfl | rfl : q = 0 ∨ q = 1 ∨ q = 2 ∨ q = 3 := by omega
        all_goals go_wp2_with fail
        all_goals go_ret
        all_goals exact next_end hne hlt hltg E1.out e2 (by omega) (fun h => ⟨rfl, (E4.out h).2⟩) _ n _ (by omega) hn
def ValPost (w : World) (b g : Nat) (e : Ending) (w' : World) : Prop :=
  ∃ v : V, e = .returned (.agg #[.int .i64 v.k, .int .i64 v.n, .string v.s]) ∧ v.ok = true ∧ Tp w' b g ∧ w.grownBy w' (some b)
theorem grown_trans {a b c : World} {r : Option Nat} (h : a.grownBy b r) (k : b.grownBy c r) : a.grownBy c r := grown_two h (.inl rfl) (Nat.le_refl _) k
theorem grown_of_below {a w : World} (h : Below a.heap.size a w) (r : Option Nat) : a.grownBy w r := ⟨h.os, h.tape, h.output, h.size, fun i hi _ => h.block i hi⟩
theorem only_drew {a w : World} {row : Option Nat} (h : a.grownBy w row) : a.grownBy w.drew row := ⟨h.os, h.tape, h.output, h.size, h.block⟩
theorem only_drewN {a w : World} {row : Option Nat} (h : a.grownBy w row) (n : Nat) : a.grownBy (w.drewN n) row := ⟨h.os, h.tape, h.output, h.size, h.block⟩
theorem only_alloc {a w : World} {row : Option Nat} (h : a.grownBy w row) (o : Obj) : a.grownBy (w.alloc o) row :=
  ⟨h.os, h.tape, h.output, Nat.le_trans h.size (by simp), fun i hi hne => (Below.heap_alloc w o i (Nat.lt_of_lt_of_le hi h.size)).trans (h.block i hi hne)⟩
theorem only_setCell {a w : World} {g : Nat} {p : Addr} (h : a.grownBy w (some g)) (hp : p.block = g ∨ a.heap.size ≤ p.block) (u : Value) : a.grownBy (w.setCell p u) (some g) :=
  ⟨h.os, h.tape, h.output, by simpa [World.setCell] using h.size, fun i hi hne => (Below.heap_setCell w p u i (by
    rintro rfl
    rcases hp with hp | hp
    · exact hne (by rw [hp])
    · omega)).trans (h.block i hi hne)⟩
theorem only_step {a W w1 : World} {row : Option Nat} (hb : Below W.heap.size W w1) (h : a.grownBy W row) : a.grownBy w1 row := grown_trans h (grown_of_below hb row)
theorem only_trans {a W w1 : World} {row : Option Nat} (hb : W.grownBy w1 row) (h : a.grownBy W row) : a.grownBy w1 row := grown_trans h hb
theorem Tp.drew {w : World} {b g : Nat} (h : Tp w b g) : Tp w.drew b g := ⟨h.ne, h.lt, h.ltg, h.ex⟩
theorem Tp.step {W w1 : World} {b g : Nat} (hb : Below W.heap.size W w1) (h : Tp W b g) : Tp w1 b g := h.below hb h.lt h.ltg
theorem Tp.setFar {w : World} {b g : Nat} {p : Addr} (h : Tp w b g) (h1 : p.block ≠ b) (h2 : p.block ≠ g) (u : Value) : Tp (w.setCell p u) b g :=
  h.grown (row := some p.block) ⟨rfl, rfl, rfl, by simp [World.setCell], fun i _ hne => Below.heap_setCell w p u i (fun e => hne (by rw [e]))⟩ (fun e => h1 (by injection e)) (fun e => h2 (by injection e))
theorem heap_two (w : World) (o o' : Obj) : ((w.alloc o).alloc o').heap[w.heap.size + 1]? = some o' := by
  have := heap_alloc_new (w.alloc o) o'
  rwa [show (w.alloc o).heap.size = w.heap.size + 1 by simp] at this
theorem heap_one (w : World) (o o' : Obj) : ((w.alloc o).alloc o').heap[w.heap.size]? = some o := by
  rw [Below.heap_alloc _ _ _ (by simp)]
  exact heap_alloc_new w o
def isStr : Value → Bool | .string _ => true | _ => false
theorem strs_at (cs : Array Value) (h : cs.toList.all isStr = true) (r : Nat) (hr : r < cs.size) : ∃ s, cs[r]? = some (.string s) := by
  have h1 := List.all_eq_true.1 h cs[r] (by simp)
  have h2 : cs[r]? = some cs[r] := Array.getElem?_eq_getElem hr
  cases hv : cs[r] with
  | string s => exact ⟨s, by rw [h2, hv]⟩
  | _ => rw [hv] at h1; cases h1
def isI64 : Value → Bool | .int .i64 _ => true | _ => false
theorem ints_at' (cs : Array Value) (h : cs.toList.all isI64 = true) (r : Nat) (hr : r < cs.size) : ∃ n, cs[r]? = some (.int .i64 n) := by
  have h1 := List.all_eq_true.1 h cs[r] (by simp)
  have h2 : cs[r]? = some cs[r] := Array.getElem?_eq_getElem hr
  cases hv : cs[r] with
  | int k n =>
    cases k <;> first | (exfalso; rw [hv] at h1; cases h1; done) | exact ⟨n, by rw [h2, hv]⟩
  | _ => rw [hv] at h1; cases h1
theorem strs_cell {w : World} {b : Nat} {cs : Array Value} (hc : ∀ i, w.cell? ⟨b, i, none⟩ = cs[i]?) (h : cs.toList.all isStr = true) (r : Nat) (hr : r < cs.size) : ∃ s, w.cell? ⟨b, r, none⟩ = some (.string s) := by
  obtain ⟨s, hs⟩ := strs_at cs h r hr
  exact ⟨s, (hc r).trans hs⟩
theorem ints_cell {w : World} {b : Nat} {cs : Array Value} (hc : ∀ i, w.cell? ⟨b, i, none⟩ = cs[i]?) (h : cs.toList.all isI64 = true) (r : Nat) (hr : r < cs.size) : ∃ n, w.cell? ⟨b, r, none⟩ = some (.int .i64 n) := by
  obtain ⟨s, hs⟩ := ints_at' cs h r hr
  exact ⟨s, (hc r).trans hs⟩
theorem rtext (s : ByteArray) (w : World) : Calls Tryz.prog 94 #[.string s] w fun e w' => e = .returned (.agg #[.int .i64 ((V.mk 2 0 s).cl).k, .int .i64 ((V.mk 2 0 s).cl).n, .string ((V.mk 2 0 s).cl).s]) ∧ Below w.heap.size w w' := by
  go_enter Tryz.func94, Tryz.ntmps94
  go_wp2_with (go_at_call 155; refine (rclean ⟨2, 0, s⟩ _).mono ?_; rintro e w1 ⟨rfl, hb1⟩; obtain ⟨hc1, hf1⟩ := bcell hb1; have hz1 := (hb1).size; try simp at hz1)
  refine bodyPost_ret (by simp [results, Tryz.results94, go_sem, hc1]; rfl) rfl ?_
  exact ⟨rfl, by (exact belQ)⟩
theorem rint (n : Int) (w : World) : Calls Tryz.prog 95 #[.int .i64 n] w fun e w' => e = .returned (.agg #[.int .i64 ((V.mk 1 n ⟨#[]⟩).cl).k, .int .i64 ((V.mk 1 n ⟨#[]⟩).cl).n, .string ((V.mk 1 n ⟨#[]⟩).cl).s]) ∧ Below w.heap.size w w' := by
  go_enter Tryz.func95, Tryz.ntmps95
  go_wp2_with (go_at_call 155; refine (rclean ⟨1, n, ⟨#[]⟩⟩ _).mono ?_; rintro e w1 ⟨rfl, hb1⟩; obtain ⟨hc1, hf1⟩ := bcell hb1; have hz1 := (hb1).size; try simp at hz1)
  refine bodyPost_ret (by simp [results, Tryz.results95, go_sem, hc1]; rfl) rfl ?_
  exact ⟨rfl, by (exact belQ)⟩
theorem ttext (b g : Nat) (w : World) (h : Tp w b g) : Calls Tryz.prog 51 #[.pointer (some ⟨b, 0, none⟩)] w (ValPost w b g) := by
  have HT := Lib.hid h
  have hlt := h.lt
  have hltg := h.ltg
  go_enter Tryz.func51, Tryz.ntmps51
  go_wp2_with fail
  refine (next_c b g 10 _ (by omega) ((HT.out.alloc _).alloc _)).mono ?_
  rintro e w1 ⟨r, rfl, hr, ht1, hg1, hz1⟩
  have q1 := (hg1.block (w.heap.size + 1) (by simp) (by simp; omega)).trans (heap_two _ _ _)
  have q0 := (hg1.block w.heap.size (by simp; omega) (by simp; omega)).trans (heap_one _ _ _)
  obtain ⟨c1, f1⟩ := blk_rules q1
  obtain ⟨c0, f0⟩ := blk_rules q0
  obtain ⟨s, cs1⟩ := strs_cell c1 rfl r (show r < 10 by omega)
  have c00 := c0 0
  have c01 := c0 1
  have c02 := c0 2
  have f00 := f0 0
  have f01 := f0 1
  have f02 := f0 2
  have hz : w.heap.size < w1.heap.size := by rw [hz1]; simp; omega
  have hr0 : (0 : Int) ≤ (r : Int) := by omega
  have hr10 : (r : Int) < 10 := by omega
  clear c1 f1 c0 f0 q0 q1 hr hz1
  go_wp2_with (go_at_call 94; refine (rtext s _).mono ?_; rintro e w2 ⟨rfl, hb2⟩; obtain ⟨hc2, hf2⟩ := bcell hb2; have hz2 := (hb2).size; try simp at hz2)
  refine bodyPost_ret (by simp [results, Tryz.results51, go_sem, hc2, hz, c00, c01, c02]; rfl) rfl ?_
  refine ⟨_, rfl, V.cl_ok _, ?_, ?_⟩
  · (repeat (first | (with_reducible assumption) | (with_reducible refine Tp.drew ?_) | (with_reducible refine Tp.drewN ?_ _) | (with_reducible refine Tp.alloc ?_ _) | ((with_reducible refine Tp.setFar ?_ ?_ ?_ _); rotate_left; (focus (first | (simp; done) | (simp; omega) | omega)); (focus (first | (simp; done) | (simp; omega) | omega))) | ((with_reducible apply Tp.step); (focus (with_reducible assumption)))))
  · (repeat (first | (with_reducible exact grown_refl _ _) | (with_reducible assumption) | (with_reducible refine only_drew ?_) | (with_reducible refine only_drewN ?_ _) | ((with_reducible refine only_setCell ?_ ?_ _); rotate_left; (focus (first | (simp; done) | (simp; omega) | omega | (right; simp; done) | (right; simp; omega) | (right; omega)))) | (with_reducible refine only_alloc ?_ _) | ((with_reducible apply only_step); (focus (with_reducible assumption))) | ((with_reducible apply only_trans); (focus (with_reducible assumption)))))
theorem tint (b g : Nat) (w : World) (h : Tp w b g) : Calls Tryz.prog 52 #[.pointer (some ⟨b, 0, none⟩)] w (ValPost w b g) := by
  have HT := Lib.hid h
  have hlt := h.lt
  have hltg := h.ltg
  go_enter Tryz.func52, Tryz.ntmps52
  go_wp2_with fail
  refine (next_c b g 12 _ (by omega) ((HT.out.alloc _).alloc _)).mono ?_
  rintro e w1 ⟨r, rfl, hr, ht1, hg1, hz1⟩
  have q1 := (hg1.block (w.heap.size + 1) (by simp) (by simp; omega)).trans (heap_two _ _ _)
  have q0 := (hg1.block w.heap.size (by simp; omega) (by simp; omega)).trans (heap_one _ _ _)
  obtain ⟨c1, f1⟩ := blk_rules q1
  obtain ⟨c0, f0⟩ := blk_rules q0
  obtain ⟨s, cs1⟩ := ints_cell c1 rfl r (show r < 12 by omega)
  have c00 := c0 0
  have c01 := c0 1
  have c02 := c0 2
  have f00 := f0 0
  have f01 := f0 1
  have f02 := f0 2
  have hz : w.heap.size < w1.heap.size := by rw [hz1]; simp; omega
  have hr0 : (0 : Int) ≤ (r : Int) := by omega
  have hr12 : (r : Int) < 12 := by omega
  clear c1 f1 c0 f0 q0 q1 hr hz1
  go_wp2_with (go_at_call 95; refine (rint s _).mono ?_; rintro e w2 ⟨rfl, hb2⟩; obtain ⟨hc2, hf2⟩ := bcell hb2; have hz2 := (hb2).size; try simp at hz2)
  refine bodyPost_ret (by simp [results, Tryz.results52, go_sem, hc2, hz, c00, c01, c02]; rfl) rfl ?_
  refine ⟨_, rfl, V.cl_ok _, ?_, ?_⟩
  · (repeat (first | (with_reducible assumption) | (with_reducible refine Tp.drew ?_) | (with_reducible refine Tp.drewN ?_ _) | (with_reducible refine Tp.alloc ?_ _) | ((with_reducible refine Tp.setFar ?_ ?_ ?_ _); rotate_left; (focus (first | (simp; done) | (simp; omega) | omega)); (focus (first | (simp; done) | (simp; omega) | omega))) | ((with_reducible apply Tp.step); (focus (with_reducible assumption)))))
  · (repeat (first | (with_reducible exact grown_refl _ _) | (with_reducible assumption) | (with_reducible refine only_drew ?_) | (with_reducible refine only_drewN ?_ _) | ((with_reducible refine only_setCell ?_ ?_ _); rotate_left; (focus (first | (simp; done) | (simp; omega) | omega | (right; simp; done) | (right; simp; omega) | (right; omega)))) | (with_reducible refine only_alloc ?_ _) | ((with_reducible apply only_step); (focus (with_reducible assumption))) | ((with_reducible apply only_trans); (focus (with_reducible assumption)))))
theorem tvalue (b g : Nat) (w : World) (h : Tp w b g) : Calls Tryz.prog 24 #[.pointer (some ⟨b, 0, none⟩)] w (ValPost w b g) := by
  have HT := Lib.hid h
  have hlt := h.lt
  have hltg := h.ltg
  go_enter Tryz.func24, Tryz.ntmps24
  go_wp2_with fail
  refine (next_c b g 5 _ (by omega) (HT.out.alloc _)).mono ?_
  rintro e w1 ⟨r, rfl, hr, ht1, hg1, hz1⟩
  have q0 := (hg1.block w.heap.size (by simp) (by simp; omega)).trans (heap_alloc_new _ _)
  obtain ⟨c0, f0⟩ := blk_rules q0
  have c00 := c0 0
  have c01 := c0 1
  have c02 := c0 2
  have f00 := f0 0
  have f01 := f0 1
  have f02 := f0 2
  have hz : w.heap.size < w1.heap.size := by rw [hz1]; simp
  clear c0 f0 q0 hz1
  have fin : ∀ (v : V) (w2 : World), v.ok = true → Tp w2 b g → w1.grownBy w2 (some b) → Tp (((w2.setCell ⟨w.heap.size, 0, none⟩ (.int .i64 v.k)).setCell ⟨w.heap.size, 1, none⟩ (.int .i64 v.n)).setCell ⟨w.heap.size, 2, none⟩ (.string v.s)) b g ∧ w.grownBy (((w2.setCell ⟨w.heap.size, 0, none⟩ (.int .i64 v.k)).setCell ⟨w.heap.size, 1, none⟩ (.int .i64 v.n)).setCell ⟨w.heap.size, 2, none⟩ (.string v.s)) (some b) := by
    intro v w2 _ ht2 hg2
    exact ⟨by (repeat (first | (with_reducible assumption) | (with_reducible refine Tp.drew ?_) | (with_reducible refine Tp.drewN ?_ _) | (with_reducible refine Tp.alloc ?_ _) | ((with_reducible refine Tp.setFar ?_ ?_ ?_ _); rotate_left; (focus (first | (simp; done) | (simp; omega) | omega)); (focus (first | (simp; done) | (simp; omega) | omega))) | ((with_reducible apply Tp.step); (focus (with_reducible assumption))))), by (repeat (first | (with_reducible exact grown_refl _ _) | (with_reducible assumption) | (with_reducible refine only_drew ?_) | (with_reducible refine only_drewN ?_ _) | ((with_reducible refine only_setCell ?_ ?_ _); rotate_left; (focus (first | (simp; done) | (simp; omega) | omega | (right; simp; done) | (right; simp; omega) | (right; omega)))) | (with_reducible refine only_alloc ?_ _) | ((with_reducible apply only_step); (focus (with_reducible assumption))) | ((with_reducible apply only_trans); (focus (with_reducible assumption)))))⟩
  have FIN := Lib.hid fin
  clear fin
  by_cases d0 : r = 0
  · have t0 : ((r : Int) == 0) = true := by simpa using d0
    clear d0
    go_wp2_with fail
    refine bodyPost_ret (by simp [results, Tryz.results24, go_sem, c00, c01, c02]; rfl) rfl ?_
    obtain ⟨h1, h2⟩ := FIN.out V.null w1 V.null_ok ht1 (grown_refl _ _)
    exact ⟨V.null, rfl, V.null_ok, h1, h2⟩
  · have t0 : ((r : Int) == 0) = false := by simpa using d0
    clear d0
    by_cases d1 : r = 1 ∨ r = 2
    · by_cases d2 : r = 1
      · have t1 : ((r : Int) == 1) = true := by simp; omega
        clear d1 d2
        go_wp2_with (go_at_call 51; refine (ttext b g _ ht1).mono ?_; rintro e w2 ⟨v, rfl, hv, ht2, hg2⟩; have hB := (fun i => (World.cell?_of_block (a := ⟨w.heap.size, i, none⟩) (hg2.block w.heap.size hz (by simp; omega)))); have hF : ∀ i, w2.frozen? ⟨w.heap.size, i, none⟩ = w1.frozen? ⟨w.heap.size, i, none⟩ := (fun i => by simp only [World.frozen?, hg2.block w.heap.size hz (by simp; omega)]))
        refine bodyPost_ret (by simp [results, Tryz.results24, go_sem, hB, c00, c01, c02]; rfl) rfl ?_
        obtain ⟨h1, h2⟩ := FIN.out v w2 hv ht2 hg2
        exact ⟨v, rfl, hv, h1, h2⟩
      · have t1 : ((r : Int) == 1) = false := by simp; omega
        have t2 : ((r : Int) == 2) = true := by simp; omega
        clear d1 d2
        go_wp2_with (go_at_call 51; refine (ttext b g _ ht1).mono ?_; rintro e w2 ⟨v, rfl, hv, ht2, hg2⟩; have hB := (fun i => (World.cell?_of_block (a := ⟨w.heap.size, i, none⟩) (hg2.block w.heap.size hz (by simp; omega)))); have hF : ∀ i, w2.frozen? ⟨w.heap.size, i, none⟩ = w1.frozen? ⟨w.heap.size, i, none⟩ := (fun i => by simp only [World.frozen?, hg2.block w.heap.size hz (by simp; omega)]))
        refine bodyPost_ret (by simp [results, Tryz.results24, go_sem, hB, c00, c01, c02]; rfl) rfl ?_
        obtain ⟨h1, h2⟩ := FIN.out v w2 hv ht2 hg2
        exact ⟨v, rfl, hv, h1, h2⟩
    · have t1 : ((r : Int) == 1) = false := by simp; omega
      have t2 : ((r : Int) == 2) = false := by simp; omega
      clear d1
      go_wp2_with (go_at_call 52; refine (tint b g _ ht1).mono ?_; rintro e w2 ⟨v, rfl, hv, ht2, hg2⟩; have hB := (fun i => (World.cell?_of_block (a := ⟨w.heap.size, i, none⟩) (hg2.block w.heap.size hz (by simp; omega)))); have hF : ∀ i, w2.frozen? ⟨w.heap.size, i, none⟩ = w1.frozen? ⟨w.heap.size, i, none⟩ := (fun i => by simp only [World.frozen?, hg2.block w.heap.size hz (by simp; omega)]))
      refine bodyPost_ret (by simp [results, Tryz.results24, go_sem, hB, c00, c01, c02]; rfl) rfl ?_
      obtain ⟨h1, h2⟩ := FIN.out v w2 hv ht2 hg2
      exact ⟨v, rfl, hv, h1, h2⟩
structure T where
  op : Int
  v : V
  c : Int
def T.cells (t : T) : List Value := [.int .i64 t.op, .int .i64 t.v.k, .int .i64 t.v.n, .string t.v.s, .int .i64 t.c]
def arity (op : Int) : Int := if op = 1 ∨ op = 2 then 0 else if op = 3 ∨ op = 9 ∨ op = 13 ∨ op = 16 then 1 else if op = 18 then 3 else if 1 ≤ op ∧ op ≤ 18 then 2 else -1
def ar (op : Int) : Nat := (arity op).toNat
theorem arity_range (op : Int) : -1 ≤ arity op ∧ arity op ≤ 3 := by
  unfold arity
  split
  · omega
  · split
    · omega
    · split
      · omega
      · split <;> omega
theorem arity_known {op : Int} (h : 0 ≤ arity op) : 1 ≤ op ∧ op ≤ 18 := by
  unfold arity at h
  split at h
  · omega
  · split at h
    · omega
    · split at h
      · omega
      · split at h
        · assumption
        · omega
def T.ok (t : T) : Bool := decide (0 ≤ arity t.op) && (if t.op = 1 then t.c == 0 && (t.v.k != 0 && t.v.ok) else if t.op = 2 then decide (0 ≤ t.c) && t.v.beq V.null else t.c == 0 && t.v.beq V.null)
inductive X where
  | node (t : T) (ks : List X)
def X.t : X → T | .node t _ => t
mutual
def X.flat : X → List T | .node t ks => t :: flats ks
def flats : List X → List T
  | [] => []
  | x :: xs => x.flat ++ flats xs
end
mutual
def X.depth : X → Nat | .node _ ks => deepest ks + 1
def deepest : List X → Nat
  | [] => 0
  | x :: xs => max x.depth (deepest xs)
end
mutual
def X.wf : X → Bool | .node t ks => t.ok && (decide (ks.length = ar t.op) && wfs ks)
def wfs : List X → Bool
  | [] => true
  | x :: xs => x.wf && wfs xs
end
theorem X.flat_node (t : T) (ks : List X) : (X.node t ks).flat = t :: flats ks := by rw [X.flat]
theorem flats_cons (x : X) (xs : List X) : flats (x :: xs) = x.flat ++ flats xs := by rw [flats]
theorem flats_snoc (xs : List X) (x : X) : flats (xs ++ [x]) = flats xs ++ x.flat := by
  induction xs with
  | nil => simp [flats]
  | cons y ys ih => simp [flats, ih]
theorem deepest_snoc (xs : List X) (x : X) : deepest (xs ++ [x]) = max (deepest xs) x.depth := by
  induction xs with
  | nil => simp [deepest]
  | cons y ys ih => simp only [List.cons_append, deepest, ih]; omega
theorem X.flat_pos (x : X) : 0 < x.flat.length := by cases x; rw [X.flat_node]; simp
theorem X.depth_pos (x : X) : 0 < x.depth := by cases x; simp [X.depth]
def readK : Nat → Nat → List T → Option (List X × List T)
  | _, 0, l => some ([], l)
  | 0, _ + 1, _ => none
  | f + 1, n + 1, l => match l with
    | [] => none
    | t :: r => if t.ok then (match readK f (ar t.op) r with
        | none => none
        | some (ks, r') => match readK (f + 1) n r' with
          | none => none
          | some (xs, r'') => some (.node t ks :: xs, r'')) else none
termination_by f n => (f, n)
def readX (f : Nat) (l : List T) : Option (X × List T) := match f, l with
  | f + 1, t :: r => if t.ok then (readK f (ar t.op) r).map fun y => (.node t y.1, y.2) else none
  | _, _ => none
theorem readK_zero (f : Nat) (l : List T) : readK f 0 l = some ([], l) := by rw [readK]
theorem readK_cons (f n : Nat) (l : List T) : readK f (n + 1) l = match readX f l with
    | none => none
    | some (x, r) => match readK f n r with
      | none => none
      | some (xs, r') => some (x :: xs, r') := by
  cases f with
  | zero => rw [readK]; simp [readX]
  | succ f =>
    cases l with
    | nil => rw [readK]; simp [readX]
    | cons t r =>
      rw [readK, readX]
      split
      · cases readK f (ar t.op) r with
        | none => rfl
        | some y => rfl
      · rfl
theorem readK_snoc (f : Nat) : ∀ (n : Nat) (l : List T), readK f (n + 1) l = match readK f n l with
    | none => none
    | some (xs, r) => match readX f r with
      | none => none
      | some (x, r') => some (xs ++ [x], r') := by
  intro n
  induction n with
  | zero =>
    intro l
    rw [readK_cons, readK_zero]
    simp only
    cases readX f l with
    | none => rfl
    | some y => obtain ⟨x, r⟩ := y; simp only [readK_zero]; rfl
  | succ n ih =>
    intro l
    rw [readK_cons]
    conv => rhs; rw [readK_cons]
    cases readX f l with
    | none => rfl
    | some y =>
      obtain ⟨x, r⟩ := y
      simp only
      rw [ih r]
      cases readK f n r with
      | none => rfl
      | some z =>
        obtain ⟨xs, r'⟩ := z
        simp only
        cases readX f r' with
        | none => rfl
        | some u => rfl
theorem readK_some : ∀ (f n : Nat) (l : List T) (xs : List X) (r : List T), readK f n l = some (xs, r) → l = flats xs ++ r ∧ xs.length = n ∧ wfs xs = true ∧ deepest xs ≤ f := by
  intro f
  induction f with
  | zero =>
    intro n l xs r h
    cases n with
    | zero => rw [readK_zero] at h; simp at h; obtain ⟨rfl, rfl⟩ := h; simp [flats, wfs, deepest]
    | succ n => rw [readK_cons] at h; simp [readX] at h
  | succ f ihf =>
    intro n
    induction n with
    | zero => intro l xs r h; rw [readK_zero] at h; simp at h; obtain ⟨rfl, rfl⟩ := h; simp [flats, wfs, deepest]
    | succ n ih =>
      intro l xs r h
      rw [readK_cons] at h
      cases hx : readX (f + 1) l with
      | none => rw [hx] at h; cases h
      | some y =>
        obtain ⟨x, r1⟩ := y
        rw [hx] at h
        simp only at h
        cases hk : readK (f + 1) n r1 with
        | none => rw [hk] at h; cases h
        | some z =>
          obtain ⟨ys, r2⟩ := z
          rw [hk] at h
          simp at h
          obtain ⟨rfl, rfl⟩ := h
          obtain ⟨e1, e2, e3, e4⟩ := ih r1 ys r2 hk
          cases l with
          | nil => simp [readX] at hx
          | cons t r0 =>
            simp only [readX] at hx
            split at hx
            · rename_i hok
              obtain ⟨⟨ks, r3⟩, g1, g2⟩ := Option.map_eq_some_iff.1 hx
              simp at g2
              obtain ⟨rfl, rfl⟩ := g2
              obtain ⟨k1, k2, k3, k4⟩ := ihf _ _ _ _ g1
              refine ⟨?_, by simp [e2], ?_, ?_⟩
              · rw [flats_cons, X.flat_node, k1, e1]; simp
              · simp [wfs, X.wf, hok, k2, k3, e3]
              · simp only [deepest, X.depth]; omega
            · cases hx
theorem readX_some {f : Nat} {l : List T} {x : X} {r : List T} (h : readX f l = some (x, r)) : l = x.flat ++ r ∧ x.wf = true ∧ x.depth ≤ f := by
  have hk : readK f 1 l = some ([x], r) := by rw [readK_cons, h]; simp only [readK_zero]
  obtain ⟨e1, _, e3, e4⟩ := readK_some f 1 l [x] r hk
  refine ⟨by simpa [flats] using e1, by simpa [wfs] using e3, by simpa [deepest] using e4⟩
mutual
theorem readX_flat (x : X) (r : List T) (f : Nat) (hw : x.wf = true) (hd : x.depth ≤ f) : readX f (x.flat ++ r) = some (x, r) := by
  match x with
  | .node t ks =>
    simp only [X.wf, Bool.and_eq_true, decide_eq_true_eq] at hw
    simp only [X.depth] at hd
    obtain ⟨f, rfl⟩ : ∃ g, f = g + 1 := ⟨f - 1, by omega⟩
    rw [X.flat_node]
    simp only [List.cons_append, readX]
    rw [if_pos hw.1, ← hw.2.1, readK_flat ks r f hw.2.2 (by omega)]
    rfl
theorem readK_flat (xs : List X) (r : List T) (f : Nat) (hw : wfs xs = true) (hd : deepest xs ≤ f) : readK f xs.length (flats xs ++ r) = some (xs, r) := by
  match xs with
  | [] => simp [readK_zero, flats]
  | x :: xs =>
    simp only [wfs, Bool.and_eq_true] at hw
    simp only [deepest] at hd
    rw [List.length_cons, readK_cons, flats_cons, List.append_assoc, readX_flat x (flats xs ++ r) f hw.1 (by omega)]
    simp only
    rw [readK_flat xs r f hw.2 (by omega)]
end
mutual
theorem X.depth_flat (x : X) : x.depth ≤ x.flat.length := by
  match x with
  | .node t ks =>
    have := deepest_flats ks
    simp only [X.depth, X.flat_node, List.length_cons]
    omega
theorem deepest_flats (xs : List X) : deepest xs ≤ (flats xs).length := by
  match xs with
  | [] => simp [deepest]
  | x :: xs =>
    have h1 := X.depth_flat x
    have h2 := deepest_flats xs
    simp only [deepest, flats_cons, List.length_append]
    omega
end
theorem readX_full {f : Nat} {l : List T} (hf : l.length ≤ f) {f' : Nat} {x : X} {r : List T} (h : readX f' l = some (x, r)) : readX f l = some (x, r) := by
  obtain ⟨rfl, h2, h3⟩ := readX_some h
  have := x.depth_flat
  exact readX_flat x r f h2 (by simp at hf; omega)
theorem readX_none {f f' : Nat} {l : List T} (hf : l.length ≤ f) (h : readX f l = none) : readX f' l = none := by
  cases h' : readX f' l with
  | none => rfl
  | some y => obtain ⟨x, r⟩ := y; rw [readX_full hf h'] at h; cases h
def validE (l : List T) : Bool := decide (l.length ≤ 64) && (match readX 16 l with
  | some (_, r) => r.isEmpty
  | none => false)
theorem validE_iff (l : List T) : validE l = true ↔ l.length ≤ 64 ∧ ∃ x : X, l = x.flat ∧ x.wf = true ∧ x.depth ≤ 16 := by
  unfold validE
  rw [Bool.and_eq_true, decide_eq_true_eq]
  constructor
  · rintro ⟨h1, h2⟩
    refine ⟨h1, ?_⟩
    cases h : readX 16 l with
    | none => rw [h] at h2; cases h2
    | some y =>
      obtain ⟨x, r⟩ := y
      rw [h] at h2
      simp only [List.isEmpty_iff] at h2
      subst h2
      obtain ⟨e1, e2, e3⟩ := readX_some h
      exact ⟨x, by simpa using e1, e2, e3⟩
  · rintro ⟨h1, x, rfl, h2, h3⟩
    refine ⟨h1, ?_⟩
    have := readX_flat x [] 16 h2 h3
    rw [List.append_nil] at this
    rw [this]
    rfl
end Go.Proofs.YtpnfbehbheddeaaGreatDoor
