/- Contracts of the tape's Text, Int and Value: a valid value comes back, and only the tape's own block has changed. -/
import Derived.Test.YtmbegmhgiekofaaDoorTa
import Derived.Test.YtmbegmhgiekofaaDoorVSpec2
import Derived.Test.YtmbegmhgiekofaaDoorVi
namespace Go.Proofs.YtmbegmhgiekofaaDoor
open Go.RowKit

/-- What a function that takes from the tape leaves: a valid value. -/
def ValPost (w : World) (b g : Nat) (e : Ending) (w' : World) : Prop :=
  ∃ v : V, e = .returned (.agg #[.int .i64 v.k, .int .i64 v.n, .string v.s]) ∧ v.ok = true ∧ Tp w' b g ∧ w.grownBy w' (some b)
theorem grown_trans {a b c : World} {r : Option Nat} (h : a.grownBy b r) (k : b.grownBy c r) : a.grownBy c r := grown_two h (.inl rfl) (Nat.le_refl _) k
theorem grown_of_below {a w : World} (h : Below a.heap.size a w) (r : Option Nat) : a.grownBy w r := ⟨h.os, h.tape, h.output, h.size, fun i hi _ => h.block i hi⟩

theorem only_drew {a w : World} {row : Option Nat} (h : a.grownBy w row) : a.grownBy w.drew row := ⟨h.os, h.tape, h.output, h.size, h.block⟩
theorem only_drewN {a w : World} {row : Option Nat} (h : a.grownBy w row) (n : Nat) : a.grownBy (w.drewN n) row := ⟨h.os, h.tape, h.output, h.size, h.block⟩
theorem only_alloc {a w : World} {row : Option Nat} (h : a.grownBy w row) (o : Obj) : a.grownBy (w.alloc o) row :=
  ⟨h.os, h.tape, h.output, Nat.le_trans h.size (by simp), fun i hi hne => (Below.heap_alloc w o i (Nat.lt_of_lt_of_le hi h.size)).trans (h.block i hi hne)⟩
theorem only_setCell {a w : World} {g : Nat} {p : Addr} (h : a.grownBy w (some g)) (hp : p.block = g ∨ a.heap.size ≤ p.block) (u : Value) : a.grownBy (w.setCell p u) (some g) :=
  ⟨h.os, h.tape, h.output, by simpa [World.setCell] using h.size, fun i hi hne => (Below.heap_setCell w p u i (by
    rintro rfl
    rcases hp with hp | hp
    · exact hne (by rw [hp])
    · omega)).trans (h.block i hi hne)⟩
theorem only_step {a W w1 : World} {row : Option Nat} (hb : Below W.heap.size W w1) (h : a.grownBy W row) : a.grownBy w1 row := grown_trans h (grown_of_below hb row)
theorem only_trans {a W w1 : World} {row : Option Nat} (hb : W.grownBy w1 row) (h : a.grownBy W row) : a.grownBy w1 row := grown_trans h hb
theorem Tp.drew {w : World} {b g : Nat} (h : Tp w b g) : Tp w.drew b g := ⟨h.ne, h.lt, h.ltg, h.ex⟩
theorem Tp.step {W w1 : World} {b g : Nat} (hb : Below W.heap.size W w1) (h : Tp W b g) : Tp w1 b g := h.below hb h.lt h.ltg
theorem Tp.setFar {w : World} {b g : Nat} {p : Addr} (h : Tp w b g) (h1 : p.block ≠ b) (h2 : p.block ≠ g) (u : Value) : Tp (w.setCell p u) b g :=
  h.grown (row := some p.block) ⟨rfl, rfl, rfl, by simp [World.setCell], fun i _ hne => Below.heap_setCell w p u i (fun e => hne (by rw [e]))⟩ (fun e => h1 (by injection e)) (fun e => h2 (by injection e))
theorem heap_two (w : World) (o o' : Obj) : ((w.alloc o).alloc o').heap[w.heap.size + 1]? = some o' := by
  have := heap_alloc_new (w.alloc o) o'
  rwa [show (w.alloc o).heap.size = w.heap.size + 1 by simp] at this
theorem heap_one (w : World) (o o' : Obj) : ((w.alloc o).alloc o').heap[w.heap.size]? = some o := by
  rw [Below.heap_alloc _ _ _ (by simp)]
  exact heap_alloc_new w o
def isStr : Value → Bool | .string _ => true | _ => false
theorem strs_at (cs : Array Value) (h : cs.toList.all isStr = true) (r : Nat) (hr : r < cs.size) : ∃ s, cs[r]? = some (.string s) := by
  have h1 := List.all_eq_true.1 h cs[r] (by simp)
  have h2 : cs[r]? = some cs[r] := Array.getElem?_eq_getElem hr
  cases hv : cs[r] with
  | string s => exact ⟨s, by rw [h2, hv]⟩
  | _ => rw [hv] at h1; cases h1
def isI64 : Value → Bool | .int .i64 _ => true | _ => false
theorem ints_at' (cs : Array Value) (h : cs.toList.all isI64 = true) (r : Nat) (hr : r < cs.size) : ∃ n, cs[r]? = some (.int .i64 n) := by
  have h1 := List.all_eq_true.1 h cs[r] (by simp)
  have h2 : cs[r]? = some cs[r] := Array.getElem?_eq_getElem hr
  cases hv : cs[r] with
  | int k n =>
    cases k <;> first | (exfalso; rw [hv] at h1; cases h1; done) | exact ⟨n, by rw [h2, hv]⟩
  | _ => rw [hv] at h1; cases h1

theorem strs_cell {w : World} {b : Nat} {cs : Array Value} (hc : ∀ i, w.cell? ⟨b, i, none⟩ = cs[i]?) (h : cs.toList.all isStr = true) (r : Nat) (hr : r < cs.size) : ∃ s, w.cell? ⟨b, r, none⟩ = some (.string s) := by
  obtain ⟨s, hs⟩ := strs_at cs h r hr
  exact ⟨s, (hc r).trans hs⟩
theorem ints_cell {w : World} {b : Nat} {cs : Array Value} (hc : ∀ i, w.cell? ⟨b, i, none⟩ = cs[i]?) (h : cs.toList.all isI64 = true) (r : Nat) (hr : r < cs.size) : ∃ n, w.cell? ⟨b, r, none⟩ = some (.int .i64 n) := by
  obtain ⟨s, hs⟩ := ints_at' cs h r hr
  exact ⟨s, (hc r).trans hs⟩
set_option maxHeartbeats 400000 in
theorem rtext (s : ByteArray) (w : World) : Calls Tryd.prog 59 #[.string s] w fun e w' => e = .returned (.agg #[.int .i64 ((V.mk 2 0 s).cl).k, .int .i64 ((V.mk 2 0 s).cl).n, .string ((V.mk 2 0 s).cl).s]) ∧ Below w.heap.size w w' := by
  go_enter Tryd.func59, Tryd.ntmps59
  go_wp2_with (go_at_call 37; refine (rclean ⟨2, 0, s⟩ _).mono ?_; rintro e w1 ⟨rfl, hb1⟩; obtain ⟨hc1, hf1⟩ := bcell hb1; have hz1 := (hb1).size; try simp at hz1)
  refine bodyPost_ret (by simp [results, Tryd.results59, go_sem, hc1]; rfl) rfl ?_
  exact ⟨rfl, by (repeat (first | (with_reducible exact Below.refl _ _) | (with_reducible assumption) | (with_reducible refine Below.drew ?_) | (with_reducible refine below_drewN ?_ _) | ((with_reducible refine Below.setCell ?_ ?_ _); rotate_left; (focus (first | (simp; done) | (simp; omega) | omega))) | ((with_reducible refine Below.alloc ?_ ?_ _); rotate_left; (focus (first | (simp; done) | (simp; omega) | omega))) | ((with_reducible apply below_step1); (focus (with_reducible assumption)))))⟩
set_option maxHeartbeats 400000 in
theorem rint (n : Int) (w : World) : Calls Tryd.prog 60 #[.int .i64 n] w fun e w' => e = .returned (.agg #[.int .i64 ((V.mk 1 n ⟨#[]⟩).cl).k, .int .i64 ((V.mk 1 n ⟨#[]⟩).cl).n, .string ((V.mk 1 n ⟨#[]⟩).cl).s]) ∧ Below w.heap.size w w' := by
  go_enter Tryd.func60, Tryd.ntmps60
  go_wp2_with (go_at_call 37; refine (rclean ⟨1, n, ⟨#[]⟩⟩ _).mono ?_; rintro e w1 ⟨rfl, hb1⟩; obtain ⟨hc1, hf1⟩ := bcell hb1; have hz1 := (hb1).size; try simp at hz1)
  refine bodyPost_ret (by simp [results, Tryd.results60, go_sem, hc1]; rfl) rfl ?_
  exact ⟨rfl, by (repeat (first | (with_reducible exact Below.refl _ _) | (with_reducible assumption) | (with_reducible refine Below.drew ?_) | (with_reducible refine below_drewN ?_ _) | ((with_reducible refine Below.setCell ?_ ?_ _); rotate_left; (focus (first | (simp; done) | (simp; omega) | omega))) | ((with_reducible refine Below.alloc ?_ ?_ _); rotate_left; (focus (first | (simp; done) | (simp; omega) | omega))) | ((with_reducible apply below_step1); (focus (with_reducible assumption)))))⟩

set_option maxRecDepth 100000 in
set_option maxHeartbeats 1000000 in
theorem ttext (b g : Nat) (w : World) (h : Tp w b g) : Calls Tryd.prog 40 #[.pointer (some ⟨b, 0, none⟩)] w (ValPost w b g) := by
  have HT := Lib.hid h
  have hlt := h.lt
  have hltg := h.ltg
  go_enter Tryd.func40, Tryd.ntmps40
  go_wp2_with fail
  refine (next_c b g 10 _ (by omega) ((HT.out.alloc _).alloc _)).mono ?_
  rintro e w1 ⟨r, rfl, hr, ht1, hg1, hz1⟩
  have q1 := (hg1.block (w.heap.size + 1) (by simp) (by simp; omega)).trans (heap_two _ _ _)
  have q0 := (hg1.block w.heap.size (by simp; omega) (by simp; omega)).trans (heap_one _ _ _)
  obtain ⟨c1, f1⟩ := blk_rules q1
  obtain ⟨c0, f0⟩ := blk_rules q0
  obtain ⟨s, cs1⟩ := strs_cell c1 rfl r (show r < 10 by omega)
  have c00 := c0 0
  have c01 := c0 1
  have c02 := c0 2
  have f00 := f0 0
  have f01 := f0 1
  have f02 := f0 2
  have hz : w.heap.size < w1.heap.size := by rw [hz1]; simp; omega
  have hr0 : (0 : Int) ≤ (r : Int) := by omega
  have hr10 : (r : Int) < 10 := by omega
  clear c1 f1 c0 f0 q0 q1 hr hz1
  go_wp2_with (go_at_call 59; refine (rtext s _).mono ?_; rintro e w2 ⟨rfl, hb2⟩; obtain ⟨hc2, hf2⟩ := bcell hb2; have hz2 := (hb2).size; try simp at hz2)
  refine bodyPost_ret (by simp [results, Tryd.results40, go_sem, hc2, hz, c00, c01, c02]; rfl) rfl ?_
  refine ⟨_, rfl, V.cl_ok _, ?_, ?_⟩
  · (repeat (first | (with_reducible assumption) | (with_reducible refine Tp.drew ?_) | (with_reducible refine Tp.drewN ?_ _) | (with_reducible refine Tp.alloc ?_ _) | ((with_reducible refine Tp.setFar ?_ ?_ ?_ _); rotate_left; (focus (first | (simp; done) | (simp; omega) | omega)); (focus (first | (simp; done) | (simp; omega) | omega))) | ((with_reducible apply Tp.step); (focus (with_reducible assumption)))))
  · (repeat (first | (with_reducible exact grown_refl _ _) | (with_reducible assumption) | (with_reducible refine only_drew ?_) | (with_reducible refine only_drewN ?_ _) | ((with_reducible refine only_setCell ?_ ?_ _); rotate_left; (focus (first | (simp; done) | (simp; omega) | omega | (right; simp; done) | (right; simp; omega) | (right; omega)))) | (with_reducible refine only_alloc ?_ _) | ((with_reducible apply only_step); (focus (with_reducible assumption))) | ((with_reducible apply only_trans); (focus (with_reducible assumption)))))
set_option maxRecDepth 100000 in
set_option maxHeartbeats 1000000 in
theorem tint (b g : Nat) (w : World) (h : Tp w b g) : Calls Tryd.prog 41 #[.pointer (some ⟨b, 0, none⟩)] w (ValPost w b g) := by
  have HT := Lib.hid h
  have hlt := h.lt
  have hltg := h.ltg
  go_enter Tryd.func41, Tryd.ntmps41
  go_wp2_with fail
  refine (next_c b g 12 _ (by omega) ((HT.out.alloc _).alloc _)).mono ?_
  rintro e w1 ⟨r, rfl, hr, ht1, hg1, hz1⟩
  have q1 := (hg1.block (w.heap.size + 1) (by simp) (by simp; omega)).trans (heap_two _ _ _)
  have q0 := (hg1.block w.heap.size (by simp; omega) (by simp; omega)).trans (heap_one _ _ _)
  obtain ⟨c1, f1⟩ := blk_rules q1
  obtain ⟨c0, f0⟩ := blk_rules q0
  obtain ⟨s, cs1⟩ := ints_cell c1 rfl r (show r < 12 by omega)
  have c00 := c0 0
  have c01 := c0 1
  have c02 := c0 2
  have f00 := f0 0
  have f01 := f0 1
  have f02 := f0 2
  have hz : w.heap.size < w1.heap.size := by rw [hz1]; simp; omega
  have hr0 : (0 : Int) ≤ (r : Int) := by omega
  have hr12 : (r : Int) < 12 := by omega
  clear c1 f1 c0 f0 q0 q1 hr hz1
  go_wp2_with (go_at_call 60; refine (rint s _).mono ?_; rintro e w2 ⟨rfl, hb2⟩; obtain ⟨hc2, hf2⟩ := bcell hb2; have hz2 := (hb2).size; try simp at hz2)
  refine bodyPost_ret (by simp [results, Tryd.results41, go_sem, hc2, hz, c00, c01, c02]; rfl) rfl ?_
  refine ⟨_, rfl, V.cl_ok _, ?_, ?_⟩
  · (repeat (first | (with_reducible assumption) | (with_reducible refine Tp.drew ?_) | (with_reducible refine Tp.drewN ?_ _) | (with_reducible refine Tp.alloc ?_ _) | ((with_reducible refine Tp.setFar ?_ ?_ ?_ _); rotate_left; (focus (first | (simp; done) | (simp; omega) | omega)); (focus (first | (simp; done) | (simp; omega) | omega))) | ((with_reducible apply Tp.step); (focus (with_reducible assumption)))))
  · (repeat (first | (with_reducible exact grown_refl _ _) | (with_reducible assumption) | (with_reducible refine only_drew ?_) | (with_reducible refine only_drewN ?_ _) | ((with_reducible refine only_setCell ?_ ?_ _); rotate_left; (focus (first | (simp; done) | (simp; omega) | omega | (right; simp; done) | (right; simp; omega) | (right; omega)))) | (with_reducible refine only_alloc ?_ _) | ((with_reducible apply only_step); (focus (with_reducible assumption))) | ((with_reducible apply only_trans); (focus (with_reducible assumption)))))

set_option maxRecDepth 100000 in
set_option maxHeartbeats 1000000 in
theorem tvalue (b g : Nat) (w : World) (h : Tp w b g) : Calls Tryd.prog 25 #[.pointer (some ⟨b, 0, none⟩)] w (ValPost w b g) := by
  have HT := Lib.hid h
  have hlt := h.lt
  have hltg := h.ltg
  go_enter Tryd.func25, Tryd.ntmps25
  go_wp2_with fail
  refine (next_c b g 5 _ (by omega) (HT.out.alloc _)).mono ?_
  rintro e w1 ⟨r, rfl, hr, ht1, hg1, hz1⟩
  have q0 := (hg1.block w.heap.size (by simp) (by simp; omega)).trans (heap_alloc_new _ _)
  obtain ⟨c0, f0⟩ := blk_rules q0
  have c00 := c0 0
  have c01 := c0 1
  have c02 := c0 2
  have f00 := f0 0
  have f01 := f0 1
  have f02 := f0 2
  have hz : w.heap.size < w1.heap.size := by rw [hz1]; simp
  clear c0 f0 q0 hz1
  have fin : ∀ (v : V) (w2 : World), v.ok = true → Tp w2 b g → w1.grownBy w2 (some b) → Tp (((w2.setCell ⟨w.heap.size, 0, none⟩ (.int .i64 v.k)).setCell ⟨w.heap.size, 1, none⟩ (.int .i64 v.n)).setCell ⟨w.heap.size, 2, none⟩ (.string v.s)) b g ∧ w.grownBy (((w2.setCell ⟨w.heap.size, 0, none⟩ (.int .i64 v.k)).setCell ⟨w.heap.size, 1, none⟩ (.int .i64 v.n)).setCell ⟨w.heap.size, 2, none⟩ (.string v.s)) (some b) := by
    intro v w2 _ ht2 hg2
    exact ⟨by (repeat (first | (with_reducible assumption) | (with_reducible refine Tp.drew ?_) | (with_reducible refine Tp.drewN ?_ _) | (with_reducible refine Tp.alloc ?_ _) | ((with_reducible refine Tp.setFar ?_ ?_ ?_ _); rotate_left; (focus (first | (simp; done) | (simp; omega) | omega)); (focus (first | (simp; done) | (simp; omega) | omega))) | ((with_reducible apply Tp.step); (focus (with_reducible assumption))))), by (repeat (first | (with_reducible exact grown_refl _ _) | (with_reducible assumption) | (with_reducible refine only_drew ?_) | (with_reducible refine only_drewN ?_ _) | ((with_reducible refine only_setCell ?_ ?_ _); rotate_left; (focus (first | (simp; done) | (simp; omega) | omega | (right; simp; done) | (right; simp; omega) | (right; omega)))) | (with_reducible refine only_alloc ?_ _) | ((with_reducible apply only_step); (focus (with_reducible assumption))) | ((with_reducible apply only_trans); (focus (with_reducible assumption)))))⟩
  have FIN := Lib.hid fin
  clear fin
  by_cases d0 : r = 0
  · have t0 : ((r : Int) == 0) = true := by simpa using d0
    clear d0
    go_wp2_with fail
    refine bodyPost_ret (by simp [results, Tryd.results25, go_sem, c00, c01, c02]; rfl) rfl ?_
    obtain ⟨h1, h2⟩ := FIN.out V.null w1 V.null_ok ht1 (grown_refl _ _)
    exact ⟨V.null, rfl, V.null_ok, h1, h2⟩
  · have t0 : ((r : Int) == 0) = false := by simpa using d0
    clear d0
    by_cases d1 : r = 1 ∨ r = 2
    · by_cases d2 : r = 1
      · have t1 : ((r : Int) == 1) = true := by simp; omega
        clear d1 d2
        go_wp2_with (go_at_call 40; refine (ttext b g _ ht1).mono ?_; rintro e w2 ⟨v, rfl, hv, ht2, hg2⟩; have hB := (fun i => (World.cell?_of_block (a := ⟨w.heap.size, i, none⟩) (hg2.block w.heap.size hz (by simp; omega)))); have hF : ∀ i, w2.frozen? ⟨w.heap.size, i, none⟩ = w1.frozen? ⟨w.heap.size, i, none⟩ := (fun i => by simp only [World.frozen?, hg2.block w.heap.size hz (by simp; omega)]))
        refine bodyPost_ret (by simp [results, Tryd.results25, go_sem, hB, c00, c01, c02]; rfl) rfl ?_
        obtain ⟨h1, h2⟩ := FIN.out v w2 hv ht2 hg2
        exact ⟨v, rfl, hv, h1, h2⟩
      · have t1 : ((r : Int) == 1) = false := by simp; omega
        have t2 : ((r : Int) == 2) = true := by simp; omega
        clear d1 d2
        go_wp2_with (go_at_call 40; refine (ttext b g _ ht1).mono ?_; rintro e w2 ⟨v, rfl, hv, ht2, hg2⟩; have hB := (fun i => (World.cell?_of_block (a := ⟨w.heap.size, i, none⟩) (hg2.block w.heap.size hz (by simp; omega)))); have hF : ∀ i, w2.frozen? ⟨w.heap.size, i, none⟩ = w1.frozen? ⟨w.heap.size, i, none⟩ := (fun i => by simp only [World.frozen?, hg2.block w.heap.size hz (by simp; omega)]))
        refine bodyPost_ret (by simp [results, Tryd.results25, go_sem, hB, c00, c01, c02]; rfl) rfl ?_
        obtain ⟨h1, h2⟩ := FIN.out v w2 hv ht2 hg2
        exact ⟨v, rfl, hv, h1, h2⟩
    · have t1 : ((r : Int) == 1) = false := by simp; omega
      have t2 : ((r : Int) == 2) = false := by simp; omega
      clear d1
      go_wp2_with (go_at_call 41; refine (tint b g _ ht1).mono ?_; rintro e w2 ⟨v, rfl, hv, ht2, hg2⟩; have hB := (fun i => (World.cell?_of_block (a := ⟨w.heap.size, i, none⟩) (hg2.block w.heap.size hz (by simp; omega)))); have hF : ∀ i, w2.frozen? ⟨w.heap.size, i, none⟩ = w1.frozen? ⟨w.heap.size, i, none⟩ := (fun i => by simp only [World.frozen?, hg2.block w.heap.size hz (by simp; omega)]))
      refine bodyPost_ret (by simp [results, Tryd.results25, go_sem, hB, c00, c01, c02]; rfl) rfl ?_
      obtain ⟨h1, h2⟩ := FIN.out v w2 hv ht2 hg2
      exact ⟨v, rfl, hv, h1, h2⟩
end Go.Proofs.YtmbegmhgiekofaaDoor
