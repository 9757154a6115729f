/- Contracts of the tape's Text and Int with the value's kind, of leaf and Expr: a well-formed expression comes back, and only the tape's own block has changed. Contract of the tape's Expr: a well-formed expression comes back, and only the tape's own block has changed. Contracts of the tape's New and Row. The tape has fewer than 2^44 numbers, rows fewer than a thousand values. What Substitute gives, in plain Lean. No program in sight, no condition. -/
import Derived.Test.YtpnfbehbheddeaaGreatDoorBn09
import Derived.Test.YtpnfbehbheddeaaGreatDoorBn06
import Derived.Test.YtpnfbehbheddeaaGreatDoorBn08
import Derived.Test.YtpnfbehbheddeaaGreatDoorBn19
import Derived.Test.YtpnfbehbheddeaaGreatDoorBn02
namespace Go.Proofs.YtpnfbehbheddeaaGreatDoor
set_option maxRecDepth 100000
set_option maxHeartbeats 8000000
set_option linter.unusedVariables false
set_option linter.unusedSimpArgs false
open Go.RowKit
def KindPost (w : World) (b g : Nat) (k : Int) (e : Ending) (w' : World) : Prop :=
  ∃ v : V, e = .returned (.agg #[.int .i64 v.k, .int .i64 v.n, .string v.s]) ∧ v.ok = true ∧ v.k = k ∧ Tp w' b g ∧ w.grownBy w' (some b)
def isStr32 : Value → Bool | .string s => decide (s.size ≤ 32) | _ => false
theorem strs32_at (cs : Array Value) (h : cs.toList.all isStr32 = true) (r : Nat) (hr : r < cs.size) : ∃ s, cs[r]? = some (.string s) ∧ s.size ≤ 32 := by
  have h1 := List.all_eq_true.1 h cs[r] (by simp)
  have h2 : cs[r]? = some cs[r] := Array.getElem?_eq_getElem hr
  cases hv : cs[r] with
  | string s => rw [hv] at h1; exact ⟨s, by rw [h2, hv], by simpa [isStr32] using h1⟩
  | _ => rw [hv] at h1; cases h1
def isNum32 : Value → Bool | .int .i64 n => decide (-4294967296 ≤ n) && decide (n ≤ 4294967296) | _ => false
theorem nums32_at (cs : Array Value) (h : cs.toList.all isNum32 = true) (r : Nat) (hr : r < cs.size) : ∃ n, cs[r]? = some (.int .i64 n) ∧ (-4294967296 ≤ n ∧ n ≤ 4294967296) := by
  have h1 := List.all_eq_true.1 h cs[r] (by simp)
  have h2 : cs[r]? = some cs[r] := Array.getElem?_eq_getElem hr
  cases hv : cs[r] with
  | int k n =>
    cases k <;> first | (exfalso; rw [hv] at h1; cases h1; done) | (rw [hv] at h1; exact ⟨n, by rw [h2, hv], by simpa [isNum32] using h1⟩)
  | _ => rw [hv] at h1; cases h1
theorem strs32_cell {w : World} {b : Nat} {cs : Array Value} (hc : ∀ i, w.cell? ⟨b, i, none⟩ = cs[i]?) (h : cs.toList.all isStr32 = true) (r : Nat) (hr : r < cs.size) : ∃ s, w.cell? ⟨b, r, none⟩ = some (.string s) ∧ s.size ≤ 32 := by
  obtain ⟨s, hs, h2⟩ := strs32_at cs h r hr
  exact ⟨s, (hc r).trans hs, h2⟩
theorem nums32_cell {w : World} {b : Nat} {cs : Array Value} (hc : ∀ i, w.cell? ⟨b, i, none⟩ = cs[i]?) (h : cs.toList.all isNum32 = true) (r : Nat) (hr : r < cs.size) : ∃ n, w.cell? ⟨b, r, none⟩ = some (.int .i64 n) ∧ (-4294967296 ≤ n ∧ n ≤ 4294967296) := by
  obtain ⟨s, hs, h2⟩ := nums32_at cs h r hr
  exact ⟨s, (hc r).trans hs, h2⟩
theorem text_kind {s : ByteArray} (h : s.size ≤ 32) : (V.mk 2 0 s).cl.k = 2 := by
  rw [V.cl_of (by simp [V.ok, h])]
theorem int_kind {n : Int} (h : -4294967296 ≤ n ∧ n ≤ 4294967296) : (V.mk 1 n ⟨#[]⟩).cl.k = 1 := by
  rw [V.cl_of (by simp [V.ok, h.1, h.2]; rfl)]
theorem ttextK (b g : Nat) (w : World) (h : Tp w b g) : Calls Tryz.prog 51 #[.pointer (some ⟨b, 0, none⟩)] w (KindPost w b g 2) := by
  have HT := Lib.hid h
  have hlt := h.lt
  have hltg := h.ltg
  go_enter Tryz.func51, Tryz.ntmps51
  go_wp2_with fail
  refine (next_c b g 10 _ (by omega) ((HT.out.alloc _).alloc _)).mono ?_
  rintro e w1 ⟨r, rfl, hr, ht1, hg1, hz1⟩
  have q1 := (hg1.block (w.heap.size + 1) (by simp) (by simp; omega)).trans (heap_two _ _ _)
  have q0 := (hg1.block w.heap.size (by simp; omega) (by simp; omega)).trans (heap_one _ _ _)
  obtain ⟨c1, f1⟩ := blk_rules q1
  obtain ⟨c0, f0⟩ := blk_rules q0
  obtain ⟨s, cs1, hs32⟩ := strs32_cell c1 rfl r (show r < 10 by omega)
  have HK := Lib.hid (text_kind hs32)
  have c00 := c0 0
  have c01 := c0 1
  have c02 := c0 2
  have f00 := f0 0
  have f01 := f0 1
  have f02 := f0 2
  have hz : w.heap.size < w1.heap.size := by rw [hz1]; simp; omega
  have hr0 : (0 : Int) ≤ (r : Int) := by omega
  have hr10 : (r : Int) < 10 := by omega
  clear c1 f1 c0 f0 q0 q1 hr hz1 hs32
  go_wp2_with (go_at_call 94; refine (rtext s _).mono ?_; rintro e w2 ⟨rfl, hb2⟩; obtain ⟨hc2, hf2⟩ := bcell hb2; have hz2 := (hb2).size; (try simp at hz2))
  refine bodyPost_ret (by simp [results, Tryz.results51, go_sem, hc2, hz, c00, c01, c02]; rfl) rfl ?_
  refine ⟨_, rfl, V.cl_ok _, HK.out, ?_, ?_⟩
  · (repeat (first | (with_reducible assumption) | (with_reducible refine Tp.drew ?_) | (with_reducible refine Tp.drewN ?_ _) | (with_reducible refine Tp.alloc ?_ _) | ((with_reducible refine Tp.setFar ?_ ?_ ?_ _); rotate_left; (focus (first | (simp; done) | (simp; omega) | omega)); (focus (first | (simp; done) | (simp; omega) | omega))) | ((with_reducible apply Tp.step); (focus (with_reducible assumption)))))
  · (repeat (first | (with_reducible exact grown_refl _ _) | (with_reducible assumption) | (with_reducible refine only_drew ?_) | (with_reducible refine only_drewN ?_ _) | ((with_reducible refine only_setCell ?_ ?_ _); rotate_left; (focus (first | (simp; done) | (simp; omega) | omega | (right; simp; done) | (right; simp; omega) | (right; omega)))) | (with_reducible refine only_alloc ?_ _) | ((with_reducible apply only_step); (focus (with_reducible assumption))) | ((with_reducible apply only_trans); (focus (with_reducible assumption)))))
theorem tintK (b g : Nat) (w : World) (h : Tp w b g) : Calls Tryz.prog 52 #[.pointer (some ⟨b, 0, none⟩)] w (KindPost w b g 1) := by
  have HT := Lib.hid h
  have hlt := h.lt
  have hltg := h.ltg
  go_enter Tryz.func52, Tryz.ntmps52
  go_wp2_with fail
  refine (next_c b g 12 _ (by omega) ((HT.out.alloc _).alloc _)).mono ?_
  rintro e w1 ⟨r, rfl, hr, ht1, hg1, hz1⟩
  have q1 := (hg1.block (w.heap.size + 1) (by simp) (by simp; omega)).trans (heap_two _ _ _)
  have q0 := (hg1.block w.heap.size (by simp; omega) (by simp; omega)).trans (heap_one _ _ _)
  obtain ⟨c1, f1⟩ := blk_rules q1
  obtain ⟨c0, f0⟩ := blk_rules q0
  obtain ⟨s, cs1, hs32⟩ := nums32_cell c1 rfl r (show r < 12 by omega)
  have HK := Lib.hid (int_kind hs32)
  have c00 := c0 0
  have c01 := c0 1
  have c02 := c0 2
  have f00 := f0 0
  have f01 := f0 1
  have f02 := f0 2
  have hz : w.heap.size < w1.heap.size := by rw [hz1]; simp; omega
  have hr0 : (0 : Int) ≤ (r : Int) := by omega
  have hr12 : (r : Int) < 12 := by omega
  clear c1 f1 c0 f0 q0 q1 hr hz1 hs32
  go_wp2_with (go_at_call 95; refine (rint s _).mono ?_; rintro e w2 ⟨rfl, hb2⟩; obtain ⟨hc2, hf2⟩ := bcell hb2; have hz2 := (hb2).size; (try simp at hz2))
  refine bodyPost_ret (by simp [results, Tryz.results52, go_sem, hc2, hz, c00, c01, c02]; rfl) rfl ?_
  refine ⟨_, rfl, V.cl_ok _, HK.out, ?_, ?_⟩
  · (repeat (first | (with_reducible assumption) | (with_reducible refine Tp.drew ?_) | (with_reducible refine Tp.drewN ?_ _) | (with_reducible refine Tp.alloc ?_ _) | ((with_reducible refine Tp.setFar ?_ ?_ ?_ _); rotate_left; (focus (first | (simp; done) | (simp; omega) | omega)); (focus (first | (simp; done) | (simp; omega) | omega))) | ((with_reducible apply Tp.step); (focus (with_reducible assumption)))))
  · (repeat (first | (with_reducible exact grown_refl _ _) | (with_reducible assumption) | (with_reducible refine only_drew ?_) | (with_reducible refine only_drewN ?_ _) | ((with_reducible refine only_setCell ?_ ?_ _); rotate_left; (focus (first | (simp; done) | (simp; omega) | omega | (right; simp; done) | (right; simp; omega) | (right; omega)))) | (with_reducible refine only_alloc ?_ _) | ((with_reducible apply only_step); (focus (with_reducible assumption))) | ((with_reducible apply only_trans); (focus (with_reducible assumption)))))
def LeafPost (w : World) (b g n : Nat) (e : Ending) (w' : World) : Prop :=
  ∃ (B : Nat) (t : T), e = .returned (.slice (some ⟨B, 0, none⟩) 1 1) ∧ w'.ownsRow w.heap.size 40 5 (.slice (some ⟨B, 0, none⟩) 1 1) 1 t.cells ∧ t.ok = true ∧ (t.op = 1 ∨ t.op = 2 ∧ t.c < max n 1) ∧ Tp w' b g ∧ w.grownBy w' (some b)
theorem ok_col (c : Int) (h : 0 ≤ c) : (T.mk 2 V.null c).ok = true := by
  have h1 : V.null.beq V.null = true := rfl
  have h2 : arity 2 = 0 := rfl
  simp [T.ok, h1, h, h2]
theorem ok_cst (v : V) (h : v.ok = true) (hk : v.k ≠ 0) : (T.mk 1 v 0).ok = true := by
  have h2 : arity 1 = 0 := rfl
  simp [T.ok, h, hk, h2]
theorem tleaf (b g n : Nat) (w : World) (hn : n ≤ 1000) (h : Tp w b g) : Calls Tryz.prog 28 #[.pointer (some ⟨b, 0, none⟩), .int .i64 (n : Int)] w (LeafPost w b g n) := by
  have hlt := h.lt
  go_enter Tryz.func28, Tryz.ntmps28
  go_wp2_with fail
  refine (next_c b g 3 _ (by omega) h).mono ?_
  rintro e w1 ⟨r, rfl, hr, ht1, hg1, hz1⟩
  have hz1' := hg1.size
  clear hz1
  by_cases hr0 : 0 < r
  · have t0 : (0 : Int) < (r : Int) := by omega
    go_wp2_with fail
    refine (next_c b g n _ (by omega) ht1).mono ?_
    rintro e w2 ⟨c, rfl, hc, ht2, hg2, hz2⟩
    have hz2' := hg2.size
    clear hz2
    go_wp2_with fail
    go_ret
    refine ⟨_, ⟨2, V.null, c⟩, rfl, own_base (own_new w2 _ 40 5 1 (by decide) rfl) (by omega), ok_col _ (by omega), .inr ⟨rfl, ?_⟩, ?_, ?_⟩
    · show (c : Int) < _
      have : ((max n 1 : Nat) : Int) = max (n : Int) 1 := by omega
      omega
    · (repeat (first | (with_reducible assumption) | (with_reducible refine Tp.drew ?_) | (with_reducible refine Tp.drewN ?_ _) | (with_reducible refine Tp.alloc ?_ _) | ((with_reducible refine Tp.setFar ?_ ?_ ?_ _); rotate_left; (focus (first | (simp; done) | (simp; omega) | omega)); (focus (first | (simp; done) | (simp; omega) | omega))) | ((with_reducible apply Tp.step); (focus (with_reducible assumption)))))
    · (repeat (first | (with_reducible exact grown_refl _ _) | (with_reducible assumption) | (with_reducible refine only_drew ?_) | (with_reducible refine only_drewN ?_ _) | ((with_reducible refine only_setCell ?_ ?_ _); rotate_left; (focus (first | (simp; done) | (simp; omega) | omega | (right; simp; done) | (right; simp; omega) | (right; omega)))) | (with_reducible refine only_alloc ?_ _) | ((with_reducible apply only_step); (focus (with_reducible assumption))) | ((with_reducible apply only_trans); (focus (with_reducible assumption)))))
  · have t0 : ¬ (0 : Int) < (r : Int) := by omega
    go_wp2_with fail
    refine (next_c b g 2 _ (by omega) ht1).mono ?_
    rintro e w2 ⟨c, rfl, hc, ht2, hg2, hz2⟩
    have hz2' := hg2.size
    clear hz2
    by_cases hc0 : c = 0
    · have tc : ((c : Int) == 0) = true := by simpa using hc0
      clear hc0
      go_wp2_with (go_at_call 51; refine (ttextK b g _ ht2).mono ?_; rintro e w3 ⟨v, rfl, hv, hk, ht3, hg3⟩; have HV := Lib.hid hv; have HK := Lib.hid hk; clear hv hk; have hz3 := hg3.size)
      go_ret
      refine ⟨_, ⟨1, v, 0⟩, rfl, own_base (own_new w3 _ 40 5 1 (by decide) rfl) (by omega), ok_cst _ HV.out (by rw [HK.out]; decide), .inl rfl, ?_, ?_⟩
      · (repeat (first | (with_reducible assumption) | (with_reducible refine Tp.drew ?_) | (with_reducible refine Tp.drewN ?_ _) | (with_reducible refine Tp.alloc ?_ _) | ((with_reducible refine Tp.setFar ?_ ?_ ?_ _); rotate_left; (focus (first | (simp; done) | (simp; omega) | omega)); (focus (first | (simp; done) | (simp; omega) | omega))) | ((with_reducible apply Tp.step); (focus (with_reducible assumption)))))
      · (repeat (first | (with_reducible exact grown_refl _ _) | (with_reducible assumption) | (with_reducible refine only_drew ?_) | (with_reducible refine only_drewN ?_ _) | ((with_reducible refine only_setCell ?_ ?_ _); rotate_left; (focus (first | (simp; done) | (simp; omega) | omega | (right; simp; done) | (right; simp; omega) | (right; omega)))) | (with_reducible refine only_alloc ?_ _) | ((with_reducible apply only_step); (focus (with_reducible assumption))) | ((with_reducible apply only_trans); (focus (with_reducible assumption)))))
    · have tc : ((c : Int) == 0) = false := by simpa using hc0
      clear hc0
      go_wp2_with (go_at_call 52; refine (tintK b g _ ht2).mono ?_; rintro e w3 ⟨v, rfl, hv, hk, ht3, hg3⟩; have HV := Lib.hid hv; have HK := Lib.hid hk; clear hv hk; have hz3 := hg3.size)
      go_ret
      refine ⟨_, ⟨1, v, 0⟩, rfl, own_base (own_new w3 _ 40 5 1 (by decide) rfl) (by omega), ok_cst _ HV.out (by rw [HK.out]; decide), .inl rfl, ?_, ?_⟩
      · (repeat (first | (with_reducible assumption) | (with_reducible refine Tp.drew ?_) | (with_reducible refine Tp.drewN ?_ _) | (with_reducible refine Tp.alloc ?_ _) | ((with_reducible refine Tp.setFar ?_ ?_ ?_ _); rotate_left; (focus (first | (simp; done) | (simp; omega) | omega)); (focus (first | (simp; done) | (simp; omega) | omega))) | ((with_reducible apply Tp.step); (focus (with_reducible assumption)))))
      · (repeat (first | (with_reducible exact grown_refl _ _) | (with_reducible assumption) | (with_reducible refine only_drew ?_) | (with_reducible refine only_drewN ?_ _) | ((with_reducible refine only_setCell ?_ ?_ _); rotate_left; (focus (first | (simp; done) | (simp; omega) | omega | (right; simp; done) | (right; simp; omega) | (right; omega)))) | (with_reducible refine only_alloc ?_ _) | ((with_reducible apply only_step); (focus (with_reducible assumption))) | ((with_reducible apply only_trans); (focus (with_reducible assumption)))))
theorem own_none {w : World} {base : Nat} {e : TypeId} {size n c : Nat} {A : Option Addr} {xs : List Value} (h : w.ownsRow base e size (.slice A n c) n xs) : A = none → c = 0 := by
  rintro rfl
  rcases h.2 with ⟨h1, rfl⟩ | ⟨g, cap, cur, h1, _⟩
  · injection h1
  · injection h1 with h1 _ _; cases h1
theorem tcells_one (l : List T) : ∀ u ∈ l.flatMap T.cells, u.oneCell' = true := by
  intro u hu
  obtain ⟨t, _, ht⟩ := List.mem_flatMap.1 hu
  simp only [T.cells, List.mem_cons, List.not_mem_nil, or_false] at ht
  rcases ht with rfl | rfl | rfl | rfl | rfl <;> rfl
theorem tcells_len (l : List T) : (l.flatMap T.cells).length = l.length * 5 := flatMap_len 5 (fun _ => rfl) l
def ExPost (w : World) (b g d n : Nat) (e : Ending) (w' : World) : Prop :=
  ∃ (A : Option Addr) (c : Nat) (x : X), e = .returned (.slice A x.flat.length c) ∧ w'.ownsRow w.heap.size 40 5 (.slice A x.flat.length c) x.flat.length (x.flat.flatMap T.cells) ∧ x.wf = true ∧ x.depth ≤ d ∧ colsIn n x.flat ∧ Tp w' b g ∧ w.grownBy w' (some b)
theorem leaf_X (t : T) : (X.node t []).flat = [t] := by simp [X.flat, flats]
theorem leaf_ex {w : World} {b g d n : Nat} {e : Ending} {w' : World} (hn : 1 ≤ n) (hd : 1 ≤ d) (h : LeafPost w b g n e w') : ExPost w b g d n e w' := by
  obtain ⟨B, t, h1, h2, h3, h4, h5, h6⟩ := h
  have ha : ar t.op = 0 := by
    rcases h4 with h4 | ⟨h4, _⟩ <;> rw [h4] <;> rfl
  refine ⟨some ⟨B, 0, none⟩, 1, .node t [], by rw [leaf_X]; exact h1, by rw [leaf_X]; simpa using h2, ?_, by simp [X.depth, deepest]; omega, ?_, h5, h6⟩
  · simp [X.wf, wfs, h3, ha]
  · rw [leaf_X]
    intro u hu hu2
    simp at hu
    subst hu
    rcases h4 with h4 | ⟨_, h4⟩
    · omega
    · omega
theorem colsIn_append {n : Nat} {a b : List T} (h1 : colsIn n a) (h2 : colsIn n b) : colsIn n (a ++ b) := by
  intro t ht
  rcases List.mem_append.1 ht with h | h
  · exact h1 t h
  · exact h2 t h
theorem ok_op {op : Int} (h3 : 3 ≤ op) (h18 : op ≤ 18) : (T.mk op V.null 0).ok = true := by
  have h1 : V.null.beq V.null = true := rfl
  have ha : 0 ≤ arity op := by
    unfold arity
    split
    · omega
    · split
      · omega
      · split
        · omega
        · split <;> omega
  simp [T.ok, h1, ha]
  omega
theorem ExPost.from {w w1 : World} {b g d n : Nat} {e : Ending} {w' : World} (hg : w.grownBy w1 (some b)) (h : ExPost w1 b g d n e w') : ExPost w b g d n e w' := by
  obtain ⟨A, c, x, h1, h2, h3, h4, h5, h6, h7⟩ := h
  exact ⟨A, c, x, h1, own_base h2 hg.size, h3, h4, h5, h6, grown_trans hg h7⟩
theorem grown_own {w wr w1 : World} {b : Nat} {e : TypeId} {size n : Nat} {v : Value} {xs : List Value} (hg : w.grownBy wr (some b)) (own : wr.ownsRow w.heap.size e size v n xs) (h1 : wr.grownBy w1 v.ownBlock) : w.grownBy w1 (some b) :=
  ⟨h1.os.trans hg.os, h1.tape.trans hg.tape, h1.output.trans hg.output, Nat.le_trans hg.size h1.size, fun i hi hib => (h1.block i (Nat.lt_of_lt_of_le hi hg.size) (fun e => by have := (own.lt i e.symm).1; omega)).trans (hg.block i hi hib)⟩
theorem Tp.own {wr w1 : World} {b g base : Nat} {e : TypeId} {size n : Nat} {v : Value} {xs : List Value} (ht : Tp wr b g) (own : wr.ownsRow base e size v n xs) (h1 : wr.grownBy w1 v.ownBlock) (hb : b < base) (hg : g < base) : Tp w1 b g :=
  ht.grown h1 (fun e => by have := (own.lt _ e).1; omega) (fun e => by have := (own.lt _ e).1; omega)
theorem own_tape {wr w1 : World} {b base : Nat} {e : TypeId} {size n : Nat} {v : Value} {xs : List Value} (own : wr.ownsRow base e size v n xs) (h1 : wr.grownBy w1 (some b)) (hb : b < base) : w1.ownsRow base e size v n xs :=
  own.kept h1 (.inr (fun e => by have := (own.lt _ e).1; omega))
def ExRel (w : World) (b g d n : Nat) (op : Int) (v8 v9 : Value) (wr : World) : Prop :=
  ∃ (ks : List X) (j : Nat), v9 = .int .i64 (j : Int) ∧ ks.length + j = ar op ∧ wr.ownsRow w.heap.size 40 5 v8 (1 + (flats ks).length) (((T.mk op V.null 0) :: flats ks).flatMap T.cells) ∧ wfs ks = true ∧ deepest ks ≤ d ∧ colsIn n (flats ks) ∧ Tp wr b g ∧ w.grownBy wr (some b)
theorem texpr (b g n : Nat) (hn : 1 ≤ n) (hn2 : n ≤ 1000) : ∀ (d : Nat) (w : World), 1 ≤ d → d ≤ 4 → Tp w b g → Calls Tryz.prog 13 #[.pointer (some ⟨b, 0, none⟩), .int .i64 (d : Int), .int .i64 (n : Int)] w (ExPost w b g d n) := by
  intro d
  induction d with
  | zero => intro w hd; omega
  | succ d ih =>
    intro w _ hd4 h
    have hlt := h.lt
    by_cases hd0 : d = 0
    · subst hd0
      go_enter Tryz.func13, Tryz.ntmps13
      go_wp2_with (go_at_call 28; refine (tleaf b g n _ hn2 h).mono ?_; intro e w1 hp; obtain ⟨B, t, rfl, hp⟩ := hp)
      go_ret
      exact leaf_ex hn (by omega) ⟨B, t, rfl, hp⟩
    have t1 : ¬ (d : Int) + 1 ≤ 1 := by omega
    have t2 : ¬ (d : Int) ≤ 0 := by omega
    go_enter Tryz.func13, Tryz.ntmps13
    go_wp2_with fail
    refine (next_c b g 4 _ (by omega) h).mono ?_
    rintro e w1 ⟨r, rfl, hr, ht1, hg1, hz1⟩
    have hz1' := hg1.size
    clear hz1
    by_cases hr0 : r = 0
    · have tr : ((r : Int) == 0) = true := by simpa using hr0
      clear hr0
      go_wp2_with (go_at_call 28; refine (tleaf b g n _ hn2 ht1).mono ?_; intro e w2 hp; obtain ⟨B, t, rfl, hp⟩ := hp)
      go_ret
      exact (leaf_ex (d := d + 1) hn (by omega) ⟨B, t, rfl, hp⟩).from hg1
    · have tr : ((r : Int) == 0) = false := by simpa using hr0
      clear hr0
      go_wp2_with fail
      refine (next_c b g 16 _ (by omega) ht1).mono ?_
      rintro e w2 ⟨o, rfl, ho, ht2, hg2, hz2⟩
      have hz2' := hg2.size
      clear hz2
      have how : IntKind.i64.wrap (3 + (o : Int)) = 3 + (o : Int) := IntWalk.i64_in _ (by omega)
      have hltg := h.ltg
      have h12 := grown_trans hg1 hg2
      have har := arity_range (3 + (o : Int))
      have hak : 0 ≤ arity (3 + (o : Int)) := by
        have := ok_op (op := 3 + (o : Int)) (by omega) (by omega)
        unfold T.ok at this
        rw [Bool.and_eq_true, decide_eq_true_eq] at this
        exact this.1
      have HA := Lib.hid (show arity (3 + (o : Int)) = (ar (3 + (o : Int)) : Int) by unfold ar; omega)
      go_wp2_with (go_at_call 29; refine (rarity _ _).mono ?_; rintro e w3 ⟨rfl, rfl⟩; rw [HA.out])
      have ow := own_base (own_new w2 (T.mk (3 + (o : Int)) V.null 0).cells.toArray 40 5 1 (by decide) rfl) (show w.heap.size ≤ w2.heap.size by omega)
      have HN := Lib.hid (ar_le (3 + (o : Int)))
      have HOK := Lib.hid (ok_op (op := 3 + (o : Int)) (by omega) (by omega))
      go_loopw [8, 9] (fun v8 v9 wr => ExRel w b g d n (3 + (o : Int)) v8 v9 wr) (fun _ v9 _ => (intOf v9).toNat)
      case atStart => exact ⟨[], _, rfl, by simp, by rw [show flats [] = [] by simp [flats]]; exact ow, by simp [wfs], by simp [deepest], by intro u hu; simp [flats] at hu, by (repeat (first | (with_reducible assumption) | (with_reducible refine Tp.drew ?_) | (with_reducible refine Tp.drewN ?_ _) | (with_reducible refine Tp.alloc ?_ _) | ((with_reducible refine Tp.setFar ?_ ?_ ?_ _); rotate_left; (focus (first | (simp; done) | (simp; omega) | omega)); (focus (first | (simp; done) | (simp; omega) | omega))) | ((with_reducible apply Tp.step); (focus (with_reducible assumption))))), by (repeat (first | (with_reducible exact grown_refl _ _) | (with_reducible assumption) | (with_reducible refine only_drew ?_) | (with_reducible refine only_drewN ?_ _) | ((with_reducible refine only_setCell ?_ ?_ _); rotate_left; (focus (first | (simp; done) | (simp; omega) | omega | (right; simp; done) | (right; simp; omega) | (right; omega)))) | (with_reducible refine only_alloc ?_ _) | ((with_reducible apply only_step); (focus (with_reducible assumption))) | ((with_reducible apply only_trans); (focus (with_reducible assumption)))))⟩
      case round =>
        obtain ⟨ks, j, rfl, hj, hown, hws, hdk, hcl, htr, hgr⟩ := hrel
        have HJ := Lib.hid hj
        have HW := Lib.hid hws
        have HC := Lib.hid hcl
        clear hj hws hcl
        have hzz := hgr.size
        have hsz : (flats ks).length ≤ 1000 := by
          have h1 := sizes_le ks HW.out
          have h2 := HN.out
          have h3 := HJ.out
          have p : 3 ^ deepest ks ≤ 3 ^ 4 := Nat.pow_le_pow_right (by omega) (by omega)
          have h4 := Nat.mul_le_mul (show ks.length ≤ 3 by omega) p
          omega
        by_cases hk0 : 0 < j
        · have hk1 : (0 : Int) < (j : Int) := by omega
          have hdw : IntKind.i64.wrap ((d : Int) + 1 - 1) = (d : Int) := by rw [show (d : Int) + 1 - 1 = d by omega]; exact IntWalk.i64_in _ (by omega)
          have hjw : IntKind.i64.wrap ((j : Int) - 1) = (j : Int) - 1 := IntWalk.i64_in _ (by have := HJ.out; have := HN.out; omega)
          have ihe := ih wr (by omega) (by omega) htr
          go_wp2_with (first
            | (go_at_call 13; refine ihe.mono ?_; rintro e w4 ⟨A4, c4, x4, rfl, o4, f4, d4, cl4, ht4, hg4⟩; have hz4 := hg4.size; have ow4 := own_tape hown hg4 hlt; have F4 := Lib.hid f4; have CL4 := Lib.hid cl4; have S4 := X.size4 f4 (by omega); clear f4 cl4)
            | (at_builtin; refine wpList_appAny (v := u8) rfl _ _ stT rfl rfl ow4 rfl (news := x4.flat.flatMap T.cells) (tcells_len _) (Rd.of_own o4) (own_none o4) (tcells_one _) (by omega) (by omega) ?_; intro v5 w5 o5 g5 _; have hz5 := g5.size))
          have ht5 := Tp.own ht4 ow4 g5 hlt hltg
          have hg5 := grown_own (grown_trans hgr hg4) ow4 g5
          go_roundw
          case rel =>
            refine ⟨ks ++ [x4], j - 1, by go_num, by have := HJ.out; simp; omega, ?_, ?_, ?_, ?_, ht5, hg5⟩
            · rw [flats_snoc, List.length_append, ← Nat.add_assoc, ← List.cons_append, List.flatMap_append]
              exact o5
            · rw [wfs_snoc, HW.out, F4.out]; rfl
            · rw [deepest_snoc]; omega
            · rw [flats_snoc]; exact colsIn_append HC.out CL4.out
          case measure => simp [intOf]; omega
        · obtain rfl : j = 0 := by omega
          obtain ⟨A8, c8, rfl, _, _⟩ := own_slice hown
          go_wp2_with fail
          go_ret
          refine ⟨A8, c8, .node ⟨3 + (o : Int), V.null, 0⟩ ks, ?_, ?_, ?_, ?_, ?_, htr, hgr⟩
          · rw [X.flat_node, List.length_cons, Nat.add_comm]; rfl
          · rw [X.flat_node, List.length_cons, Nat.add_comm]; exact hown
          · have := HJ.out
            simp [X.wf, HOK.out, HW.out]
            omega
          · simp only [X.depth]; omega
          · rw [X.flat_node]
            intro u hu hu2
            rcases List.mem_cons.1 hu with rfl | hu
            · exfalso; simp only at hu2; omega
            · exact HC.out u hu hu2
theorem stI : SliceTy Tryz.prog 22 3 1 8 := SliceTy.mk' Tryz.underlying22 (z := .int .i64 0) (by kernel_rfl) rfl (by decide) (by decide)
def icells (l : List Int) : List Value := l.map fun n => .int .i64 n
theorem icells_one (l : List Int) : ∀ u ∈ icells l, u.oneCell' = true := by
  intro u hu
  obtain ⟨c, _, rfl⟩ := List.mem_map.1 hu
  rfl
structure IntsR (w : World) (A : Option Addr) (n c : Nat) (zs : List Int) : Prop where
  len : zs.length = n
  none_ : A = none → n = 0 ∧ c = 0
  size : n ≤ 17592186044416
  rd : Rd w w.heap.size A (icells zs)
def NewPost (w : World) (e : Ending) (w' : World) : Prop := ∃ b g, e = .returned (.pointer (some ⟨b, 0, none⟩)) ∧ Tp w' b g ∧ w.heap.size ≤ b ∧ w.heap.size ≤ g ∧ Below w.heap.size w w'
theorem new_c (A : Option Addr) (n c : Nat) (zs : List Int) (w : World) (h : IntsR w A n c zs) :
    Calls Tryz.prog 6 #[.slice A n c] w (NewPost w) := by
  obtain ⟨h1, h2, h3, h4⟩ := h
  have H2 := Lib.hid (fun e => (h2 e).2)
  clear h2
  go_enter Tryz.func6, Tryz.ntmps6
  go_wp2_with (at_builtin; refine wpList_appAny (v := .slice (some ⟨w.heap.size, 0, none⟩) 0 0) rfl _ _ stI rfl rfl (own_new w #[] 3 1 0 (by decide) rfl) rfl (news := icells zs) (by simp [icells, h1]) (h4.keep fun p hp => World.cell?_alloc_lt w _ p hp) H2.out (icells_one _) (by omega) (by simp) ?_; intro v2 w2 own2 hg2 hat2; obtain ⟨A2, c2, hv2, _, _⟩ := own_slice own2; rw [hv2] at own2 ⊢)
  go_ret
  have hz2 := hg2.size
  simp at hz2
  have hb : Below w.heap.size w w2 := ⟨hg2.os, hg2.tape, hg2.output, by omega, fun k hk => (hg2.block k (by simp; omega) (by simp [Value.ownBlock]; omega)).trans (Below.heap_alloc w _ k hk)⟩
  have tp : ∃ g, w.heap.size ≤ g ∧ Tp (w2.alloc (.cells #[.slice A2 (0 + n) c2, .int .i64 0] 45)) w2.heap.size g := by
    rcases own2.2 with ⟨e1, e2⟩ | ⟨g, cap, cur, e1, e2, e3, _⟩
    · refine ⟨w.heap.size, Nat.le_refl _, by omega, by simp, by simp; omega, A2, 0 + n, c2, 0, 0, heap_alloc_new _ _, by omega, by omega, fun h0 => absurd e2 (by omega)⟩
    · injection e1 with e1 _ _
      subst e1
      have hgl : g < w2.heap.size := by
        rcases Nat.lt_or_ge g w2.heap.size with hl | hl
        · exact hl
        · rw [Array.getElem?_eq_none hl] at e3; cases e3
      refine ⟨g, e2, by omega, by simp, by simp; omega, _, 0 + n, c2, 0, 0, heap_alloc_new _ _, by omega, by omega, fun h0 => ⟨rfl, fun j hj => ?_⟩⟩
      have hjl : j < zs.length := by omega
      have hc := own2.cells (g := g) (by simp [Value.ownBlock]) j (.int .i64 zs[j]) (by simp [icells, hjl])
      rw [addr_add0] at hc
      exact ⟨zs[j], (World.cell?_alloc_lt w2 _ ⟨g, 0 + j, none⟩ hgl).trans hc⟩
  obtain ⟨g, hg, tp⟩ := tp
  rw [Nat.zero_add] at tp
  exact ⟨w2.heap.size, g, rfl, tp, by omega, hg, hb.alloc (by omega) _⟩
theorem validE_len {l : List T} (h : validE l = true) : l.length ≤ 64 := ((validE_iff l).1 h).1
end Go.Proofs.YtpnfbehbheddeaaGreatDoor
