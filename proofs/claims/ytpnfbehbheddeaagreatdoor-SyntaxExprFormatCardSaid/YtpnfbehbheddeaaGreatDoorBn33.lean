/- Contracts of the tape's Text and Int with the value's kind, of leaf and Expr: a well-formed expression comes back, and only the tape's own block has changed. Contract of the tape's Expr: a well-formed expression comes back, and only the tape's own block has changed. Contracts of the reference's Operands, eval, Eval and Holds: expressions of at most a thousand terms. Contracts of the reference's eval, Eval and Holds: expressions of at most a thousand terms. -/
import Derived.Test.YtpnfbehbheddeaaGreatDoorBn10
import Derived.Test.YtpnfbehbheddeaaGreatDoorBn06
import Derived.Test.YtpnfbehbheddeaaGreatDoorBn09
import Derived.Test.YtpnfbehbheddeaaGreatDoorBn21
import Derived.Test.YtpnfbehbheddeaaGreatDoorBn08
import Derived.Test.YtpnfbehbheddeaaGreatDoorBn03
import Derived.Test.YtpnfbehbheddeaaGreatDoorBn00
import Derived.Test.YtpnfbehbheddeaaGreatDoorBn01
import Derived.Laws.StructEq
import Derived.Deep.DeepCutAuto
import Derived.Deep.RegionWith
import Derived.Deep.Light
import Derived.Test.YtpnfbehbheddeaaGreatDoorShelf
namespace Go.Proofs.YtpnfbehbheddeaaGreatDoor
set_option maxRecDepth 100000
set_option maxHeartbeats 8000000
set_option linter.unusedVariables false
set_option linter.unusedSimpArgs false
open Go.RowKit
def KindPost (w : World) (b g : Nat) (k : Int) (e : Ending) (w' : World) : Prop :=
  ∃ v : V, e = .returned (.agg #[.int .i64 v.k, .int .i64 v.n, .string v.s]) ∧ v.ok = true ∧ v.k = k ∧ Tp w' b g ∧ w.grownBy w' (some b)
def isStr32 : Value → Bool | .string s => decide (s.size ≤ 32) | _ => false
theorem strs32_at (cs : Array Value) (h : cs.toList.all isStr32 = true) (r : Nat) (hr : r < cs.size) : ∃ s, cs[r]? = some (.string s) ∧ s.size ≤ 32 := by
  have h1 := List.all_eq_true.1 h cs[r] (by simp)
  have h2 : cs[r]? = some cs[r] := Array.getElem?_eq_getElem hr
  cases hv : cs[r] with
  | string s => rw [hv] at h1; exact ⟨s, by rw [h2, hv], by simpa [isStr32] using h1⟩
  | _ => rw [hv] at h1; cases h1
def isNum32 : Value → Bool | .int .i64 n => decide (-4294967296 ≤ n) && decide (n ≤ 4294967296) | _ => false
theorem nums32_at (cs : Array Value) (h : cs.toList.all isNum32 = true) (r : Nat) (hr : r < cs.size) : ∃ n, cs[r]? = some (.int .i64 n) ∧ (-4294967296 ≤ n ∧ n ≤ 4294967296) := by
  have h1 := List.all_eq_true.1 h cs[r] (by simp)
  have h2 : cs[r]? = some cs[r] := Array.getElem?_eq_getElem hr
  cases hv : cs[r] with
  | int k n =>
    cases k <;> first | (exfalso; rw [hv] at h1; cases h1; done) | (rw [hv] at h1; exact ⟨n, by rw [h2, hv], by simpa [isNum32] using h1⟩)
  | _ => rw [hv] at h1; cases h1
theorem strs32_cell {w : World} {b : Nat} {cs : Array Value} (hc : ∀ i, w.cell? ⟨b, i, none⟩ = cs[i]?) (h : cs.toList.all isStr32 = true) (r : Nat) (hr : r < cs.size) : ∃ s, w.cell? ⟨b, r, none⟩ = some (.string s) ∧ s.size ≤ 32 := by
  obtain ⟨s, hs, h2⟩ := strs32_at cs h r hr
  exact ⟨s, (hc r).trans hs, h2⟩
theorem nums32_cell {w : World} {b : Nat} {cs : Array Value} (hc : ∀ i, w.cell? ⟨b, i, none⟩ = cs[i]?) (h : cs.toList.all isNum32 = true) (r : Nat) (hr : r < cs.size) : ∃ n, w.cell? ⟨b, r, none⟩ = some (.int .i64 n) ∧ (-4294967296 ≤ n ∧ n ≤ 4294967296) := by
  obtain ⟨s, hs, h2⟩ := nums32_at cs h r hr
  exact ⟨s, (hc r).trans hs, h2⟩
theorem text_kind {s : ByteArray} (h : s.size ≤ 32) : (V.mk 2 0 s).cl.k = 2 := by
  rw [V.cl_of (by simp [V.ok, h])]
theorem int_kind {n : Int} (h : -4294967296 ≤ n ∧ n ≤ 4294967296) : (V.mk 1 n ⟨#[]⟩).cl.k = 1 := by
  rw [V.cl_of (by simp [V.ok, h.1, h.2]; rfl)]
theorem ttextK (b g : Nat) (w : World) (h : Tp w b g) : Calls Tryz.prog 51 #[.pointer (some ⟨b, 0, none⟩)] w (KindPost w b g 2) := by
  have HT := Lib.hid h
  have hlt := h.lt
  have hltg := h.ltg
  go_enter Tryz.func51, Tryz.ntmps51
  go_wp2_with fail
  refine (next_c b g 10 _ (by omega) ((HT.out.alloc _).alloc _)).mono ?_
  rintro e w1 ⟨r, rfl, hr, ht1, hg1, hz1⟩
  have q1 := (hg1.block (w.heap.size + 1) (by simp) (by simp; omega)).trans (heap_two _ _ _)
  have q0 := (hg1.block w.heap.size (by simp; omega) (by simp; omega)).trans (heap_one _ _ _)
  obtain ⟨c1, f1⟩ := blk_rules q1
  obtain ⟨c0, f0⟩ := blk_rules q0
  obtain ⟨s, cs1, hs32⟩ := strs32_cell c1 rfl r (show r < 10 by omega)
  have HK := Lib.hid (text_kind hs32)
  have c00 := c0 0
  have c01 := c0 1
  have c02 := c0 2
  have f00 := f0 0
  have f01 := f0 1
  have f02 := f0 2
  have hz : w.heap.size < w1.heap.size := by rw [hz1]; simp; omega
  have hr0 : (0 : Int) ≤ (r : Int) := by omega
  have hr10 : (r : Int) < 10 := by omega
  clear c1 f1 c0 f0 q0 q1 hr hz1 hs32
  go_wp2_with (go_at_call 94; refine (rtext s _).mono ?_; rintro e w2 ⟨rfl, hb2⟩; obtain ⟨hc2, hf2⟩ := bcell hb2; have hz2 := (hb2).size; (try simp at hz2))
  refine bodyPost_ret (by simp [results, Tryz.results51, go_sem, hc2, hz, c00, c01, c02]; rfl) rfl ?_
  refine ⟨_, rfl, V.cl_ok _, HK.out, ?_, ?_⟩
  · (repeat (first | (with_reducible assumption) | (with_reducible refine Tp.drew ?_) | (with_reducible refine Tp.drewN ?_ _) | (with_reducible refine Tp.alloc ?_ _) | ((with_reducible refine Tp.setFar ?_ ?_ ?_ _); rotate_left; (focus (first | (simp; done) | (simp; omega) | omega)); (focus (first | (simp; done) | (simp; omega) | omega))) | ((with_reducible apply Tp.step); (focus (with_reducible assumption)))))
  · (repeat (first | (with_reducible exact grown_refl _ _) | (with_reducible assumption) | (with_reducible refine only_drew ?_) | (with_reducible refine only_drewN ?_ _) | ((with_reducible refine only_setCell ?_ ?_ _); rotate_left; (focus (first | (simp; done) | (simp; omega) | omega | (right; simp; done) | (right; simp; omega) | (right; omega)))) | (with_reducible refine only_alloc ?_ _) | ((with_reducible apply only_step); (focus (with_reducible assumption))) | ((with_reducible apply only_trans); (focus (with_reducible assumption)))))
theorem tintK (b g : Nat) (w : World) (h : Tp w b g) : Calls Tryz.prog 52 #[.pointer (some ⟨b, 0, none⟩)] w (KindPost w b g 1) := by
  have HT := Lib.hid h
  have hlt := h.lt
  have hltg := h.ltg
  go_enter Tryz.func52, Tryz.ntmps52
  go_wp2_with fail
  refine (next_c b g 12 _ (by omega) ((HT.out.alloc _).alloc _)).mono ?_
  rintro e w1 ⟨r, rfl, hr, ht1, hg1, hz1⟩
  have q1 := (hg1.block (w.heap.size + 1) (by simp) (by simp; omega)).trans (heap_two _ _ _)
  have q0 := (hg1.block w.heap.size (by simp; omega) (by simp; omega)).trans (heap_one _ _ _)
  obtain ⟨c1, f1⟩ := blk_rules q1
  obtain ⟨c0, f0⟩ := blk_rules q0
  obtain ⟨s, cs1, hs32⟩ := nums32_cell c1 rfl r (show r < 12 by omega)
  have HK := Lib.hid (int_kind hs32)
  have c00 := c0 0
  have c01 := c0 1
  have c02 := c0 2
  have f00 := f0 0
  have f01 := f0 1
  have f02 := f0 2
  have hz : w.heap.size < w1.heap.size := by rw [hz1]; simp; omega
  have hr0 : (0 : Int) ≤ (r : Int) := by omega
  have hr12 : (r : Int) < 12 := by omega
  clear c1 f1 c0 f0 q0 q1 hr hz1 hs32
  go_wp2_with (go_at_call 95; refine (rint s _).mono ?_; rintro e w2 ⟨rfl, hb2⟩; obtain ⟨hc2, hf2⟩ := bcell hb2; have hz2 := (hb2).size; (try simp at hz2))
  refine bodyPost_ret (by simp [results, Tryz.results52, go_sem, hc2, hz, c00, c01, c02]; rfl) rfl ?_
  refine ⟨_, rfl, V.cl_ok _, HK.out, ?_, ?_⟩
  · (repeat (first | (with_reducible assumption) | (with_reducible refine Tp.drew ?_) | (with_reducible refine Tp.drewN ?_ _) | (with_reducible refine Tp.alloc ?_ _) | ((with_reducible refine Tp.setFar ?_ ?_ ?_ _); rotate_left; (focus (first | (simp; done) | (simp; omega) | omega)); (focus (first | (simp; done) | (simp; omega) | omega))) | ((with_reducible apply Tp.step); (focus (with_reducible assumption)))))
  · (repeat (first | (with_reducible exact grown_refl _ _) | (with_reducible assumption) | (with_reducible refine only_drew ?_) | (with_reducible refine only_drewN ?_ _) | ((with_reducible refine only_setCell ?_ ?_ _); rotate_left; (focus (first | (simp; done) | (simp; omega) | omega | (right; simp; done) | (right; simp; omega) | (right; omega)))) | (with_reducible refine only_alloc ?_ _) | ((with_reducible apply only_step); (focus (with_reducible assumption))) | ((with_reducible apply only_trans); (focus (with_reducible assumption)))))
def LeafPost (w : World) (b g n : Nat) (e : Ending) (w' : World) : Prop :=
  ∃ (B : Nat) (t : T), e = .returned (.slice (some ⟨B, 0, none⟩) 1 1) ∧ w'.ownsRow w.heap.size 40 5 (.slice (some ⟨B, 0, none⟩) 1 1) 1 t.cells ∧ t.ok = true ∧ (t.op = 1 ∨ t.op = 2 ∧ t.c < max n 1) ∧ Tp w' b g ∧ w.grownBy w' (some b)
theorem ok_col (c : Int) (h : 0 ≤ c) : (T.mk 2 V.null c).ok = true := by
  have h1 : V.null.beq V.null = true := rfl
  have h2 : arity 2 = 0 := rfl
  simp [T.ok, h1, h, h2]
theorem ok_cst (v : V) (h : v.ok = true) (hk : v.k ≠ 0) : (T.mk 1 v 0).ok = true := by
  have h2 : arity 1 = 0 := rfl
  simp [T.ok, h, hk, h2]
theorem tleaf (b g n : Nat) (w : World) (hn : n ≤ 1000) (h : Tp w b g) : Calls Tryz.prog 28 #[.pointer (some ⟨b, 0, none⟩), .int .i64 (n : Int)] w (LeafPost w b g n) := by
  have hlt := h.lt
  go_enter Tryz.func28, Tryz.ntmps28
  go_wp2_with fail
  refine (next_c b g 3 _ (by omega) h).mono ?_
  rintro e w1 ⟨r, rfl, hr, ht1, hg1, hz1⟩
  have hz1' := hg1.size
  clear hz1
  by_cases hr0 : 0 < r
  · have t0 : (0 : Int) < (r : Int) := by omega
    go_wp2_with fail
    refine (next_c b g n _ (by omega) ht1).mono ?_
    rintro e w2 ⟨c, rfl, hc, ht2, hg2, hz2⟩
    have hz2' := hg2.size
    clear hz2
    go_wp2_with fail
    go_ret
    refine ⟨_, ⟨2, V.null, c⟩, rfl, own_base (own_new w2 _ 40 5 1 (by decide) rfl) (by omega), ok_col _ (by omega), .inr ⟨rfl, ?_⟩, ?_, ?_⟩
    · show (c : Int) < _
      have : ((max n 1 : Nat) : Int) = max (n : Int) 1 := by omega
      omega
    · (repeat (first | (with_reducible assumption) | (with_reducible refine Tp.drew ?_) | (with_reducible refine Tp.drewN ?_ _) | (with_reducible refine Tp.alloc ?_ _) | ((with_reducible refine Tp.setFar ?_ ?_ ?_ _); rotate_left; (focus (first | (simp; done) | (simp; omega) | omega)); (focus (first | (simp; done) | (simp; omega) | omega))) | ((with_reducible apply Tp.step); (focus (with_reducible assumption)))))
    · (repeat (first | (with_reducible exact grown_refl _ _) | (with_reducible assumption) | (with_reducible refine only_drew ?_) | (with_reducible refine only_drewN ?_ _) | ((with_reducible refine only_setCell ?_ ?_ _); rotate_left; (focus (first | (simp; done) | (simp; omega) | omega | (right; simp; done) | (right; simp; omega) | (right; omega)))) | (with_reducible refine only_alloc ?_ _) | ((with_reducible apply only_step); (focus (with_reducible assumption))) | ((with_reducible apply only_trans); (focus (with_reducible assumption)))))
  · have t0 : ¬ (0 : Int) < (r : Int) := by omega
    go_wp2_with fail
    refine (next_c b g 2 _ (by omega) ht1).mono ?_
    rintro e w2 ⟨c, rfl, hc, ht2, hg2, hz2⟩
    have hz2' := hg2.size
    clear hz2
    by_cases hc0 : c = 0
    · have tc : ((c : Int) == 0) = true := by simpa using hc0
      clear hc0
      go_wp2_with (go_at_call 51; refine (ttextK b g _ ht2).mono ?_; rintro e w3 ⟨v, rfl, hv, hk, ht3, hg3⟩; have HV := Lib.hid hv; have HK := Lib.hid hk; clear hv hk; have hz3 := hg3.size)
      go_ret
      refine ⟨_, ⟨1, v, 0⟩, rfl, own_base (own_new w3 _ 40 5 1 (by decide) rfl) (by omega), ok_cst _ HV.out (by rw [HK.out]; decide), .inl rfl, ?_, ?_⟩
      · (repeat (first | (with_reducible assumption) | (with_reducible refine Tp.drew ?_) | (with_reducible refine Tp.drewN ?_ _) | (with_reducible refine Tp.alloc ?_ _) | ((with_reducible refine Tp.setFar ?_ ?_ ?_ _); rotate_left; (focus (first | (simp; done) | (simp; omega) | omega)); (focus (first | (simp; done) | (simp; omega) | omega))) | ((with_reducible apply Tp.step); (focus (with_reducible assumption)))))
      · (repeat (first | (with_reducible exact grown_refl _ _) | (with_reducible assumption) | (with_reducible refine only_drew ?_) | (with_reducible refine only_drewN ?_ _) | ((with_reducible refine only_setCell ?_ ?_ _); rotate_left; (focus (first | (simp; done) | (simp; omega) | omega | (right; simp; done) | (right; simp; omega) | (right; omega)))) | (with_reducible refine only_alloc ?_ _) | ((with_reducible apply only_step); (focus (with_reducible assumption))) | ((with_reducible apply only_trans); (focus (with_reducible assumption)))))
    · have tc : ((c : Int) == 0) = false := by simpa using hc0
      clear hc0
      go_wp2_with (go_at_call 52; refine (tintK b g _ ht2).mono ?_; rintro e w3 ⟨v, rfl, hv, hk, ht3, hg3⟩; have HV := Lib.hid hv; have HK := Lib.hid hk; clear hv hk; have hz3 := hg3.size)
      go_ret
      refine ⟨_, ⟨1, v, 0⟩, rfl, own_base (own_new w3 _ 40 5 1 (by decide) rfl) (by omega), ok_cst _ HV.out (by rw [HK.out]; decide), .inl rfl, ?_, ?_⟩
      · (repeat (first | (with_reducible assumption) | (with_reducible refine Tp.drew ?_) | (with_reducible refine Tp.drewN ?_ _) | (with_reducible refine Tp.alloc ?_ _) | ((with_reducible refine Tp.setFar ?_ ?_ ?_ _); rotate_left; (focus (first | (simp; done) | (simp; omega) | omega)); (focus (first | (simp; done) | (simp; omega) | omega))) | ((with_reducible apply Tp.step); (focus (with_reducible assumption)))))
      · (repeat (first | (with_reducible exact grown_refl _ _) | (with_reducible assumption) | (with_reducible refine only_drew ?_) | (with_reducible refine only_drewN ?_ _) | ((with_reducible refine only_setCell ?_ ?_ _); rotate_left; (focus (first | (simp; done) | (simp; omega) | omega | (right; simp; done) | (right; simp; omega) | (right; omega)))) | (with_reducible refine only_alloc ?_ _) | ((with_reducible apply only_step); (focus (with_reducible assumption))) | ((with_reducible apply only_trans); (focus (with_reducible assumption)))))
theorem own_none {w : World} {base : Nat} {e : TypeId} {size n c : Nat} {A : Option Addr} {xs : List Value} (h : w.ownsRow base e size (.slice A n c) n xs) : A = none → c = 0 := by
  rintro rfl
  rcases h.2 with ⟨h1, rfl⟩ | ⟨g, cap, cur, h1, _⟩
  · injection h1
  · injection h1 with h1 _ _; cases h1
theorem tcells_one (l : List T) : ∀ u ∈ l.flatMap T.cells, u.oneCell' = true := by
  intro u hu
  obtain ⟨t, _, ht⟩ := List.mem_flatMap.1 hu
  simp only [T.cells, List.mem_cons, List.not_mem_nil, or_false] at ht
  rcases ht with rfl | rfl | rfl | rfl | rfl <;> rfl
theorem tcells_len (l : List T) : (l.flatMap T.cells).length = l.length * 5 := flatMap_len 5 (fun _ => rfl) l
def ExPost (w : World) (b g d n : Nat) (e : Ending) (w' : World) : Prop :=
  ∃ (A : Option Addr) (c : Nat) (x : X), e = .returned (.slice A x.flat.length c) ∧ w'.ownsRow w.heap.size 40 5 (.slice A x.flat.length c) x.flat.length (x.flat.flatMap T.cells) ∧ x.wf = true ∧ x.depth ≤ d ∧ colsIn n x.flat ∧ Tp w' b g ∧ w.grownBy w' (some b)
theorem leaf_X (t : T) : (X.node t []).flat = [t] := by simp [X.flat, flats]
theorem leaf_ex {w : World} {b g d n : Nat} {e : Ending} {w' : World} (hn : 1 ≤ n) (hd : 1 ≤ d) (h : LeafPost w b g n e w') : ExPost w b g d n e w' := by
  obtain ⟨B, t, h1, h2, h3, h4, h5, h6⟩ := h
  have ha : ar t.op = 0 := by
    rcases h4 with h4 | ⟨h4, _⟩ <;> rw [h4] <;> rfl
  refine ⟨some ⟨B, 0, none⟩, 1, .node t [], by rw [leaf_X]; exact h1, by rw [leaf_X]; simpa using h2, ?_, by simp [X.depth, deepest]; omega, ?_, h5, h6⟩
  · simp [X.wf, wfs, h3, ha]
  · rw [leaf_X]
    intro u hu hu2
    simp at hu
    subst hu
    rcases h4 with h4 | ⟨_, h4⟩
    · omega
    · omega
theorem colsIn_append {n : Nat} {a b : List T} (h1 : colsIn n a) (h2 : colsIn n b) : colsIn n (a ++ b) := by
  intro t ht
  rcases List.mem_append.1 ht with h | h
  · exact h1 t h
  · exact h2 t h
theorem ok_op {op : Int} (h3 : 3 ≤ op) (h18 : op ≤ 18) : (T.mk op V.null 0).ok = true := by
  have h1 : V.null.beq V.null = true := rfl
  have ha : 0 ≤ arity op := by
    unfold arity
    split
    · omega
    · split
      · omega
      · split
        · omega
        · split <;> omega
  simp [T.ok, h1, ha]
  omega
theorem ExPost.from {w w1 : World} {b g d n : Nat} {e : Ending} {w' : World} (hg : w.grownBy w1 (some b)) (h : ExPost w1 b g d n e w') : ExPost w b g d n e w' := by
  obtain ⟨A, c, x, h1, h2, h3, h4, h5, h6, h7⟩ := h
  exact ⟨A, c, x, h1, own_base h2 hg.size, h3, h4, h5, h6, grown_trans hg h7⟩
theorem grown_own {w wr w1 : World} {b : Nat} {e : TypeId} {size n : Nat} {v : Value} {xs : List Value} (hg : w.grownBy wr (some b)) (own : wr.ownsRow w.heap.size e size v n xs) (h1 : wr.grownBy w1 v.ownBlock) : w.grownBy w1 (some b) :=
  ⟨h1.os.trans hg.os, h1.tape.trans hg.tape, h1.output.trans hg.output, Nat.le_trans hg.size h1.size, fun i hi hib => (h1.block i (Nat.lt_of_lt_of_le hi hg.size) (fun e => by have := (own.lt i e.symm).1; omega)).trans (hg.block i hi hib)⟩
theorem Tp.own {wr w1 : World} {b g base : Nat} {e : TypeId} {size n : Nat} {v : Value} {xs : List Value} (ht : Tp wr b g) (own : wr.ownsRow base e size v n xs) (h1 : wr.grownBy w1 v.ownBlock) (hb : b < base) (hg : g < base) : Tp w1 b g :=
  ht.grown h1 (fun e => by have := (own.lt _ e).1; omega) (fun e => by have := (own.lt _ e).1; omega)
theorem own_tape {wr w1 : World} {b base : Nat} {e : TypeId} {size n : Nat} {v : Value} {xs : List Value} (own : wr.ownsRow base e size v n xs) (h1 : wr.grownBy w1 (some b)) (hb : b < base) : w1.ownsRow base e size v n xs :=
  own.kept h1 (.inr (fun e => by have := (own.lt _ e).1; omega))
def ExRel (w : World) (b g d n : Nat) (op : Int) (v8 v9 : Value) (wr : World) : Prop :=
  ∃ (ks : List X) (j : Nat), v9 = .int .i64 (j : Int) ∧ ks.length + j = ar op ∧ wr.ownsRow w.heap.size 40 5 v8 (1 + (flats ks).length) (((T.mk op V.null 0) :: flats ks).flatMap T.cells) ∧ wfs ks = true ∧ deepest ks ≤ d ∧ colsIn n (flats ks) ∧ Tp wr b g ∧ w.grownBy wr (some b)
theorem texpr (b g n : Nat) (hn : 1 ≤ n) (hn2 : n ≤ 1000) : ∀ (d : Nat) (w : World), 1 ≤ d → d ≤ 4 → Tp w b g → Calls Tryz.prog 13 #[.pointer (some ⟨b, 0, none⟩), .int .i64 (d : Int), .int .i64 (n : Int)] w (ExPost w b g d n) := by
  intro d
  induction d with
  | zero => intro w hd; omega
  | succ d ih =>
    intro w _ hd4 h
    have hlt := h.lt
    by_cases hd0 : d = 0
    · subst hd0
      go_enter Tryz.func13, Tryz.ntmps13
      go_wp2_with (go_at_call 28; refine (tleaf b g n _ hn2 h).mono ?_; intro e w1 hp; obtain ⟨B, t, rfl, hp⟩ := hp)
      go_ret
      exact leaf_ex hn (by omega) ⟨B, t, rfl, hp⟩
    have t1 : ¬ (d : Int) + 1 ≤ 1 := by omega
    have t2 : ¬ (d : Int) ≤ 0 := by omega
    go_enter Tryz.func13, Tryz.ntmps13
    go_wp2_with fail
    refine (next_c b g 4 _ (by omega) h).mono ?_
    rintro e w1 ⟨r, rfl, hr, ht1, hg1, hz1⟩
    have hz1' := hg1.size
    clear hz1
    by_cases hr0 : r = 0
    · have tr : ((r : Int) == 0) = true := by simpa using hr0
      clear hr0
      go_wp2_with (go_at_call 28; refine (tleaf b g n _ hn2 ht1).mono ?_; intro e w2 hp; obtain ⟨B, t, rfl, hp⟩ := hp)
      go_ret
      exact (leaf_ex (d := d + 1) hn (by omega) ⟨B, t, rfl, hp⟩).from hg1
    · have tr : ((r : Int) == 0) = false := by simpa using hr0
      clear hr0
      go_wp2_with fail
      refine (next_c b g 16 _ (by omega) ht1).mono ?_
      rintro e w2 ⟨o, rfl, ho, ht2, hg2, hz2⟩
      have hz2' := hg2.size
      clear hz2
      have how : IntKind.i64.wrap (3 + (o : Int)) = 3 + (o : Int) := IntWalk.i64_in _ (by omega)
      have hltg := h.ltg
      have h12 := grown_trans hg1 hg2
      have har := arity_range (3 + (o : Int))
      have hak : 0 ≤ arity (3 + (o : Int)) := by
        have := ok_op (op := 3 + (o : Int)) (by omega) (by omega)
        unfold T.ok at this
        rw [Bool.and_eq_true, decide_eq_true_eq] at this
        exact this.1
      have HA := Lib.hid (show arity (3 + (o : Int)) = (ar (3 + (o : Int)) : Int) by unfold ar; omega)
      go_wp2_with (go_at_call 29; refine (rarity _ _).mono ?_; rintro e w3 ⟨rfl, rfl⟩; rw [HA.out])
      have ow := own_base (own_new w2 (T.mk (3 + (o : Int)) V.null 0).cells.toArray 40 5 1 (by decide) rfl) (show w.heap.size ≤ w2.heap.size by omega)
      have HN := Lib.hid (ar_le (3 + (o : Int)))
      have HOK := Lib.hid (ok_op (op := 3 + (o : Int)) (by omega) (by omega))
      go_loopw [8, 9] (fun v8 v9 wr => ExRel w b g d n (3 + (o : Int)) v8 v9 wr) (fun _ v9 _ => (intOf v9).toNat)
      case atStart => exact ⟨[], _, rfl, by simp, by rw [show flats [] = [] by simp [flats]]; exact ow, by simp [wfs], by simp [deepest], by intro u hu; simp [flats] at hu, by (repeat (first | (with_reducible assumption) | (with_reducible refine Tp.drew ?_) | (with_reducible refine Tp.drewN ?_ _) | (with_reducible refine Tp.alloc ?_ _) | ((with_reducible refine Tp.setFar ?_ ?_ ?_ _); rotate_left; (focus (first | (simp; done) | (simp; omega) | omega)); (focus (first | (simp; done) | (simp; omega) | omega))) | ((with_reducible apply Tp.step); (focus (with_reducible assumption))))), by (repeat (first | (with_reducible exact grown_refl _ _) | (with_reducible assumption) | (with_reducible refine only_drew ?_) | (with_reducible refine only_drewN ?_ _) | ((with_reducible refine only_setCell ?_ ?_ _); rotate_left; (focus (first | (simp; done) | (simp; omega) | omega | (right; simp; done) | (right; simp; omega) | (right; omega)))) | (with_reducible refine only_alloc ?_ _) | ((with_reducible apply only_step); (focus (with_reducible assumption))) | ((with_reducible apply only_trans); (focus (with_reducible assumption)))))⟩
      case round =>
        obtain ⟨ks, j, rfl, hj, hown, hws, hdk, hcl, htr, hgr⟩ := hrel
        have HJ := Lib.hid hj
        have HW := Lib.hid hws
        have HC := Lib.hid hcl
        clear hj hws hcl
        have hzz := hgr.size
        have hsz : (flats ks).length ≤ 1000 := by
          have h1 := sizes_le ks HW.out
          have h2 := HN.out
          have h3 := HJ.out
          have p : 3 ^ deepest ks ≤ 3 ^ 4 := Nat.pow_le_pow_right (by omega) (by omega)
          have h4 := Nat.mul_le_mul (show ks.length ≤ 3 by omega) p
          omega
        by_cases hk0 : 0 < j
        · have hk1 : (0 : Int) < (j : Int) := by omega
          have hdw : IntKind.i64.wrap ((d : Int) + 1 - 1) = (d : Int) := by rw [show (d : Int) + 1 - 1 = d by omega]; exact IntWalk.i64_in _ (by omega)
          have hjw : IntKind.i64.wrap ((j : Int) - 1) = (j : Int) - 1 := IntWalk.i64_in _ (by have := HJ.out; have := HN.out; omega)
          have ihe := ih wr (by omega) (by omega) htr
          go_wp2_with (first
            | (go_at_call 13; refine ihe.mono ?_; rintro e w4 ⟨A4, c4, x4, rfl, o4, f4, d4, cl4, ht4, hg4⟩; have hz4 := hg4.size; have ow4 := own_tape hown hg4 hlt; have F4 := Lib.hid f4; have CL4 := Lib.hid cl4; have S4 := X.size4 f4 (by omega); clear f4 cl4)
            | (at_builtin; refine wpList_appAny (v := u8) rfl _ _ stT rfl rfl ow4 rfl (news := x4.flat.flatMap T.cells) (tcells_len _) (Rd.of_own o4) (own_none o4) (tcells_one _) (by omega) (by omega) ?_; intro v5 w5 o5 g5 _; have hz5 := g5.size))
          have ht5 := Tp.own ht4 ow4 g5 hlt hltg
          have hg5 := grown_own (grown_trans hgr hg4) ow4 g5
          go_roundw
          case rel =>
            refine ⟨ks ++ [x4], j - 1, by go_num, by have := HJ.out; simp; omega, ?_, ?_, ?_, ?_, ht5, hg5⟩
            · rw [flats_snoc, List.length_append, ← Nat.add_assoc, ← List.cons_append, List.flatMap_append]
              exact o5
            · rw [wfs_snoc, HW.out, F4.out]; rfl
            · rw [deepest_snoc]; omega
            · rw [flats_snoc]; exact colsIn_append HC.out CL4.out
          case measure => simp [intOf]; omega
        · obtain rfl : j = 0 := by omega
          obtain ⟨A8, c8, rfl, _, _⟩ := own_slice hown
          go_wp2_with fail
          go_ret
          refine ⟨A8, c8, .node ⟨3 + (o : Int), V.null, 0⟩ ks, ?_, ?_, ?_, ?_, ?_, htr, hgr⟩
          · rw [X.flat_node, List.length_cons, Nat.add_comm]; rfl
          · rw [X.flat_node, List.length_cons, Nat.add_comm]; exact hown
          · have := HJ.out
            simp [X.wf, HOK.out, HW.out]
            omega
          · simp only [X.depth]; omega
          · rw [X.flat_node]
            intro u hu hu2
            rcases List.mem_cons.1 hu with rfl | hu
            · exfalso; simp only at hu2; omega
            · exact HC.out u hu hu2
theorem stTT : SliceTy Tryz.prog 130 27 1 24 := SliceTy.mk' Tryz.underlying130 (z := .slice none 0 0) (by kernel_rfl) rfl (by decide) (by decide)
def opCells (b off c : Nat) : Nat → List X → List Value
  | _, [] => []
  | p, k :: ks => .slice (some ⟨b, off + p * 5, none⟩) k.flat.length (c - p) :: opCells b off c (p + k.flat.length) ks
theorem opCells_snoc (b off c : Nat) : ∀ (ks : List X) (p : Nat) (k : X), opCells b off c p (ks ++ [k]) = opCells b off c p ks ++ [.slice (some ⟨b, off + (p + (flats ks).length) * 5, none⟩) k.flat.length (c - (p + (flats ks).length))] := by
  intro ks
  induction ks with
  | nil => intro p k; simp [opCells, flats]
  | cons y ys ih =>
    intro p k
    simp only [List.cons_append, opCells, ih, flats_cons, List.length_append, Nat.add_assoc]
theorem opCells_at (b off c : Nat) : ∀ (ks : List X) (p i : Nat) (k : X), ks[i]? = some k → (opCells b off c p ks)[i]? = some (.slice (some ⟨b, off + (p + (flats (ks.take i)).length) * 5, none⟩) k.flat.length (c - (p + (flats (ks.take i)).length))) := by
  intro ks
  induction ks with
  | nil => intro p i k h; simp at h
  | cons y ys ih =>
    intro p i k h
    cases i with
    | zero => simp at h; subst h; simp [opCells, flats]
    | succ i =>
      simp at h
      rw [opCells, List.getElem?_cons_succ, ih _ _ _ h, List.take_succ_cons, flats_cons, List.length_append, Nat.add_assoc]
theorem endO_flat {es : List T} {at_ dp : Nat} {k : X} {r : List T} (h : es.drop at_ = k.flat ++ r) (hw : k.wf = true) (hd : k.depth ≤ dp) : endO es at_ dp = ((at_ + k.flat.length : Nat) : Int) := by
  unfold endO
  rw [h, readX_flat k r dp hw hd]
theorem RowT.part {w : World} {B b off n : Nat} {es y r : List T} {p : Nat} (h : RowT w B (some ⟨b, off, none⟩) n es) (hp : es.drop p = y ++ r) : RowT w B (some ⟨b, off + p * 5, none⟩) y.length y := by
  refine ⟨rfl, fun hne => ?_⟩
  have hes : es = es.take p ++ (y ++ r) := by rw [← hp, List.take_append_drop]
  have hpl : (es.take p).length = p := by
    have h1 : y ≠ [] := by rintro rfl; exact hne rfl
    have h2 := congrArg List.length hp
    rw [List.length_drop, List.length_append] at h2
    have h3 : 0 < y.length := List.length_pos_iff.2 h1
    rw [List.length_take]; omega
  have hcells : es.flatMap T.cells = (es.take p).flatMap T.cells ++ (y.flatMap T.cells ++ r.flatMap T.cells) := by
    conv => lhs; rw [hes]
    simp
  have hl : ((es.take p).flatMap T.cells).length = p * 5 := by rw [flatMap_len 5 (fun _ => rfl), hpl]
  obtain ⟨b', off', e, hb, hc⟩ := h.rd (by
    rw [hcells]
    intro h0
    have := List.append_eq_nil_iff.1 h0
    exact hne (List.append_eq_nil_iff.1 this.2).1)
  injection e with e
  injection e with e1 e2
  subst e1 e2
  refine ⟨b, off + p * 5, rfl, hb, fun j u hu => ?_⟩
  have hj : j < (y.flatMap T.cells).length := (List.getElem?_eq_some_iff.1 hu).1
  have := hc (p * 5 + j) u (by
    rw [hcells, List.getElem?_append_right (by omega), hl, Nat.add_sub_cancel_left, List.getElem?_append_left hj]
    exact hu)
  rw [← Nat.add_assoc] at this
  exact this
def OpsPost (w : World) (b off c : Nat) (ks : List X) (e : Ending) (w' : World) : Prop := ∃ v, e = .returned v ∧ w'.ownsRow w.heap.size 27 1 v ks.length (opCells b off c 1 ks) ∧ Below w.heap.size w w'
theorem operands_c (b off n c : Nat) (t : T) (ks : List X) (w : World) (hn : n ≤ 1000) (hnc : n ≤ c) (_hcm : c ≤ maxLen) (hw : (X.node t ks).wf = true) (hd : (X.node t ks).depth ≤ 17) (hr : RowT w w.heap.size (some ⟨b, off, none⟩) n (X.node t ks).flat) : Calls Tryz.prog 74 #[.slice (some ⟨b, off, none⟩) n c] w (OpsPost w b off c ks) := by
  have hlen := hr.len
  rw [X.flat_node, List.length_cons] at hlen
  have HLN := Lib.hid hlen
  have hk3 : ks.length ≤ 3 := by
    simp only [X.wf, Bool.and_eq_true, decide_eq_true_eq] at hw
    have := ar_le t.op
    omega
  have hdk : deepest ks ≤ 16 := by simp only [X.depth] at hd; omega
  have hwk : wfs ks = true := by simp only [X.wf, Bool.and_eq_true] at hw; exact hw.2.2
  have HW := Lib.hid hwk
  clear hlen hwk hw hd
  unfold maxLen at _hcm
  go_enter Tryz.func74, Tryz.ntmps74
  go_wp2_with fail
  go_loopw [3, 4] (fun v3 v4 wr => ∃ i p : Nat, i ≤ ks.length ∧ v4 = .int .i64 (p : Int) ∧ Hid (p = 1 + (flats (ks.take i)).length) ∧ wr.ownsRow w.heap.size 27 1 v3 i (opCells b off c 1 (ks.take i)) ∧ Below w.heap.size w wr) (fun _ v4 _ => n - (intOf v4).toNat)
  case atStart => exact ⟨0, 1, Nat.zero_le _, rfl, by show _ = _; simp [flats], World.ownsRow_nil _ _ _ _, by (exact belQ)⟩
  case round =>
    obtain ⟨i, p, hi, rfl, HP, hown, hbel⟩ := hrel
    have hzz := hbel.size
    by_cases hlt : i < ks.length
    · have hki : ks[i]? = some ks[i] := List.getElem?_eq_getElem hlt
      generalize ks[i] = k at hki
      obtain ⟨k1, k2, k3⟩ := kid_in hki
      have hka := kid_at (t := t) (es := (X.node t ks).flat) (pos := 0) (r := []) (by simp) hki
      rw [Nat.zero_add, ← HP.out] at hka
      have hend := rend (some ⟨b, off, none⟩) n c _ hn 16 p wr (by omega) (by
        have h2 := congrArg List.length hka
        rw [List.length_drop, List.length_append, hr.len] at h2
        have h4 := k.flat_pos
        omega) ((hr.below hbel).more hzz)
      rw [endO_flat hka (k2 HW.out) (by omega)] at hend
      have hkp := k.flat_pos
      have hbnd : p + k.flat.length ≤ n := by
        have h2 := congrArg List.length hka
        rw [List.length_drop, List.length_append, hr.len] at h2
        omega
      have HQ := Lib.hid (show p + k.flat.length = 1 + (flats (ks.take (i + 1))).length by rw [k3, HP.out]; omega)
      have HC := Lib.hid (show opCells b off c 1 (ks.take (i + 1)) = opCells b off c 1 (ks.take i) ++ [.slice (some ⟨b, off + p * 5, none⟩) k.flat.length (c - p)] by
        rw [List.take_add_one, hki, Option.toList_some, opCells_snoc, ← HP.out])
      obtain ⟨q, hq⟩ : ∃ q, p + k.flat.length = q := ⟨_, rfl⟩
      rw [hq] at hend hbnd HQ
      have hpq : p < q := by omega
      have HLQ := Lib.hid (show k.flat.length = q - p by omega)
      rw [HLQ.out] at HC
      clear hka hki k1 k2 k3 hq hkp
      have hpn : (p : Int) < (n : Int) := by omega
      have hpc : p ≠ c := by omega
      have h1 : (p : Int) ≤ (q : Int) := by omega
      have h2 : (q : Int) ≤ (c : Int) := by omega
      have h3 : (0 : Int) ≤ (p : Int) := by omega
      go_wp2_with (first
        | (go_at_call 69; refine hend.mono ?_; rintro e w1 ⟨rfl, hb1⟩; have hz1 := hb1.size; have own1 := own_below hown hb1)
        | (at_builtin; refine wpList_app (v := u3) rfl _ _ stTT rfl rfl (own1) rfl (by simp) rfl (by simp [Value.oneCell']) (by omega) (by omega) ?_; intro v' w2 own2 hg2 hat2))
      have hb2 := below_app (below_step hb1 hbel (Nat.le_refl _)) own1 hg2 (Nat.le_refl _) (by omega)
      refine ⟨⟨i + 1, q, by omega, rfl, HQ, ?_, hb2⟩, by simp [intOf]; omega⟩
      rw [HC.out]
      exact own2
    · obtain rfl : i = ks.length := by omega
      have hpn : p = n := by
        have h1 := HP.out
        rw [List.take_length] at h1
        have := HLN.out
        omega
      subst hpn
      go_wp2_with fail
      go_ret
      rw [List.take_length] at hown
      exact ⟨_, rfl, hown, hbel⟩
theorem RowT.head5 {w : World} {B n : Nat} {A : Option Addr} {t : T} {l : List T} (h : RowT w B A n (t :: l)) :
   ∃ b off, A = some ⟨b, off, none⟩ ∧ b < B ∧ w.cell? ⟨b, off, none⟩ = some (.int .i64 t.op) ∧ w.cell? ⟨b, off + 1, none⟩ = some (.int .i64 t.v.k) ∧ w.cell? ⟨b, off + 2, none⟩ = some (.int .i64 t.v.n) ∧ w.cell? ⟨b, off + 3, none⟩ = some (.string t.v.s) ∧ w.cell? ⟨b, off + 4, none⟩ = some (.int .i64 t.c) := by
  obtain ⟨b, off, t', h1, h2, h3, h4, h5, h6, h7, h8⟩ := RowT.at5 h (k := 0) (by have := h.len; simp at this; omega)
  simp at h3
  subst h3
  simp only [Nat.zero_mul, Nat.add_zero] at h4 h5 h6 h7 h8
  exact ⟨b, off, h1, h2, h4, h5, h6, h7, h8⟩
end Go.Proofs.YtpnfbehbheddeaaGreatDoor
