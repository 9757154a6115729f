/- Contract of whole: the parser of expressions is the mirror. The numbers of the tokens are from 0 to 2^32, at most 100000 tokens. The values of expressions, as the program and as the reference reckon them, in plain Lean, and that both agree. No program in sight, no condition. Contract of the program's validTerm. No condition. How an expression is measured from the left to the right, in plain Lean: the program's measure, the reference's end. No program in sight, no condition. Contract of the program's measure: rows of at most a thousand terms. -/
import Derived.Test.YtpnfbehbheddeaaGreatDoorBn07
import Derived.Test.YtpnfbehbheddeaaGreatDoorBn03
import Derived.Test.YtpnfbehbheddeaaGreatDoorBn06
namespace Go.Proofs.YtpnfbehbheddeaaGreatDoor
set_option maxRecDepth 100000
set_option maxHeartbeats 8000000
set_option linter.unusedVariables false
set_option linter.unusedSimpArgs false
open Go.RowKit
structure Levels (p : Pp) (f : Nat) : Prop where
  l0 : OpC p 281 0 f
  l1 : OpC p 267 1 f
  l2 : OpC p 239 2 f
  l3 : OpC p 188 3 f
  l4 : OpC p 133 4 f
  l5 : OpC p 86 5 f
  l6 : OpC p 43 6 f
theorem opC_zero (p : Pp) (k : FuncId) (lv : Nat) : OpC p k lv 0 := fun w s rv h hm hf => by omega
theorem levels {p : Pp} (hN : p.e.okN) : ∀ F, Levels p F := by
  intro F
  induction F using Nat.strongRecOn with
  | _ F ih =>
    cases F with
    | zero => exact ⟨opC_zero _ _ _, opC_zero _ _ _, opC_zero _ _ _, opC_zero _ _ _, opC_zero _ _ _, opC_zero _ _ _, opC_zero _ _ _⟩
    | succ F =>
      have h := fun f (hf : f ≤ F) => ih f (by omega)
      exact ⟨atom_c hN F fun f hf => (h f hf).l6, factor_c hN F (h F (Nat.le_refl _)).l1 (h F (Nat.le_refl _)).l0, pProduct_c F fun f hf => (h f hf).l1, sum_c F fun f hf => (h f hf).l2, comparison_c F (h F (Nat.le_refl _)).l3, conjunction_c F fun f hf => (h f hf).l4, expression_c F fun f hf => (h f hf).l5⟩
theorem keepO_far {w w' : World} {z : Nat} {cs : Array Value} {te : TypeId} (hz : w.heap[z]? = some (.cells cs te (0, 0))) (hf : PFr (· = z) w w') : KeepO [te] w w' := fun k cs' te' hk ht => hf.block k (heap_lt hk) (by
  rintro rfl
  rw [hz] at hk
  injection hk with hk
  injection hk with _ hk
  subst hk
  exact ht (List.mem_singleton.2 rfl))
def WhPost (p : Pp) (w : World) (x : Xr) (s' : Ps) (e : Ending) (w' : World) : Prop :=
  ∃ r a rv', x = ⟨some r, s'.refs⟩ ∧ e = .returned (.agg #[ptrV a, rv']) ∧ PsAt p w' s' rv' ∧ TreeAt (From w.heap.size) w' r a ∧ PFr (· = p.pb) w w' ∧ (∀ k, rv'.ownBlock = some k → w.heap.size ≤ k)
theorem whole_c {p : Pp} (hN : p.e.okN) {w : World} {s : Ps} {rv : Value} (h : PsAt p w s rv) : Calls Tryz.prog 19 #[.pointer (some ⟨p.pb, 0, none⟩)] w (WhPost p w (wholeP p.e s).1 (wholeP p.e s).2) := by
  have hL := fun w1 rv1 (P : PsAt p w1 { s with refs := [] } rv1) => (levels hN p.e.fuel).l6 w1 { s with refs := [] } rv1 P (by have := h.few; simp only [Src.meas, List.length_nil]; omega) (by unfold Src.fuel; omega)
  unfold wholeP
  simp only
  generalize parseP p.e p.e.fuel 6 { s with refs := [] } = q at hL ⊢
  obtain ⟨x, s1⟩ := q
  unfold NodePost ptrV at hL
  simp only at hL ⊢
  obtain ⟨⟨-, -, -, -, -, c5⟩, ⟨-, -, -, -, -, f5⟩⟩ := h.cells
  have hlt := h.lt
  have P1 : PsAt p (w.setCell ⟨p.pb, 5, none⟩ (.slice none 0 0)) { s with refs := [] } (.slice none 0 0) := by
    have hkeep : ∀ k, k ≠ p.pb → (w.setCell ⟨p.pb, 5, none⟩ (.slice none 0 0)).heap[k]? = w.heap[k]? := fun k hk => Below.heap_setCell w ⟨p.pb, 5, none⟩ _ k hk
    refine ⟨?_, h.toks.keep fun q hq => World.cell?_of_block (hkeep _ (by omega)), h.ok, h.few, World.ownsRow_nil _ _ _ _⟩
    rw [heap_set h.blk, psC_refs (s := s) (.slice none 0 0) { s with refs := [] } rfl rfl rfl]
  have F1 : PFr (· = p.pb) w (w.setCell ⟨p.pb, 5, none⟩ (.slice none 0 0)) := by (exact pfrQ)
  have z1 : (w.setCell ⟨p.pb, 5, none⟩ (.slice none 0 0)).heap.size = w.heap.size := by simp [World.setCell]
  obtain ⟨z, w0, ez, ew, P0, F0, hz, hge, hgt, hlz⟩ := alloc_ex P1 (· = p.pb) #[.pointer none, .slice none 0 0] 72
  rw [z1] at ez hge
  have F01 : PFr (· = p.pb) w w0 := F1.trans F0 fun _ _ x => x
  have hx := hL _ _ P0
  have fin : ∀ w2 rv2, St p w0 (.slice none 0 0) w2 s1 rv2 → PFr (· = p.pb) w w2 ∧ (∀ k, rv2.ownBlock = some k → w.heap.size ≤ k) ∧ w2.heap[z]? = some (.cells #[.pointer none, .slice none 0 0] 72) := fun w2 rv2 S => by
    refine ⟨F01.trans S.fr fun k _ hs => ?_, fun k hk => ?_, (S.fr.block z hlz ?_).trans hz⟩
    · rcases hs with hs | hs
      · exact hs
      · cases hs
    · rcases Nat.lt_or_ge k w0.heap.size with hl | hl
      · have := S.own k hk hl
        cases this
      · have := F01.size; omega
    · rintro (hs | hs)
      · omega
      · cases hs
  have hT : ∀ w2 a, TreeAt (From w0.heap.size) w2 x a → TreeAt (From w.heap.size) w2 x a := fun w2 a T => T.mono F01.size
  clear hL z1
  go_enter Tryz.func19, Tryz.ntmps19
  go_wp2_with fail
  clear ew ez c5 f5 F1 P1 F0 hz
  go_wp2_with (go_at_call 43; refine hx.mono ?_; rintro e w2 ⟨a, rv2, rfl, S2, T2⟩; obtain ⟨⟨-, -, -, -, -, d5⟩, -⟩ := S2.at_.cells; obtain ⟨A2, c2, rfl, -, -⟩ := own_slice S2.at_.refs; obtain ⟨F2, O2, hz2⟩ := fin _ _ S2; obtain ⟨hcB, hfB⟩ := blk_cells (hz2); have e0 := hcB 0; have ef0 := hfB 0; have e1 := hcB 1; have ef1 := hfB 1; clear hcB hfB)
  refine bodyPost_ret (by simp [results, Tryz.results19, go_sem, e0, e1]; rfl) rfl ?_
  have FZ : PFr (· = z) w2 ((w2.setCell ⟨z, 0, none⟩ (.pointer (some ⟨a, 0, none⟩))).setCell ⟨z, 1, none⟩ (.slice A2 s1.refs.length c2)) := by (exact pfrQ)
  exact ⟨x, a, _, rfl, rfl, S2.at_.far hz2 (by decide) hgt FZ, TreeAt.keep ⟨by decide, by decide⟩ (fun _ h _ => h) (keepO_far hz2 FZ).b x a (hT _ _ T2), F2.trans FZ fun k hk e => by omega, O2⟩
theorem term_const {t : T} (h : t.ok = true) (h1 : t.op = 1) : t.v.ok = true ∧ t.v.k ≠ 0 ∧ t.c = 0 := by
  unfold T.ok at h
  rw [if_pos h1] at h
  simp only [Bool.and_eq_true, beq_iff_eq, bne_iff_ne] at h
  exact ⟨h.2.2.2, h.2.2.1, h.2.1⟩
theorem xvalidTerm (t : T) (w : World) : Calls Tryz.prog 96 #[.agg #[.int .i64 t.op, .int .i64 t.v.k, .int .i64 t.v.n, .string t.v.s, .int .i64 t.c]] w fun e w' => e = .returned (.bool t.ok) ∧ Below w.heap.size w w' := by
  have hA := xarity t.op
  have he := run_eqV t.v.k t.v.n t.v.s 0 0 ⟨#[]⟩
  rw [show eqB t.v.k t.v.n t.v.s 0 0 ⟨#[]⟩ = t.v.beq V.null from rfl] at he
  by_cases ha : arity t.op < 0
  · have HR := Lib.hid (show t.ok = false by unfold T.ok; rw [show decide (0 ≤ arity t.op) = false by simpa using ha]; rfl)
    go_enter Tryz.func96, Tryz.ntmps96
    go_wp2_with (go_at_call 55; refine (hA _).mono ?_; rintro e w1 ⟨rfl, rfl⟩)
    go_ret
    exact ⟨ret_bool HR.out.symm, by (exact belQ)⟩
  have hk : decide (0 ≤ arity t.op) = true := by simp; omega
  by_cases h1 : t.op = 1
  · have t1 : (t.op == 1) = true := by simpa using h1
    have HT := Lib.hid (show t.ok = (t.c == 0 && (t.v.k != 0 && t.v.ok)) by unfold T.ok; rw [hk, if_pos h1]; rfl)
    clear h1 hk
    go_enter Tryz.func96, Tryz.ntmps96
    go_wp2_with (first
      | (go_at_call 55; refine (hA _).mono ?_; rintro e w1 ⟨rfl, rfl⟩)
      | (go_at_call 156; refine (vvalid t.v _).mono ?_; rintro e w2 ⟨rfl, hb2⟩))
    all_goals go_ret
    all_goals refine ⟨ret_bool ?_, by (exact belQ)⟩
    all_goals rw [HT.out]
    all_goals simp_all
  have t1 : (t.op == 1) = false := by simpa using h1
  by_cases h2 : t.op = 2
  · have t2 : (t.op == 2) = true := by simpa using h2
    have HT := Lib.hid (show t.ok = (decide (0 ≤ t.c) && t.v.beq V.null) by unfold T.ok; rw [hk, if_neg h1, if_pos h2]; rfl)
    clear h1 h2 hk
    generalize t.v.beq V.null = nb at he HT
    go_enter Tryz.func96, Tryz.ntmps96
    go_wp2_with (go_at_call 55; refine (hA _).mono ?_; rintro e w1 ⟨rfl, rfl⟩)
    all_goals go_ret
    all_goals refine ⟨ret_bool ?_, by (exact belQ)⟩
    all_goals rw [HT.out]
    all_goals simp_all
    all_goals (intro h; exfalso; omega)
  · have t2 : (t.op == 2) = false := by simpa using h2
    have HT := Lib.hid (show t.ok = (t.c == 0 && t.v.beq V.null) by unfold T.ok; rw [hk, if_neg h1, if_neg h2]; rfl)
    clear h1 h2 hk
    generalize t.v.beq V.null = nb at he HT
    go_enter Tryz.func96, Tryz.ntmps96
    go_wp2_with (go_at_call 55; refine (hA _).mono ?_; rintro e w1 ⟨rfl, rfl⟩)
    all_goals go_ret
    all_goals refine ⟨ret_bool ?_, by (exact belQ)⟩
    all_goals rw [HT.out]
    all_goals simp_all
theorem readK_stop {f n : Nat} {l : List T} (h : readK f n l = none) : ∀ m, n ≤ m → readK f m l = none := by
  intro m
  induction m with
  | zero =>
    intro hm
    have e : n = 0 := by omega
    rw [e] at h
    exact h
  | succ m ih =>
    intro hm
    rcases Nat.lt_or_ge n (m + 1) with h1 | h1
    · rw [readK_snoc, ih (by omega)]
    · have e : n = m + 1 := by omega
      rw [e] at h
      exact h
theorem drop_term {es : List T} {pos : Nat} {t : T} (h : es[pos]? = some t) : es.drop pos = t :: es.drop (pos + 1) := by
  obtain ⟨h1, h2⟩ := List.getElem?_eq_some_iff.1 h
  rw [List.drop_eq_getElem_cons h1, h2]
def Rd3 (f : Nat) (es : List T) (at_ i d e : Nat) : Prop := ∃ ks r, readK f i (es.drop at_) = some (ks, r) ∧ d = deepest ks ∧ e = at_ + (flats ks).length ∧ es.drop e = r
theorem Rd3.start (f : Nat) (es : List T) (at_ : Nat) : Rd3 f es at_ 0 0 at_ := ⟨[], es.drop at_, readK_zero _ _, by simp [deepest], by simp [flats], rfl⟩
theorem Rd3.more {f : Nat} {es : List T} {at_ i d e : Nat} (h : Rd3 f es at_ i d e) {x : X} {r : List T} (hx : readX f (es.drop e) = some (x, r)) : Rd3 f es at_ (i + 1) (max d x.depth) (e + x.flat.length) := by
  obtain ⟨ks, r0, h1, h2, h3, h4⟩ := h
  rw [h4] at hx
  refine ⟨ks ++ [x], r, by rw [readK_snoc, h1]; simp only; rw [hx], by rw [deepest_snoc, h2], by rw [flats_snoc, List.length_append, h3]; omega, ?_⟩
  obtain ⟨e1, _, _⟩ := readX_some hx
  rw [← List.drop_drop, h4, e1, List.drop_left]
theorem Rd3.stop {f : Nat} {es : List T} {at_ i d e : Nat} (h : Rd3 f es at_ i d e) (hx : readX f (es.drop e) = none) (n : Nat) (hn : i < n) : readK f n (es.drop at_) = none := by
  obtain ⟨ks, r0, h1, _, _, h4⟩ := h
  rw [h4] at hx
  exact readK_stop (n := i + 1) (by rw [readK_snoc, h1]; simp only; rw [hx]) n (by omega)
def measO (es : List T) (pos : Nat) : Nat × Nat := match readX es.length (es.drop pos) with
  | some (x, _) => (x.depth, pos + x.flat.length)
  | none => (0, pos)
theorem measO_over {es : List T} {pos : Nat} (h : es.length ≤ pos) : measO es pos = (0, pos) := by
  unfold measO
  rw [List.drop_of_length_le h]
  cases es.length <;> rfl
theorem measO_bad {es : List T} {pos : Nat} {t : T} (h : es[pos]? = some t) (hok : t.ok = false) : measO es pos = (0, pos) := by
  unfold measO
  rw [drop_term h]
  cases es.length with
  | zero => rfl
  | succ n => simp [readX, hok]
theorem read_node {es : List T} {pos : Nat} {t : T} (h : es[pos]? = some t) (hok : t.ok = true) : readX es.length (es.drop pos) = (readK (es.length - 1) (ar t.op) (es.drop (pos + 1))).map fun y => (.node t y.1, y.2) := by
  have hl : pos < es.length := (List.getElem?_eq_some_iff.1 h).1
  obtain ⟨n, hn⟩ : ∃ n, es.length = n + 1 := ⟨es.length - 1, by omega⟩
  rw [drop_term h, hn]
  simp only [readX, Nat.add_sub_cancel]
  rw [if_pos hok]
theorem measO_some {es : List T} {e : Nat} {f : Nat} (hf : es.length ≤ f + e) (h : (measO es e).1 ≠ 0) : ∃ x r, readX f (es.drop e) = some (x, r) ∧ measO es e = (x.depth, e + x.flat.length) := by
  unfold measO at h ⊢
  cases hx : readX es.length (es.drop e) with
  | none => rw [hx] at h; simp at h
  | some y =>
    obtain ⟨x, r⟩ := y
    exact ⟨x, r, readX_full (by simp; omega) hx, rfl⟩
theorem measO_none {es : List T} {e : Nat} {f : Nat} (h : (measO es e).1 = 0) : readX f (es.drop e) = none := by
  unfold measO at h
  cases hx : readX es.length (es.drop e) with
  | none => exact readX_none (by simp) hx
  | some y =>
    obtain ⟨x, r⟩ := y
    rw [hx] at h
    have := x.depth_pos
    simp only at h
    omega
theorem Rd3.le {f : Nat} {es : List T} {at_ i d e : Nat} (h : Rd3 f es at_ i d e) : at_ ≤ e := by
  obtain ⟨ks, r, _, _, h3, _⟩ := h
  omega
theorem meas_step {es : List T} {pos i d e : Nat} (h : Rd3 (es.length - 1) es (pos + 1) i d e) (hd : (measO es e).1 ≠ 0) : Rd3 (es.length - 1) es (pos + 1) (i + 1) (max d (measO es e).1) (measO es e).2 := by
  have hle := h.le
  obtain ⟨x, r, h1, h2⟩ := measO_some (f := es.length - 1) (by omega) hd
  rw [h2]
  exact h.more h1
theorem meas_fail {es : List T} {pos i d e : Nat} {t : T} (ht : es[pos]? = some t) (hok : t.ok = true) (h : Rd3 (es.length - 1) es (pos + 1) i d e) (hd : (measO es e).1 = 0) (hi : i < ar t.op) : measO es pos = (0, pos) := by
  unfold measO
  rw [read_node ht hok, h.stop (measO_none hd) _ hi]
  rfl
theorem meas_done {es : List T} {pos d e : Nat} {t : T} (ht : es[pos]? = some t) (hok : t.ok = true) (h : Rd3 (es.length - 1) es (pos + 1) (ar t.op) d e) : measO es pos = (d + 1, e) := by
  obtain ⟨ks, r, h1, h2, h3, _⟩ := h
  unfold measO
  rw [read_node ht hok, h1]
  simp only [Option.map_some, X.depth, X.flat_node, List.length_cons]
  rw [h2, h3]
  simp
  omega
theorem measO_le {es : List T} {e : Nat} (h : e ≤ es.length) : (measO es e).1 ≤ es.length ∧ e ≤ (measO es e).2 ∧ (measO es e).2 ≤ es.length := by
  unfold measO
  cases hx : readX es.length (es.drop e) with
  | none => exact ⟨Nat.zero_le _, Nat.le_refl _, h⟩
  | some y =>
    obtain ⟨x, r⟩ := y
    obtain ⟨h1, _, h3⟩ := readX_some hx
    have h4 := congrArg List.length h1
    have h5 := x.depth_flat
    rw [List.length_drop, List.length_append] at h4
    simp only
    omega
def endO (es : List T) (at_ dp : Nat) : Int := match readX dp (es.drop at_) with
  | some (x, _) => ((at_ + x.flat.length : Nat) : Int)
  | none => -1
theorem endO_over {es : List T} {at_ dp : Nat} (h : es.length ≤ at_) : endO es at_ dp = -1 := by
  unfold endO
  rw [List.drop_of_length_le h]
  cases dp <;> rfl
theorem endO_zero (es : List T) (at_ : Nat) : endO es at_ 0 = -1 := by unfold endO; rfl
theorem endO_bad {es : List T} {at_ dp : Nat} {t : T} (h : es[at_]? = some t) (hok : t.ok = false) : endO es at_ dp = -1 := by
  unfold endO
  rw [drop_term h]
  cases dp with
  | zero => rfl
  | succ n => simp [readX, hok]
theorem end_step {es : List T} {at_ dp i d e : Nat} (h : Rd3 dp es (at_ + 1) i d e) (hd : 0 ≤ endO es e dp) : ∃ d' e' : Nat, endO es e dp = (e' : Int) ∧ Rd3 dp es (at_ + 1) (i + 1) d' e' := by
  unfold endO at hd ⊢
  cases hx : readX dp (es.drop e) with
  | none => rw [hx] at hd; simp at hd
  | some y =>
    obtain ⟨x, r⟩ := y
    exact ⟨_, _, rfl, h.more hx⟩
theorem endO_none {es : List T} {e dp : Nat} (h : endO es e dp < 0) : readX dp (es.drop e) = none := by
  unfold endO at h
  cases hx : readX dp (es.drop e) with
  | none => rfl
  | some y => obtain ⟨x, r⟩ := y; rw [hx] at h; simp only at h; omega
theorem end_node {es : List T} {at_ dp : Nat} {t : T} (ht : es[at_]? = some t) (hok : t.ok = true) : readX (dp + 1) (es.drop at_) = (readK dp (ar t.op) (es.drop (at_ + 1))).map fun y => (.node t y.1, y.2) := by
  rw [drop_term ht]
  simp only [readX]
  rw [if_pos hok]
theorem end_fail {es : List T} {at_ dp i d e : Nat} {t : T} (ht : es[at_]? = some t) (hok : t.ok = true) (h : Rd3 dp es (at_ + 1) i d e) (hd : endO es e dp < 0) (hi : i < ar t.op) : endO es at_ (dp + 1) = -1 := by
  unfold endO
  rw [end_node ht hok, h.stop (endO_none hd) _ hi]
  rfl
theorem end_done {es : List T} {at_ dp d e : Nat} {t : T} (ht : es[at_]? = some t) (hok : t.ok = true) (h : Rd3 dp es (at_ + 1) (ar t.op) d e) : endO es at_ (dp + 1) = (e : Int) := by
  obtain ⟨ks, r, h1, h2, h3, _⟩ := h
  unfold endO
  rw [end_node ht hok, h1]
  simp only [Option.map_some, X.flat_node, List.length_cons]
  rw [h3]
  omega
theorem endO_le {es : List T} {e dp : Nat} (h : e ≤ es.length) : -1 ≤ endO es e dp ∧ endO es e dp ≤ es.length := by
  unfold endO
  cases hx : readX dp (es.drop e) with
  | none => simp only; omega
  | some y =>
    obtain ⟨x, r⟩ := y
    obtain ⟨h1, _, _⟩ := readX_some hx
    have h4 := congrArg List.length h1
    rw [List.length_drop, List.length_append] at h4
    simp only
    omega
def T.fok (t : T) : Bool := if t.op = 1 then t.c == 0 && (t.v.k != 0 && t.v.ok) else if t.op = 2 then decide (0 ≤ t.c) && t.v.beq V.null else t.c == 0 && t.v.beq V.null
theorem T.ok_fok (t : T) : t.ok = (decide (0 ≤ arity t.op) && t.fok) := rfl
theorem valid_prog (es : List T) : validE es = (decide (es.length ≤ 64) && (decide (0 < (measO es 0).1) && (decide ((measO es 0).1 ≤ 16) && decide ((measO es 0).2 = es.length)))) := by
  rw [Bool.eq_iff_iff, validE_iff]
  simp only [Bool.and_eq_true, decide_eq_true_eq]
  constructor
  · rintro ⟨h1, x, rfl, h2, h3⟩
    have hr : readX x.flat.length (x.flat.drop 0) = some (x, []) := by
      have := readX_flat x [] x.flat.length h2 x.depth_flat
      rw [List.append_nil] at this
      rw [List.drop_zero]
      exact this
    have hm : measO x.flat 0 = (x.depth, 0 + x.flat.length) := by unfold measO; rw [hr]
    have := x.depth_pos
    rw [hm]
    exact ⟨h1, this, h3, by simp⟩
  · rintro ⟨h1, h2, h3, h4⟩
    refine ⟨h1, ?_⟩
    obtain ⟨x, r, e1, e2⟩ := measO_some (es := es) (e := 0) (f := es.length) (by omega) (by omega)
    rw [List.drop_zero] at e1
    obtain ⟨g1, g2, g3⟩ := readX_some e1
    rw [e2] at h3 h4
    simp only at h3 h4
    have hr : r = [] := by
      have := congrArg List.length g1
      rw [List.length_append] at this
      exact List.eq_nil_of_length_eq_zero (by omega)
    subst hr
    exact ⟨x, by simpa using g1, g2, h3⟩
theorem valid_ref (es : List T) : validE es = (decide (1 ≤ es.length) && (decide (es.length ≤ 64) && decide (endO es 0 16 = es.length))) := by
  rw [Bool.eq_iff_iff, validE_iff]
  simp only [Bool.and_eq_true, decide_eq_true_eq]
  constructor
  · rintro ⟨h1, x, rfl, h2, h3⟩
    have hr := readX_flat x [] 16 h2 h3
    rw [List.append_nil] at hr
    have hm : endO x.flat 0 16 = ((0 + x.flat.length : Nat) : Int) := by unfold endO; rw [List.drop_zero, hr]
    have := x.flat_pos
    exact ⟨this, h1, by rw [hm]; simp⟩
  · rintro ⟨h1, h2, h3⟩
    refine ⟨h2, ?_⟩
    unfold endO at h3
    rw [List.drop_zero] at h3
    cases hx : readX 16 es with
    | none => rw [hx] at h3; simp only at h3; omega
    | some y =>
      obtain ⟨x, r⟩ := y
      rw [hx] at h3
      simp only at h3
      obtain ⟨g1, g2, g3⟩ := readX_some hx
      have hr : r = [] := by
        have := congrArg List.length g1
        rw [List.length_append] at this
        exact List.eq_nil_of_length_eq_zero (by omega)
      subst hr
      exact ⟨x, by simpa using g1, g2, g3⟩
def MPost (w : World) (x : Nat × Nat) (e : Ending) (w' : World) : Prop := e = .returned (.tuple #[.int .i64 (x.1 : Int), .int .i64 (x.2 : Int)]) ∧ Below w.heap.size w w'
def MRel (w : World) (es : List T) (pos : Nat) (n : Nat) (v6 v7 v31 : Value) (wr : World) : Prop := ∃ i d e : Nat, v31 = .int .i64 i ∧ v6 = .int .i64 d ∧ v7 = .int .i64 e ∧ i ≤ n ∧ d ≤ es.length ∧ e ≤ es.length ∧ Rd3 (es.length - 1) es (pos + 1) i d e ∧ Below w.heap.size w wr
theorem xmeasure (A : Option Addr) (n c : Nat) (es : List T) (hn : n ≤ 1000) : ∀ (m pos : Nat) (w : World), n - pos ≤ m → pos ≤ n → RowT w w.heap.size A n es → Calls Tryz.prog 54 #[.slice A n c, .int .i64 (pos : Int)] w (MPost w (measO es pos)) := by
  intro m
  induction m with
  | zero =>
    intro pos w hm hp hr
    have hl := hr.len
    have HR := Lib.hid (measO_over (es := es) (pos := pos) (by omega))
    have h1 : (n : Int) ≤ (pos : Int) := by omega
    go_enter Tryz.func54, Tryz.ntmps54
    go_wp2_with fail
    refine bodyPost_ret (by simp [results, Tryz.results54, go_sem]; rfl) rfl ?_
    unfold MPost
    rw [HR.out]
    exact ⟨rfl, by (exact belQ)⟩
  | succ m ih =>
    intro pos w hm hp hr
    have hl := hr.len
    have HLN := Lib.hid hl
    by_cases hlt : pos < n
    case neg =>
      have HR := Lib.hid (measO_over (es := es) (pos := pos) (by omega))
      have h1 : (n : Int) ≤ (pos : Int) := by omega
      clear hl
      go_enter Tryz.func54, Tryz.ntmps54
      go_wp2_with fail
      refine bodyPost_ret (by simp [results, Tryz.results54, go_sem]; rfl) rfl ?_
      unfold MPost
      rw [HR.out]
      exact ⟨rfl, by (exact belQ)⟩
    case pos =>
      obtain ⟨b, off, t, rfl, hb, ht, c0, c1, c2, c3, c4⟩ := RowT.at5 hr hlt
      have HT := Lib.hid ht
      have h1 : ¬ (n : Int) ≤ (pos : Int) := by omega
      have hp0 : (0 : Int) ≤ (pos : Int) := by omega
      have hp1 : (pos : Int) < (n : Int) := by omega
      clear ht hl
      cases hok : t.ok
      · have HK := Lib.hid hok
        have HR := Lib.hid (measO_bad HT.out hok)
        clear hok
        go_enter Tryz.func54, Tryz.ntmps54
        go_wp2_with (go_at_call 96; refine (xvalidTerm t _).mono ?_; rintro e w1 ⟨rfl, hb1⟩; rw [HK.out])
        refine bodyPost_ret (by simp [results, Tryz.results54, go_sem]; rfl) rfl ?_
        unfold MPost
        rw [HR.out]
        exact ⟨rfl, by (exact belQ)⟩
      · have HK := Lib.hid hok
        clear hok
        have har := arity_range t.op
        have hak : 0 ≤ arity t.op := by
          have := HK.out
          unfold T.ok at this
          rw [Bool.and_eq_true, decide_eq_true_eq] at this
          exact this.1
        have HN := Lib.hid (show (ar t.op : Int) = arity t.op by unfold ar; omega)
        have hpw : IntKind.i64.wrap ((pos : Int) + 1) = (pos : Int) + 1 := IntWalk.i64_in _ (by omega)
        go_enter Tryz.func54, Tryz.ntmps54
        go_wp2_with (first
          | (go_at_call 96; refine (xvalidTerm t _).mono ?_; rintro e w1 ⟨rfl, hb1⟩; rw [HK.out]; obtain ⟨hc1, hf1⟩ := bcell hb1; have hz1 := (hb1).size; (try simp at hz1))
          | (go_at_call 55; refine (xarity t.op _).mono ?_; rintro e w2 ⟨rfl, rfl⟩))
        have hspos : pos + 1 ≤ es.length := by rw [HLN.out]; omega
        go_loopw [6, 7, 31] (fun v6 v7 v31 wr => MRel w es pos (ar t.op) v6 v7 v31 wr) (fun _ _ v31 _ => ar t.op - (intOf v31).toNat)
        case atStart => exact ⟨0, 0, pos + 1, rfl, rfl, by go_num, Nat.zero_le _, Nat.zero_le _, hspos, Rd3.start _ _ _, by (exact belQ)⟩
        case round =>
          obtain ⟨i, d, e, rfl, rfl, rfl, hi, hd, he, hR, hbel⟩ := hrel
          have hle := hR.le
          have HR := Lib.hid hR
          clear hR
          have hzz := hbel.size
          by_cases hlt2 : i < ar t.op
          · have hia : (i : Int) < arity t.op := by have := HN.out; omega
            have ihe := ih e wr (by have := HLN.out; omega) (by have := HLN.out; omega) ((hr.below hbel).more hzz)
            have hml := measO_le he
            have HS := Lib.hid (fun h => meas_step HR.out h)
            have HF := Lib.hid (fun h => meas_fail HT.out HK.out HR.out h hlt2)
            obtain ⟨y, hy⟩ : ∃ y, measO es e = y := ⟨_, rfl⟩
            rw [hy] at ihe hml HS HF
            clear hy hlt2
            obtain ⟨dp, nx⟩ := y
            simp only at hml
            by_cases hdp : dp = 0
            · have hdz : ((dp : Int) == 0) = true := by simpa using hdp
              have HD := Lib.hid (HF.out hdp)
              clear hdp
              go_wp2_with (go_at_call 54; refine ihe.mono ?_; rintro e2 w2 ⟨rfl, hb2⟩)
              refine bodyPost_ret (by simp [results, Tryz.results54, go_sem]; rfl) rfl ?_
              unfold MPost
              rw [HD.out]
              exact ⟨rfl, by (exact belQ)⟩
            · have hdz : ((dp : Int) == 0) = false := by simpa using hdp
              have HD := Lib.hid (HS.out hdp)
              clear hdp
              have hmax : max (d : Int) (dp : Int) = ((max d dp : Nat) : Int) := by omega
              go_wp2_with (go_at_call 54; refine ihe.mono ?_; rintro e2 w2 ⟨rfl, hb2⟩)
              go_roundw
              case rel => exact ⟨i + 1, max d dp, nx, by go_num, val_int (by omega), rfl, by have := HN.out; omega, by omega, hml.2.2, HD.out, by (exact belQ)⟩
              case measure => simp [intOf]; have := HN.out; omega
          · have hia : ¬ (i : Int) < arity t.op := by have := HN.out; omega
            have hieq : i = ar t.op := by omega
            subst hieq
            have HD := Lib.hid (meas_done HT.out HK.out HR.out)
            clear hlt2
            have hlen := HLN.out
            have hdw : IntKind.i64.wrap ((d : Int) + 1) = (d : Int) + 1 := IntWalk.i64_in _ (by omega)
            clear hlen
            go_wp2_with fail
            refine bodyPost_ret (by simp [results, Tryz.results54, go_sem]; rfl) rfl ?_
            unfold MPost
            rw [HD.out]
            exact ⟨by go_num, by (exact belQ)⟩
end Go.Proofs.YtpnfbehbheddeaaGreatDoor
