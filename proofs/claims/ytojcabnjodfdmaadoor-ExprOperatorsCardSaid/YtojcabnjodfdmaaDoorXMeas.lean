/- How an expression is measured from the left to the right, in plain Lean: the program's measure, the reference's end. No program in sight, no condition. -/
import Derived.Test.YtojcabnjodfdmaaDoorXSpec
namespace Go.Proofs.YtojcabnjodfdmaaDoor

theorem readX_fuel {f f' : Nat} {l : List T} (h : l.length ≤ f) (h' : l.length ≤ f') : readX f l = readX f' l := by
  cases hx : readX f l with
  | none => exact (readX_none h hx).symm
  | some y => obtain ⟨x, r⟩ := y; exact (readX_full h' hx).symm
theorem readK_stop {f n : Nat} {l : List T} (h : readK f n l = none) : ∀ m, n ≤ m → readK f m l = none := by
  intro m
  induction m with
  | zero =>
    intro hm
    have e : n = 0 := by omega
    rw [e] at h
    exact h
  | succ m ih =>
    intro hm
    rcases Nat.lt_or_ge n (m + 1) with h1 | h1
    · rw [readK_snoc, ih (by omega)]
    · have e : n = m + 1 := by omega
      rw [e] at h
      exact h
theorem drop_term {es : List T} {pos : Nat} {t : T} (h : es[pos]? = some t) : es.drop pos = t :: es.drop (pos + 1) := by
  obtain ⟨h1, h2⟩ := List.getElem?_eq_some_iff.1 h
  rw [List.drop_eq_getElem_cons h1, h2]
/-- What was read of some trees from a place on: how deep, and where they end. -/
def Rd3 (f : Nat) (es : List T) (at_ i d e : Nat) : Prop := ∃ ks r, readK f i (es.drop at_) = some (ks, r) ∧ d = deepest ks ∧ e = at_ + (flats ks).length ∧ es.drop e = r
theorem Rd3.start (f : Nat) (es : List T) (at_ : Nat) : Rd3 f es at_ 0 0 at_ := ⟨[], es.drop at_, readK_zero _ _, by simp [deepest], by simp [flats], rfl⟩
theorem Rd3.more {f : Nat} {es : List T} {at_ i d e : Nat} (h : Rd3 f es at_ i d e) {x : X} {r : List T} (hx : readX f (es.drop e) = some (x, r)) : Rd3 f es at_ (i + 1) (max d x.depth) (e + x.flat.length) := by
  obtain ⟨ks, r0, h1, h2, h3, h4⟩ := h
  rw [h4] at hx
  refine ⟨ks ++ [x], r, by rw [readK_snoc, h1]; simp only; rw [hx], by rw [deepest_snoc, h2], by rw [flats_snoc, List.length_append, h3]; omega, ?_⟩
  obtain ⟨e1, _, _⟩ := readX_some hx
  rw [← List.drop_drop, h4, e1, List.drop_left]
theorem Rd3.stop {f : Nat} {es : List T} {at_ i d e : Nat} (h : Rd3 f es at_ i d e) (hx : readX f (es.drop e) = none) (n : Nat) (hn : i < n) : readK f n (es.drop at_) = none := by
  obtain ⟨ks, r0, h1, _, _, h4⟩ := h
  rw [h4] at hx
  exact readK_stop (n := i + 1) (by rw [readK_snoc, h1]; simp only; rw [hx]) n (by omega)
/-- The program's measure: how deep, and the position behind; 0 if there is none. -/
def measO (es : List T) (pos : Nat) : Nat × Nat := match readX es.length (es.drop pos) with
  | some (x, _) => (x.depth, pos + x.flat.length)
  | none => (0, pos)
theorem measO_over {es : List T} {pos : Nat} (h : es.length ≤ pos) : measO es pos = (0, pos) := by
  unfold measO
  rw [List.drop_of_length_le h]
  cases es.length <;> rfl
theorem measO_bad {es : List T} {pos : Nat} {t : T} (h : es[pos]? = some t) (hok : t.ok = false) : measO es pos = (0, pos) := by
  unfold measO
  rw [drop_term h]
  cases es.length with
  | zero => rfl
  | succ n => simp [readX, hok]
theorem read_node {es : List T} {pos : Nat} {t : T} (h : es[pos]? = some t) (hok : t.ok = true) : readX es.length (es.drop pos) = (readK (es.length - 1) (ar t.op) (es.drop (pos + 1))).map fun y => (.node t y.1, y.2) := by
  have hl : pos < es.length := (List.getElem?_eq_some_iff.1 h).1
  obtain ⟨n, hn⟩ : ∃ n, es.length = n + 1 := ⟨es.length - 1, by omega⟩
  rw [drop_term h, hn]
  simp only [readX, Nat.add_sub_cancel]
  rw [if_pos hok]
theorem measO_some {es : List T} {e : Nat} {f : Nat} (hf : es.length ≤ f + e) (h : (measO es e).1 ≠ 0) : ∃ x r, readX f (es.drop e) = some (x, r) ∧ measO es e = (x.depth, e + x.flat.length) := by
  unfold measO at h ⊢
  cases hx : readX es.length (es.drop e) with
  | none => rw [hx] at h; simp at h
  | some y =>
    obtain ⟨x, r⟩ := y
    exact ⟨x, r, readX_full (by simp; omega) hx, rfl⟩
theorem measO_none {es : List T} {e : Nat} {f : Nat} (h : (measO es e).1 = 0) : readX f (es.drop e) = none := by
  unfold measO at h
  cases hx : readX es.length (es.drop e) with
  | none => exact readX_none (by simp) hx
  | some y =>
    obtain ⟨x, r⟩ := y
    rw [hx] at h
    have := x.depth_pos
    simp only at h
    omega
theorem Rd3.le {f : Nat} {es : List T} {at_ i d e : Nat} (h : Rd3 f es at_ i d e) : at_ ≤ e := by
  obtain ⟨ks, r, _, _, h3, _⟩ := h
  omega
theorem meas_step {es : List T} {pos i d e : Nat} (h : Rd3 (es.length - 1) es (pos + 1) i d e) (hd : (measO es e).1 ≠ 0) : Rd3 (es.length - 1) es (pos + 1) (i + 1) (max d (measO es e).1) (measO es e).2 := by
  have hle := h.le
  obtain ⟨x, r, h1, h2⟩ := measO_some (f := es.length - 1) (by omega) hd
  rw [h2]
  exact h.more h1
theorem meas_fail {es : List T} {pos i d e : Nat} {t : T} (ht : es[pos]? = some t) (hok : t.ok = true) (h : Rd3 (es.length - 1) es (pos + 1) i d e) (hd : (measO es e).1 = 0) (hi : i < ar t.op) : measO es pos = (0, pos) := by
  unfold measO
  rw [read_node ht hok, h.stop (measO_none hd) _ hi]
  rfl
theorem meas_done {es : List T} {pos d e : Nat} {t : T} (ht : es[pos]? = some t) (hok : t.ok = true) (h : Rd3 (es.length - 1) es (pos + 1) (ar t.op) d e) : measO es pos = (d + 1, e) := by
  obtain ⟨ks, r, h1, h2, h3, _⟩ := h
  unfold measO
  rw [read_node ht hok, h1]
  simp only [Option.map_some, X.depth, X.flat_node, List.length_cons]
  rw [h2, h3]
  simp
  omega
theorem measO_le {es : List T} {e : Nat} (h : e ≤ es.length) : (measO es e).1 ≤ es.length ∧ e ≤ (measO es e).2 ∧ (measO es e).2 ≤ es.length := by
  unfold measO
  cases hx : readX es.length (es.drop e) with
  | none => exact ⟨Nat.zero_le _, Nat.le_refl _, h⟩
  | some y =>
    obtain ⟨x, r⟩ := y
    obtain ⟨h1, _, h3⟩ := readX_some hx
    have h4 := congrArg List.length h1
    have h5 := x.depth_flat
    rw [List.length_drop, List.length_append] at h4
    simp only
    omega
/-- The reference's end: the position behind a tree at most dp deep, or -1. -/
def endO (es : List T) (at_ dp : Nat) : Int := match readX dp (es.drop at_) with
  | some (x, _) => ((at_ + x.flat.length : Nat) : Int)
  | none => -1
theorem endO_over {es : List T} {at_ dp : Nat} (h : es.length ≤ at_) : endO es at_ dp = -1 := by
  unfold endO
  rw [List.drop_of_length_le h]
  cases dp <;> rfl
theorem endO_zero (es : List T) (at_ : Nat) : endO es at_ 0 = -1 := by unfold endO; rfl
theorem endO_bad {es : List T} {at_ dp : Nat} {t : T} (h : es[at_]? = some t) (hok : t.ok = false) : endO es at_ dp = -1 := by
  unfold endO
  rw [drop_term h]
  cases dp with
  | zero => rfl
  | succ n => simp [readX, hok]
theorem end_step {es : List T} {at_ dp i d e : Nat} (h : Rd3 dp es (at_ + 1) i d e) (hd : 0 ≤ endO es e dp) : ∃ d' e' : Nat, endO es e dp = (e' : Int) ∧ Rd3 dp es (at_ + 1) (i + 1) d' e' := by
  unfold endO at hd ⊢
  cases hx : readX dp (es.drop e) with
  | none => rw [hx] at hd; simp at hd
  | some y =>
    obtain ⟨x, r⟩ := y
    exact ⟨_, _, rfl, h.more hx⟩
theorem endO_none {es : List T} {e dp : Nat} (h : endO es e dp < 0) : readX dp (es.drop e) = none := by
  unfold endO at h
  cases hx : readX dp (es.drop e) with
  | none => rfl
  | some y => obtain ⟨x, r⟩ := y; rw [hx] at h; simp only at h; omega
theorem end_node {es : List T} {at_ dp : Nat} {t : T} (ht : es[at_]? = some t) (hok : t.ok = true) : readX (dp + 1) (es.drop at_) = (readK dp (ar t.op) (es.drop (at_ + 1))).map fun y => (.node t y.1, y.2) := by
  rw [drop_term ht]
  simp only [readX]
  rw [if_pos hok]
theorem end_fail {es : List T} {at_ dp i d e : Nat} {t : T} (ht : es[at_]? = some t) (hok : t.ok = true) (h : Rd3 dp es (at_ + 1) i d e) (hd : endO es e dp < 0) (hi : i < ar t.op) : endO es at_ (dp + 1) = -1 := by
  unfold endO
  rw [end_node ht hok, h.stop (endO_none hd) _ hi]
  rfl
theorem end_done {es : List T} {at_ dp d e : Nat} {t : T} (ht : es[at_]? = some t) (hok : t.ok = true) (h : Rd3 dp es (at_ + 1) (ar t.op) d e) : endO es at_ (dp + 1) = (e : Int) := by
  obtain ⟨ks, r, h1, h2, h3, _⟩ := h
  unfold endO
  rw [end_node ht hok, h1]
  simp only [Option.map_some, X.flat_node, List.length_cons]
  rw [h3]
  omega
theorem endO_le {es : List T} {e dp : Nat} (h : e ≤ es.length) : -1 ≤ endO es e dp ∧ endO es e dp ≤ es.length := by
  unfold endO
  cases hx : readX dp (es.drop e) with
  | none => simp only; omega
  | some y =>
    obtain ⟨x, r⟩ := y
    obtain ⟨h1, _, _⟩ := readX_some hx
    have h4 := congrArg List.length h1
    rw [List.length_drop, List.length_append] at h4
    simp only
    omega
/-- The fields of a term fit its operator. -/
def T.fok (t : T) : Bool := if t.op = 1 then t.c == 0 && (t.v.k != 0 && t.v.ok) else if t.op = 2 then decide (0 ≤ t.c) && t.v.beq V.null else t.c == 0 && t.v.beq V.null
theorem T.ok_fok (t : T) : t.ok = (decide (0 ≤ arity t.op) && t.fok) := rfl
/-- Both tests of validity say validE. -/
theorem valid_prog (es : List T) : validE es = (decide (es.length ≤ 64) && (decide (0 < (measO es 0).1) && (decide ((measO es 0).1 ≤ 16) && decide ((measO es 0).2 = es.length)))) := by
  rw [Bool.eq_iff_iff, validE_iff]
  simp only [Bool.and_eq_true, decide_eq_true_eq]
  constructor
  · rintro ⟨h1, x, rfl, h2, h3⟩
    have hr : readX x.flat.length (x.flat.drop 0) = some (x, []) := by
      have := readX_flat x [] x.flat.length h2 x.depth_flat
      rw [List.append_nil] at this
      rw [List.drop_zero]
      exact this
    have hm : measO x.flat 0 = (x.depth, 0 + x.flat.length) := by unfold measO; rw [hr]
    have := x.depth_pos
    rw [hm]
    exact ⟨h1, this, h3, by simp⟩
  · rintro ⟨h1, h2, h3, h4⟩
    refine ⟨h1, ?_⟩
    obtain ⟨x, r, e1, e2⟩ := measO_some (es := es) (e := 0) (f := es.length) (by omega) (by omega)
    rw [List.drop_zero] at e1
    obtain ⟨g1, g2, g3⟩ := readX_some e1
    rw [e2] at h3 h4
    simp only at h3 h4
    have hr : r = [] := by
      have := congrArg List.length g1
      rw [List.length_append] at this
      exact List.eq_nil_of_length_eq_zero (by omega)
    subst hr
    exact ⟨x, by simpa using g1, g2, h3⟩
theorem valid_ref (es : List T) : validE es = (decide (1 ≤ es.length) && (decide (es.length ≤ 64) && decide (endO es 0 16 = es.length))) := by
  rw [Bool.eq_iff_iff, validE_iff]
  simp only [Bool.and_eq_true, decide_eq_true_eq]
  constructor
  · rintro ⟨h1, x, rfl, h2, h3⟩
    have hr := readX_flat x [] 16 h2 h3
    rw [List.append_nil] at hr
    have hm : endO x.flat 0 16 = ((0 + x.flat.length : Nat) : Int) := by unfold endO; rw [List.drop_zero, hr]
    have := x.flat_pos
    exact ⟨this, h1, by rw [hm]; simp⟩
  · rintro ⟨h1, h2, h3⟩
    refine ⟨h2, ?_⟩
    unfold endO at h3
    rw [List.drop_zero] at h3
    cases hx : readX 16 es with
    | none => rw [hx] at h3; simp only at h3; omega
    | some y =>
      obtain ⟨x, r⟩ := y
      rw [hx] at h3
      simp only at h3
      obtain ⟨g1, g2, g3⟩ := readX_some hx
      have hr : r = [] := by
        have := congrArg List.length g1
        rw [List.length_append] at this
        exact List.eq_nil_of_length_eq_zero (by omega)
      subst hr
      exact ⟨x, by simpa using g1, g2, g3⟩
end Go.Proofs.YtojcabnjodfdmaaDoor
