/- What the writer of expressions has written, the parser reads again: columns and functions. Plain Lean, no program in sight. What the writer of expressions has written, the parser reads again: operators, and all trees. Plain Lean, no program in sight. -/
import Derived.Test.YtpnfbehbheddeaaGreatDoorBn42
namespace Go.Proofs.YtpnfbehbheddeaaGreatDoor
set_option maxRecDepth 100000
set_option maxHeartbeats 8000000
set_option linter.unusedVariables false
set_option linter.unusedSimpArgs false
section
variable {e : Src} {left right : List Bs}
theorem wdK_name {w : Bs} (h : isNameB w = true) : (wdK w).kind = 1 := by unfold wdK; rw [if_pos h]
theorem side_at0 {w nm : Bs} {c : Nat} {s : Ps} (hw : isNameB w = true) (hw2 : [wLeft, wRight].contains w = true) (hf : wFuncs.contains w = false) (hn : isNameB nm = true) (ht : (nm, w == wRight) = nameOf left right c) (hA : AtW e s.pos [wdK w, wdK [46], wdK nm]) :
    ∃ r, Got left right (.node ⟨2, V.null, c⟩ []) 3 s r ∧ ∀ f, 1 ≤ f → parseP e f 0 s = r := by
  have hA1 := hA.tail
  have hA2 := hA1.tail
  have k2 : isKindP e s 0 2 = false := by rw [isKindP_at rfl hA, wdK_name hw]; rfl
  have k3 : isKindP e s 0 3 = false := by rw [isKindP_at rfl hA, wdK_name hw]; rfl
  have p1 : isP e s 0 [[40]] = false := by
    rw [isP_at rfl hA]
    have : w ≠ [40] := fun h => by rw [h] at hw; revert hw; decide
    simp [wdK, this]
  have p2 : isP e s 0 wFuncs = false := by
    rw [isP_at rfl hA]
    have : (wdK w).text = w := rfl
    rw [this, hf, Bool.and_false]
  have p3 : isP e s 0 [wLeft, wRight] = true := by
    rw [isP_at rfl hA]
    have : (wdK w).text = w := rfl
    rw [this, hw2, wdK_kind]
    rfl
  have p4 : isP e s 1 [[46]] = true := by rw [isP_at rfl hA1]; decide
  have e1 := expect_at hA (ws := [wLeft, wRight]) (wdK_kind _) hw2
  have e2 : expectP e { s with pos := s.pos + 1 } [[46]] = ([46], { s with pos := s.pos + 1 + 1 }) := expect_at (s := { s with pos := s.pos + 1 }) hA1 (ws := [[46]]) (wdK_kind _) (by decide)
  have hg := ref_got (left := left) (right := right) (s := { s with pos := s.pos + 1 + 1 }) (r := w == wRight) (c := c) hA2 (wdK_name hn) ht
  refine ⟨_, ⟨hg.tree, ?_, hg.failed, hg.off, hg.refs⟩, ?_⟩
  · have := hg.pos
    simp only at this ⊢
    omega
  · rintro (_ | f) hf
    · omega
    unfold parseP
    simp only [k2, k3, p1, p2, p3, p4, e1, e2, if_true, if_false, Bool.false_eq_true, false_and, and_self]
    rfl
theorem col_at0 {t : T} (ht : t.ok = true) (h1 : t.op = 2) (hc : okCol left right t.c.toNat) : At0 e left right (.node t []) := by
  obtain ⟨h2, h3⟩ := node_col ht h1
  obtain ⟨c, hcc⟩ := Int.eq_ofNat_of_zero_le h3
  rw [hcc] at hc h2
  have hw : X.wr left right (.node t []) = refW left right c := by
    rw [X.wr]
    unfold nodeW
    rw [if_neg (by omega), if_pos h1, hcc]
    rfl
  have hc2 : isNameB (colName left right c) = true := hc
  have hz : (X.node t []).flat.length = 1 := by rw [X.flat_node]; rfl
  intro s hA hF
  rw [hw] at hA hF ⊢
  rw [h2] at hz ⊢
  rw [hz]
  clear hz hw
  unfold refW at hA hF ⊢
  by_cases hl : left.length ≤ c
  · rw [if_pos hl] at hA ⊢
    obtain ⟨r, g1, g2⟩ := side_at0 (e := e) (left := left) (right := right) (c := c) (w := wRight) (nm := colName left right c) (by decide) (by decide) (by decide) hc2 (by unfold nameOf; simp [hl]) hA
    exact ⟨r, g1, fun f hf => g2 f (by omega)⟩
  rw [if_neg hl] at hA hF ⊢
  by_cases hn : colName left right c = wNot
  · rw [if_pos hn] at hA ⊢
    obtain ⟨r, g1, g2⟩ := side_at0 (e := e) (left := left) (right := right) (c := c) (w := wLeft) (nm := wNot) (by decide) (by decide) (by decide) (by decide) (by unfold nameOf; rw [hn]; simp [hl]; decide) hA
    exact ⟨r, g1, fun f hf => g2 f (by omega)⟩
  rw [if_neg hn] at hA hF ⊢
  generalize hnm : colName left right c = nm at hA hF hc2 hn ⊢
  have k2 : isKindP e s 0 2 = false := by rw [isKindP_at rfl hA, wdK_name hc2]; rfl
  have k3 : isKindP e s 0 3 = false := by rw [isKindP_at rfl hA, wdK_name hc2]; rfl
  have p1 : isP e s 0 [[40]] = false := by
    rw [isP_at rfl hA]
    have : nm ≠ [40] := fun h => by rw [h] at hc2; revert hc2; decide
    simp [wdK, this]
  have p2 : isP e s 1 [[40]] = false := hF.isP (a := 1) (by decide)
  have p3 : isP e s 1 [[46]] = false := hF.isP (a := 1) (by decide)
  have hg := ref_got (left := left) (right := right) (r := false) (c := c) hA (wdK_name hc2) (by unfold nameOf; rw [hnm]; simp [wdK, hl])
  refine ⟨_, hg, ?_⟩
  rintro (_ | f) hf
  · omega
  unfold parseP
  simp only [k2, k3, p1, p2, p3, if_true, if_false, Bool.false_eq_true, and_false]
def moreW (left right : List Bs) : List X → List Tk
  | [] => []
  | x :: l => wdK [44] :: (x.wr left right ++ moreW left right l)
theorem comma_more (a : X) : ∀ l : List X, commaW (wrs left right (a :: l)) = a.wr left right ++ moreW left right l
  | [] => by simp [wrs, commaW, moreW]
  | b :: l => by
    have := comma_more b l
    rw [wrs] at this
    rw [wrs, wrs, commaW, this, moreW]
theorem Got.join {x : X} {n m : Nat} {s : Ps} {r : X × Ps} {xs : List X} {q : List X × Ps} (h : Got left right x n s r) (h2 : Gots left right xs m r.2 q) : Gots left right (x :: xs) (n + m) s (r.1 :: q.1, q.2) := by
  obtain ⟨rs, e1, e2⟩ := h.refs
  obtain ⟨rs', e3, e4⟩ := h2.refs
  have hl : rs.length = x.cols.length := by simpa using congrArg List.length e2
  refine ⟨?_, ?_, h2.failed.trans h.failed, h2.off.trans h.off, rs ++ rs', ?_, ?_⟩
  · simp only
    rw [h.tree, h2.trees, e1, rens, List.length_append, hl]
  · have := h.pos; have := h2.pos; simp only at *; omega
  · simp only; rw [e3, e1, List.append_assoc]
  · rw [colss, List.map_append, List.map_append, e2, e4]
theorem args_got : ∀ (l : List X) (k : Nat) (s : Ps) (b : Nat), l.length = k → (∀ x ∈ l, At6 e left right x ∧ 10 * x.flat.length ≤ b) → AtW e s.pos (moreW left right l ++ [wdK [41]]) →
    ∃ r : List X × Ps, Gots left right l (moreW left right l).length s r ∧ ∀ f acc, b + k ≤ f → argsP e f k acc s = (acc ++ r.1, r.2)
  | [], k, s, b, hk, _, _ => by
    subst hk
    refine ⟨([], s), ⟨rfl, rfl, rfl, rfl, [], by simp, rfl⟩, ?_⟩
    rintro (_ | f) acc hf
    · unfold argsP; simp
    · unfold argsP; simp
  | x :: l, k, s, b, hk, h, hA => by
    subst hk
    rw [moreW, List.cons_append, List.append_assoc] at hA
    have hA1 := hA.tail
    obtain ⟨h6, hb⟩ := h x (by simp)
    have hfol : Fol e (s.pos + 1 + (x.wr left right).length) folW := by
      cases l with
      | nil => exact Fol.at hA1.right (by decide)
      | cons y l => exact Fol.at hA1.right (by decide)
    obtain ⟨r, g1, g2⟩ := h6 { s with pos := s.pos + 1 } hA1.left hfol
    have hA2 : AtW e r.2.pos (moreW left right l ++ [wdK [41]]) := by rw [g1.pos]; exact hA1.right
    obtain ⟨q, q1, q2⟩ := args_got l l.length r.2 b rfl (fun y hy => h y (by simp [hy])) hA2
    have g3 : Got left right x (1 + (x.wr left right).length) s r := ⟨g1.tree, by rw [g1.pos]; simp only; omega, g1.failed, g1.off, g1.refs⟩
    have gj := g3.join q1
    refine ⟨(r.1 :: q.1, q.2), ?_, ?_⟩
    · have : (moreW left right (x :: l)).length = 1 + (x.wr left right).length + (moreW left right l).length := by rw [moreW, List.length_cons, List.length_append]; omega
      rw [this]
      exact gj
    · rintro (_ | f) acc hf
      · simp at hf
      simp only [List.length_cons] at hf
      have e1 := expect_at hA (ws := [[44]]) (wdK_kind _) (by decide)
      rw [List.length_cons]
      unfold argsP
      rw [e1]
      simp only
      rw [g2 f (by omega), q2 f (acc ++ [r.1]) (by omega)]
      simp
theorem flats_mem {x : X} : ∀ {l : List X}, x ∈ l → x.flat.length + l.length ≤ (flats l).length + 1
  | [], h => by cases h
  | y :: l, h => by
    rw [flats, List.length_append, List.length_cons]
    rcases List.mem_cons.1 h with rfl | h
    · have : ∀ l : List X, l.length ≤ (flats l).length := by
        intro l
        induction l with
        | nil => simp
        | cons z l ih => rw [flats, List.length_append, List.length_cons]; have := flat_pos z; omega
      have := this l
      omega
    · have := flats_mem h
      have := flat_pos y
      omega
theorem cons_flats (x : X) (l : List X) : (flats (x :: l)).length = x.flat.length + (flats l).length := by rw [flats, List.length_append]
theorem fun_at0 {t : T} {ks : List X} (ht : t.ok = true) (h1 : t.op ≠ 1) (h2 : t.op ≠ 2) (h3 : isFun t.op = true) (ha : (ks.length : Int) = arity t.op) (h6 : ∀ x ∈ ks, At6 e left right x) : At0 e left right (.node t ks) := by
  obtain ⟨ht2, -, -⟩ := node_op ht h1 h2
  have h4 : t.op = 9 ∨ t.op = 10 ∨ t.op = 16 ∨ t.op = 17 ∨ t.op = 18 := by simpa [isFun] using h3
  have hfun : isNameB (opW t.op) = true ∧ wFuncs.contains (opW t.op) = true ∧ funP (opW t.op) = t.op ∧ opW t.op ≠ [40] ∧ 1 ≤ arity t.op := by
    rcases h4 with h | h | h | h | h <;> rw [h] <;> decide
  obtain ⟨u1, u2, u3, u4, u5⟩ := hfun
  obtain ⟨k0, l, rfl⟩ : ∃ k0 l, ks = k0 :: l := by
    cases ks with
    | nil => rw [← ha] at u5; simp at u5
    | cons a l => exact ⟨a, l, rfl⟩
  intro s hA hF
  have hw : X.wr left right (.node t (k0 :: l)) = wdK (opW t.op) :: wdK [40] :: (k0.wr left right ++ (moreW left right l ++ [wdK [41]])) := by
    rw [X.wr]
    unfold nodeW
    rw [if_neg h1, if_neg h2, if_pos h3, comma_more]
    simp
  rw [hw] at hA ⊢
  clear hF hw
  have hA1 := hA.tail
  have hA2 := hA1.tail
  have k2 : isKindP e s 0 2 = false := by rw [isKindP_at rfl hA, wdK_name u1]; rfl
  have k3 : isKindP e s 0 3 = false := by rw [isKindP_at rfl hA, wdK_name u1]; rfl
  have p1 : isP e s 0 [[40]] = false := by
    rw [isP_at rfl hA]
    simp [wdK, u4]
  have p2 : isP e s 0 wFuncs = true := by
    rw [isP_at rfl hA]
    have : (wdK (opW t.op)).text = opW t.op := rfl
    rw [this, u2, wdK_kind]
    rfl
  have p3 : isP e s 1 [[40]] = true := by rw [isP_at rfl hA1]; decide
  obtain ⟨t', e1, -, e3, -⟩ := take_at hA (k := 1) (wdK_name u1)
  have e3' : t'.text = opW t.op := e3
  have e2 : expectP e { s with pos := s.pos + 1 } [[40]] = ([40], { s with pos := s.pos + 1 + 1 }) := expect_at (s := { s with pos := s.pos + 1 }) hA1 (ws := [[40]]) (wdK_kind _) (by decide)
  have hfol : Fol e (s.pos + 1 + 1 + (k0.wr left right).length) folW := by
    cases l with
    | nil => exact Fol.at hA2.right (by decide)
    | cons y l => exact Fol.at hA2.right (by decide)
  obtain ⟨r, g1, g2⟩ := h6 k0 (by simp) { s with pos := s.pos + 1 + 1 } hA2.left hfol
  have hA3 : AtW e r.2.pos (moreW left right l ++ [wdK [41]]) := by rw [g1.pos]; exact hA2.right
  obtain ⟨q, q1, q2⟩ := args_got l l.length r.2 (10 * ((flats l).length + 1 - l.length)) rfl (fun x hx => ⟨h6 x (by simp [hx]), by have := flats_mem hx; omega⟩) hA3
  have hA4 : AtW e q.2.pos [wdK [41]] := by rw [q1.pos]; exact hA3.right
  have e5 := expect_at hA4 (ws := [[41]]) (wdK_kind _) (by decide)
  have gj := g1.join q1
  have hl : (arity t.op).toNat - 1 = l.length := by rw [← ha]; simp
  refine ⟨(opX t.op (r.1 :: q.1), { q.2 with pos := q.2.pos + 1 }), ?_, ?_⟩
  · obtain ⟨rs, r1, r2⟩ := gj.refs
    refine ⟨?_, ?_, gj.failed, gj.off, rs, r1, ?_⟩
    · have := gj.trees
      simp only at this ⊢
      rw [X.ren, if_neg h2, if_neg h2, Nat.add_zero, ← this]
      unfold opX
      rw [← ht2]
    · have := gj.pos
      simp only [List.length_cons, List.length_append, List.length_nil] at this ⊢
      omega
    · rw [X.cols, if_neg h2, List.nil_append]
      exact r2
  · rintro (_ | f) hf
    · have := flat_pos (.node t (k0 :: l)); omega
    have hz : (X.node t (k0 :: l)).flat.length = 1 + (k0.flat.length + (flats l).length) := by rw [X.flat_node, List.length_cons, cons_flats]; omega
    have hlen : l.length ≤ (flats l).length := by
      cases l with
      | nil => simp
      | cons y l => have := flats_mem (x := y) (l := y :: l) (by simp); have := flat_pos y; omega
    have := flat_pos k0
    rw [hz] at hf
    unfold parseP
    simp only [k2, k3, p1, p2, p3, e1, e2, e3', u3, hl, if_true, if_false, Bool.false_eq_true, and_self]
    rw [g2 f (by omega)]
    rw [q2 f [r.1] (by omega), e5]
    rfl
end
section
variable {e : Src} {left right : List Bs}
theorem at6_of_0 {x : X} (hx : x.wf = true) (hc : ∀ c ∈ x.cols, okCol left right c) (hb : bareW x.t false = true) (h : At0 e left right x) : At6 e left right x := by
  intro s hA hF
  obtain ⟨r, g1, g2⟩ := h s hA (hF.of (by decide))
  have hA' : AtW e s.pos (operW x false (x.wr left right)) := by unfold operW; rw [if_pos hb]; exact hA
  obtain ⟨m1, m2, -⟩ := oper_head hx hc hA'
  refine ⟨r, g1, fun f hf => ?_⟩
  have hF' : Fol e r.2.pos folW := by rw [g1.pos]; exact hF
  have := flat_pos x
  exact lift_to (lv := 1) (n := 5) (b := 10 * x.flat.length - 5) (by omega) (by omega) (fun f hf => lift0 (b := 10 * x.flat.length - 6) (fun f hf => g2 f (by omega)) m1 m2 f (by omega)) hF' f (by omega)
theorem at6_of_1 {x : X} (h : ∀ s : Ps, AtW e s.pos (x.wr left right) → Fol e (s.pos + (x.wr left right).length) folW → ∃ r, Got left right x (x.wr left right).length s r ∧ ∀ f, 10 * x.flat.length ≤ f + 5 → parseP e f 1 s = r) : At6 e left right x := by
  intro s hA hF
  obtain ⟨r, g1, g2⟩ := h s hA hF
  refine ⟨r, g1, fun f hf => ?_⟩
  have hF' : Fol e r.2.pos folW := by rw [g1.pos]; exact hF
  have := flat_pos x
  exact lift_to (lv := 1) (n := 5) (b := 10 * x.flat.length - 5) (by omega) (by omega) (fun f hf => g2 f (by omega)) hF' f (by omega)
theorem sign_at6 {t : T} {k : X} (ht : t.ok = true) (h1 : t.op = 3 ∨ t.op = 13) (hk : k.wf = true) (hc : ∀ c ∈ k.cols, okCol left right c) (h0 : bareW k.t false = true → At0 e left right k) (h6 : At6 e left right k) : At6 e left right (.node t [k]) := by
  refine at6_of_1 fun s hA hF => ?_
  have n1 : t.op ≠ 1 := by omega
  have n2 : t.op ≠ 2 := by omega
  have n3 : isFun t.op = false := by unfold isFun; rw [decide_eq_false_iff_not]; omega
  obtain ⟨ht2, -, -⟩ := node_op ht n1 n2
  have hw : X.wr left right (.node t [k]) = wdK (opW t.op) :: operW k (t.op == 3) (k.wr left right) := by
    rw [X.wr]
    unfold nodeW
    rw [if_neg n1, if_neg n2, if_neg (by rw [n3]; simp), wrs, wrs]
  rw [hw] at hA hF ⊢
  clear hw
  have hA1 : AtW e ({ s with pos := s.pos + 1 } : Ps).pos (operW k (t.op == 3) (k.wr left right)) := hA.tail
  obtain ⟨-, -, m3⟩ := oper_head hk hc hA1
  have hF1 : Fol e (({ s with pos := s.pos + 1 } : Ps).pos + (operW k (t.op == 3) (k.wr left right)).length) [[40], [46]] := by
    have := hF.of (V := [[40], [46]]) (by decide)
    rwa [List.length_cons, show s.pos + ((operW k (t.op == 3) (k.wr left right)).length + 1) = s.pos + 1 + (operW k (t.op == 3) (k.wr left right)).length by omega] at this
  obtain ⟨r, g1, g2⟩ := oper_got1 hk hc h0 h6 hA1 hF1
  refine ⟨(opX t.op [r.1], r.2), ?_, ?_⟩
  · obtain ⟨rs, r1, r2⟩ := g1.refs
    refine ⟨?_, ?_, g1.failed, g1.off, rs, r1, ?_⟩
    · have := g1.tree
      simp only at this ⊢
      rw [X.ren, if_neg n2, if_neg n2, rens, rens, Nat.add_zero, this]
      unfold opX
      rw [← ht2]
    · have := g1.pos
      simp only [List.length_cons] at this ⊢
      omega
    · rw [X.cols, if_neg n2, colss, colss, List.nil_append, List.append_nil]
      exact r2
  · have hz : (X.node t [k]).flat.length = 1 + k.flat.length := by rw [X.flat_node, List.length_cons, flats, flats, List.append_nil]; omega
    rintro (_ | f) hf
    · have := flat_pos k; omega
    unfold parseP
    rcases h1 with h1 | h1
    · have p1 : isP e s 0 [[45]] = true := by rw [isP_at rfl hA, h1]; decide
      have p2 := m3 (by rw [h1]; rfl)
      simp only [p1, p2, if_true, if_false, Bool.false_eq_true, g2 f (by omega), h1]
    · have p1 : isP e s 0 [[45]] = false := by rw [isP_at rfl hA, h1]; decide
      have p2 : isP e s 0 [wNot] = true := by rw [isP_at rfl hA, h1]; decide
      simp only [p1, p2, if_true, if_false, Bool.false_eq_true, g2 f (by omega), h1]
theorem neg_at6 {t : T} (ht : t.ok = true) (h1 : t.op = 1) (hb : bareW t false = false) : At6 e left right (.node t []) := by
  refine at6_of_1 fun s hA _ => ?_
  obtain ⟨r, g1, g2⟩ := const_at1 ht h1 hb hA
  refine ⟨r, g1, fun f hf => g2 f ?_⟩
  have hz : (X.node t []).flat.length = 1 := by rw [X.flat_node]; rfl
  omega
theorem wdK_text (w : Bs) : (wdK w).text = w := rfl
theorem up_to {x : X} {s : Ps} {r : X × Ps} {b : Nat} {W : List Bs} (h : ∀ f, b ≤ f → parseP e f 1 s = r) (hF : Fol e r.2.pos W) : ∀ n, n ≤ 4 → (∀ m, 2 ≤ m → m ≤ n + 1 → ∀ w ∈ opsP m, w ∈ W) → (3 ≤ n → ∀ w ∈ ([[61], [60], [60, 61]] : List Bs), w ∈ W) → ∀ f, b + n ≤ f → parseP e f (1 + n) s = r
  | 0, _, _, _ => h
  | n + 1, hn, ho, h4 => by
    have ih := up_to (x := x) h hF n (by omega) (fun m h1 h2 => ho m h1 (by omega)) (fun h3 => h4 (by omega))
    have := lift1W (e := e) (s := s) (x := r.1) (s1 := r.2) (lv := 1 + n) (b := b + n) (W := W) (by omega) (by omega) ih hF (fun w hw => ho (1 + n + 1) (by omega) (by omega) w hw) (fun h3 => h4 (by omega))
    exact this
theorem bin_got {t : T} {x y : X} {n m : Nat} {s : Ps} {r q : X × Ps} (ht : t = ⟨t.op, V.null, 0⟩) (n2 : t.op ≠ 2) (g : Got left right x n s r) (h : Got left right y m { r.2 with pos := r.2.pos + 1 } q) : Got left right (.node t [x, y]) (n + (1 + m)) s (opX t.op [r.1, q.1], q.2) := by
  have h' : Gots left right [y] (1 + m) r.2 ([q.1], q.2) := by
    obtain ⟨rs, r1, r2⟩ := h.refs
    refine ⟨?_, ?_, h.failed, h.off, rs, r1, by rw [colss, colss, List.append_nil]; exact r2⟩
    · rw [rens, rens, h.tree]
    · have := h.pos; simp only at this ⊢; omega
  have gj := g.join h'
  obtain ⟨rs, r1, r2⟩ := gj.refs
  refine ⟨?_, gj.pos, gj.failed, gj.off, rs, r1, ?_⟩
  · have := gj.trees
    simp only at this ⊢
    rw [X.ren, if_neg n2, if_neg n2, Nat.add_zero, ← this]
    unfold opX
    rw [← ht]
  · rw [X.cols, if_neg n2, List.nil_append]
    exact r2
theorem bin_at6 {t : T} {x y : X} (ht : t.ok = true) (h1 : isBin t.op) (hx : x.wf = true) (hy : y.wf = true) (hcx : ∀ c ∈ x.cols, okCol left right c) (hcy : ∀ c ∈ y.cols, okCol left right c) (x0 : bareW x.t false = true → At0 e left right x) (x6 : At6 e left right x) (y0 : bareW y.t false = true → At0 e left right y) (y6 : At6 e left right y) : At6 e left right (.node t [x, y]) := by
  intro s hA hF
  have n1 : t.op ≠ 1 := by unfold isBin at h1; omega
  have n2 : t.op ≠ 2 := by unfold isBin at h1; omega
  obtain ⟨b1, b2, b3⟩ := bin_facts h1
  obtain ⟨ht2, -, -⟩ := node_op ht n1 n2
  have hw : X.wr left right (.node t [x, y]) = operW x false (x.wr left right) ++ (wdK (opW t.op) :: operW y false (y.wr left right)) := by
    rw [X.wr]
    unfold nodeW
    rw [if_neg n1, if_neg n2, if_neg (by rw [b3]; simp), wrs, wrs, wrs]
    rfl
  rw [hw] at hA hF ⊢
  clear hw
  have hop : [[40], [46]].contains (opW t.op) = false ∧ (∀ m, 2 ≤ m → m ≤ lvOf t.op - 1 → (opsP m).contains (opW t.op) = false) ∧ (5 ≤ lvOf t.op → [[61], [60], [60, 61]].contains (opW t.op) = false) ∧ 2 ≤ lvOf t.op ∧ lvOf t.op ≤ 6 := by
    unfold isBin at h1
    rcases h1 with h | h | h | h | h | h | h | h | h <;> rw [h] <;> refine ⟨by decide, fun m m1 m2 => ?_, by decide, by decide, by decide⟩ <;>
      (have m3 : m = 2 ∨ m = 3 ∨ m = 4 ∨ m = 5 := by (have : m ≤ 5 := Nat.le_trans m2 (by decide)); omega) <;>
      (rcases m3 with rfl | rfl | rfl | rfl <;> first | (revert m2; decide) | rfl)
  obtain ⟨o1, o2, o3, o4, o5⟩ := hop
  have hAx := hA.left
  have hAo := hA.right
  have hAy := hAo.tail
  have hFx : Fol e (s.pos + (operW x false (x.wr left right)).length) [[40], [46]] := Fol.at hAo (by rw [wdK_text]; exact o1)
  obtain ⟨r, g1, g2⟩ := oper_got1 hx hcx x0 x6 hAx hFx
  have hAo' : AtW e r.2.pos (wdK (opW t.op) :: operW y false (y.wr left right)) := by rw [g1.pos]; exact hAo
  have hAy' : AtW e ({ r.2 with pos := r.2.pos + 1 } : Ps).pos (operW y false (y.wr left right)) := hAo'.tail
  have hend : s.pos + (operW x false (x.wr left right) ++ (wdK (opW t.op) :: operW y false (y.wr left right))).length = r.2.pos + 1 + (operW y false (y.wr left right)).length := by
    have := g1.pos
    rw [List.length_append, List.length_cons]
    omega
  rw [hend] at hF
  obtain ⟨q, q1, q2⟩ := oper_got1 hy hcy y0 y6 hAy' (hF.of (by decide))
  have hFq : Fol e q.2.pos folW := by rw [q1.pos]; exact hF
  have gg := bin_got ht2 n2 g1 q1
  have hlen : (operW x false (x.wr left right) ++ (wdK (opW t.op) :: operW y false (y.wr left right))).length = (operW x false (x.wr left right)).length + (1 + (operW y false (y.wr left right)).length) := by rw [List.length_append, List.length_cons]; omega
  rw [hlen]
  refine ⟨_, gg, ?_⟩
  have hz : (X.node t [x, y]).flat.length = 1 + (x.flat.length + y.flat.length) := by rw [X.flat_node, List.length_cons, flats, flats, flats, List.append_nil, List.length_append]; omega
  rw [hz]
  have hfx := flat_pos x
  have hfy := flat_pos y
  have hyn : ∀ n, n ≤ 4 → ∀ f, 10 * y.flat.length + 2 + n ≤ f → parseP e f (1 + n) { r.2 with pos := r.2.pos + 1 } = q := fun n hn => up_to (x := y) q2 hFq n hn (fun m _ _ => ops_fol m) (fun _ => by decide)
  have hxn : ∀ n, n ≤ lvOf t.op - 2 → ∀ f, 10 * x.flat.length + 2 + n ≤ f → parseP e f (1 + n) s = r := fun n hn => by
    refine up_to (x := x) (W := (([[61], [60], [60, 61]] : List Bs) ++ [wOr, wAnd, [43], [45], [43, 43], [42], [47]]).filter fun w => w != opW t.op) g2 (Fol.at hAo' ?_) n (by omega) (fun m h2 h3 w hw => ?_) (fun h3 w hw => ?_)
    · rw [wdK_text, Bool.eq_false_iff]
      intro hh
      have := List.mem_filter.1 (List.contains_iff_mem.1 hh)
      simp at this
    · refine List.mem_filter.2 ⟨?_, ?_⟩
      · have m3 : m = 2 ∨ m = 3 ∨ m = 4 ∨ m = 5 := by omega
        rcases m3 with rfl | rfl | rfl | rfl <;> (revert w; decide)
      · have := o2 m h2 (by omega)
        simp only [bne_iff_ne, ne_eq]
        intro hh
        rw [hh] at hw
        rw [List.contains_iff_mem.2 hw] at this
        cases this
    · refine List.mem_filter.2 ⟨List.mem_append_left _ hw, ?_⟩
      have := o3 (by omega)
      simp only [bne_iff_ne, ne_eq]
      intro hh
      rw [hh] at hw
      rw [List.contains_iff_mem.2 hw] at this
      cases this
  have hopp : (([[61], [60], [60, 61]] : List Bs) ++ [wOr, wAnd, [43], [45], [43, 43], [42], [47]]).contains (opW t.op) = true := by
    unfold isBin at h1
    rcases h1 with h | h | h | h | h | h | h | h | h <;> rw [h] <;> decide
  have hlv : ∀ f, 10 * (1 + (x.flat.length + y.flat.length)) ≤ f + (6 - lvOf t.op) → parseP e f (lvOf t.op) s = (opX t.op [r.1, q.1], q.2) := by
    have hch : ∀ lv, 2 ≤ lv → lv ≤ 6 → lv ≠ 4 → lvOf t.op = lv → (opsP lv).contains (opW t.op) = true → ∀ f, 10 * (1 + (x.flat.length + y.flat.length)) ≤ f + (6 - lv) → parseP e f lv s = (opX t.op [r.1, q.1], q.2) := by
      intro lv l2 l6 l4 hl hc f hf
      have c1 : isP e r.2 0 (opsP lv) = true := by rw [isP_at rfl hAo', wdK_text, hc, wdK_kind]; rfl
      have c2 := expect_at hAo' (ws := opsP lv) (wdK_kind _) (by rw [wdK_text]; exact hc)
      have c3 : ∀ f x, chainP e f lv x q.2 = (x, q.2) := fun f x => chain_stop (hFq.isP (a := 0) (ops_fol lv)) f
      obtain ⟨f, rfl⟩ : ∃ g, f = g + 2 := ⟨f - 2, by omega⟩
      have hx1 := hxn (lv - 2) (by omega) (f + 1) (by omega)
      have hy1 := hyn (lv - 2) (by omega) f (by omega)
      rw [show 1 + (lv - 2) = lv - 1 by omega] at hx1 hy1
      have hkey : chainP e (f + 1) lv r.1 r.2 = (opX t.op [r.1, q.1], q.2) := by
        unfold chainP
        rw [if_pos c1, c2]
        simp only
        rw [hy1, wdK_text, b1]
        exact c3 _ _
      have hl5 : lv = 2 ∨ lv = 3 ∨ lv = 5 ∨ lv = 6 := by omega
      rcases hl5 with rfl | rfl | rfl | rfl <;> (simp only [Nat.reduceSub] at hx1; unfold parseP; (try simp only); rw [hx1]; exact hkey)
    have hcm : lvOf t.op = 4 → [[61], [60]].contains (opW t.op) = true → ∀ f, 10 * (1 + (x.flat.length + y.flat.length)) ≤ f + (6 - 4) → parseP e f 4 s = (opX t.op [r.1, q.1], q.2) := by
      intro hl hc f hf
      have c1 : isP e r.2 0 [[61], [60]] = true := by rw [isP_at rfl hAo', wdK_text, hc, wdK_kind]; rfl
      have c2 := expect_at hAo' (ws := [[61], [60]]) (wdK_kind _) (by rw [wdK_text]; exact hc)
      obtain ⟨f, rfl⟩ : ∃ g, f = g + 1 := ⟨f - 1, by omega⟩
      have hx1 : parseP e f 3 s = r := hxn 2 (by omega) f (by omega)
      have hy1 : parseP e f 3 { r.2 with pos := r.2.pos + 1 } = q := hyn 2 (by omega) f (by omega)
      unfold parseP
      simp only
      rw [hx1, if_pos c1, c2]
      simp only
      rw [hy1, wdK_text, b1]
    unfold isBin at h1
    rcases h1 with h | h | h | h | h | h | h | h | h <;> rw [h] at hch hcm ⊢
    · exact hch 3 (by decide) (by decide) (by decide) (by decide) (by decide)
    · exact hch 3 (by decide) (by decide) (by decide) (by decide) (by decide)
    · exact hch 2 (by decide) (by decide) (by decide) (by decide) (by decide)
    · exact hch 2 (by decide) (by decide) (by decide) (by decide) (by decide)
    · exact hch 3 (by decide) (by decide) (by decide) (by decide) (by decide)
    · exact hcm (by decide) (by decide)
    · exact hcm (by decide) (by decide)
    · exact hch 5 (by decide) (by decide) (by decide) (by decide) (by decide)
    · exact hch 6 (by decide) (by decide) (by decide) (by decide) (by decide)
  intro f hf
  have hF' : Fol e (opX t.op [r.1, q.1], q.2).2.pos folW := hFq
  have := lift_to (e := e) (s := s) (x := opX t.op [r.1, q.1]) (s1 := q.2) (lv := lvOf t.op) (n := 6 - lvOf t.op) (b := 10 * (1 + (x.flat.length + y.flat.length)) - (6 - lvOf t.op)) (by omega) (by omega) (fun f hf => hlv f (by omega)) hF' f (by omega)
  rwa [show lvOf t.op + (6 - lvOf t.op) = 6 by omega] at this
end
end Go.Proofs.YtpnfbehbheddeaaGreatDoor
