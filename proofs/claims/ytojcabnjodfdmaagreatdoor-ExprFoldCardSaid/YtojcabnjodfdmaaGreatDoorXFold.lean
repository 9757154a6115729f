/- Folding, in the words of lists. Plain Lean, no condition. -/
import Derived.Test.YtojcabnjodfdmaaGreatDoorBb
namespace Go.Proofs.YtojcabnjodfdmaaGreatDoor

def foldE (l : List T) : List T := match treeE l with
  | some x => x.fold.flat
  | none => []
theorem foldE_bad {l : List T} (h : validE l = false) : foldE l = [] := by unfold foldE; rw [treeE_bad h]
theorem foldE_ok {l : List T} {x : X} (h : treeE l = some x) : foldE l = x.fold.flat := by unfold foldE; rw [h]
theorem flat_head (x : X) : ∃ r, x.flat = x.t :: r := by
  cases x with
  | node t ks => exact ⟨flats ks, by rw [X.flat_node]; rfl⟩
theorem fold_take {ks : List X} {i : Nat} {k : X} (h : ks[i]? = some k) : folds (ks.take (i + 1)) = folds (ks.take i) ++ [k.fold] := by
  rw [List.take_add_one, h, Option.toList_some, folds_snoc]
theorem flats_two (a b : List X) : flats (a ++ b) = flats a ++ flats b := by
  induction a with
  | nil => simp [flats]
  | cons y ys ih => simp only [List.cons_append, flats_cons, ih, List.append_assoc]
theorem flats_takes (ks : List X) (i : Nat) : (flats (ks.take i)).length ≤ (flats ks).length := by
  have := flats_two (ks.take i) (ks.drop i)
  rw [List.take_append_drop] at this
  rw [this, List.length_append]
  omega
theorem folds_takes (ks : List X) (i : Nat) : (flats (folds (ks.take i))).length ≤ (flats ks).length := by
  have h1 := (folds_size (ks.take i)).1
  have h2 := flats_takes ks i
  omega
theorem foldN_no {t : T} {ks : List X} (h : ((t.op != 2) && ks.all isC) = false) : foldN t ks = .node t ks := by
  unfold foldN
  rw [if_neg]
  rintro ⟨h1, h2, _⟩
  rw [h2, Bool.and_true, bne_eq_false_iff_eq] at h
  exact h1 h
theorem foldN_null {t : T} {ks : List X} (h : ((X.node t ks).ev []).k = 0) : foldN t ks = .node t ks := by
  unfold foldN
  rw [if_neg (fun hh => hh.2.2 h)]
theorem foldN_yes {t : T} {ks : List X} (h1 : ((t.op != 2) && ks.all isC) = true) (h : ((X.node t ks).ev []).k ≠ 0) : foldN t ks = constX ((X.node t ks).ev []) := by
  rw [Bool.and_eq_true, bne_iff_ne] at h1
  unfold foldN
  rw [if_pos ⟨h1.1, h1.2, h⟩]
theorem constX_flat (v : V) : (constX v).flat = [⟨1, v, 0⟩] := by unfold constX; rw [X.flat_node]; simp [flats]
theorem leaf_fold {t : T} (h : (X.node t []).wf = true) : (X.node t []).fold.flat = [t] := by
  have hw := h
  simp only [X.wf, Bool.and_eq_true, decide_eq_true_eq, List.length_nil] at hw
  have hop := term_op hw.1
  rw [X.fold, folds]
  have harO : t.op = 1 ∨ t.op = 2 := by
    rcases Decidable.em (t.op = 1 ∨ t.op = 2) with h1 | h1
    · exact h1
    · exfalso
      have h2 := hw.2.1
      unfold ar arity at h2
      rw [if_neg h1] at h2
      split at h2
      · simp at h2
      · split at h2
        · simp at h2
        · simp at h2
  rcases harO with h1 | h1
  · have ho := hw.1
    unfold T.ok at ho
    rw [Bool.and_eq_true] at ho
    have ho2 := ho.2
    rw [if_pos h1] at ho2
    simp only [Bool.and_eq_true, beq_iff_eq, bne_iff_ne] at ho2
    have he : (X.node t []).ev [] = t.v := by rw [X.ev]; unfold termV; rw [if_pos h1]
    rw [foldN_yes (by rw [h1]; rfl) (by rw [he]; exact ho2.2.1), constX_flat, he]
    obtain ⟨op, v, c⟩ := t
    simp only at h1 ho2
    rw [h1, ho2.1]
  · rw [foldN_no (by rw [h1]; rfl), X.flat_node]
    simp [flats]
/-- The values of the constants of a list of expressions. -/
def cvals (l : List X) : List V := (l.filter isC).map fun x => x.t.v
theorem cvals_yes {l : List X} {x : X} (h : isC x = true) : cvals (l ++ [x]) = cvals l ++ [x.t.v] := by unfold cvals; simp [List.filter_append, h]
theorem cvals_no {l : List X} {x : X} (h : isC x = false) : cvals (l ++ [x]) = cvals l := by unfold cvals; simp [List.filter_append, h]
theorem cvals_le (l : List X) : (cvals l).length ≤ l.length := by
  unfold cvals
  rw [List.length_map]
  exact List.length_filter_le _ _
theorem cvals_all {l : List X} (h : l.all isC = true) : (cvals l).length = l.length := by
  unfold cvals
  rw [List.length_map, List.filter_eq_self.2 (fun x hx => List.all_eq_true.1 h x hx)]
theorem cvals_some : ∀ {l : List X}, l.all isC = false → (cvals l).length < l.length := by
  intro l
  induction l with
  | nil => intro h; simp at h
  | cons x l ih =>
    intro h
    have hl := cvals_le l
    cases hx : isC x
    · have : cvals (x :: l) = cvals l := by unfold cvals; simp [hx]
      rw [this, List.length_cons]
      omega
    · rw [List.all_cons, hx, Bool.true_and] at h
      have := ih h
      have e : cvals (x :: l) = x.t.v :: cvals l := by unfold cvals; simp [hx]
      rw [e, List.length_cons, List.length_cons]
      omega
theorem cvals_evs : ∀ {l : List X}, wfs l = true → l.all isC = true → cvals l = evs [] l := by
  intro l
  induction l with
  | nil => intro _ _; simp [cvals, evs]
  | cons x l ih =>
    intro hw h
    simp only [wfs, Bool.and_eq_true] at hw
    simp only [List.all_cons, Bool.and_eq_true] at h
    have e : cvals (x :: l) = x.t.v :: cvals l := by unfold cvals; simp [h.1]
    rw [e, ih hw.2 h.2, evs, isC_ev hw.1 h.1]
theorem flats_pos (ks : List X) : ks.length ≤ (flats ks).length := by
  induction ks with
  | nil => simp [flats]
  | cons x l ih =>
    have := x.flat_pos
    rw [flats_cons, List.length_append, List.length_cons]
    omega
end Go.Proofs.YtojcabnjodfdmaaGreatDoor
