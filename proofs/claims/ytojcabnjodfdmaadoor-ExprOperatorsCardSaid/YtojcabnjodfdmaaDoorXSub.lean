/- Substitution and folding of expressions, in plain Lean: values and types stay. No program in sight, no condition. -/
import Derived.Test.YtojcabnjodfdmaaDoorXType
namespace Go.Proofs.YtojcabnjodfdmaaDoor

/-- Each column replaced by an item, in the list. -/
def subL (items : List (List T)) (e : List T) : List T := e.flatMap fun t => if t.op = 2 then items.getD t.c.toNat [] else [t]
mutual
def X.sub (its : List X) : X → X | .node t ks => if t.op = 2 then its.getD t.c.toNat (.node t []) else .node t (subs its ks)
def subs (its : List X) : List X → List X
  | [] => []
  | x :: xs => x.sub its :: subs its xs
end
theorem subs_len (its : List X) (xs : List X) : (subs its xs).length = xs.length := by
  induction xs with
  | nil => simp [subs]
  | cons x xs ih => simp [subs, ih]
/-- All columns are below n. -/
def colsIn (n : Nat) (e : List T) : Prop := ∀ t ∈ e, t.op = 2 → t.c < n
theorem ar_col : ar 2 = 0 := by decide
theorem ar_const : ar 1 = 0 := by decide
theorem col_leaf {t : T} {ks : List X} (hw : (X.node t ks).wf = true) (h : t.op = 2) : ks = [] := by
  simp only [X.wf, Bool.and_eq_true, decide_eq_true_eq] at hw
  rw [h, ar_col] at hw
  exact List.eq_nil_of_length_eq_zero hw.2.1
theorem const_leaf {t : T} {ks : List X} (hw : (X.node t ks).wf = true) (h : t.op = 1) : ks = [] := by
  simp only [X.wf, Bool.and_eq_true, decide_eq_true_eq] at hw
  rw [h, ar_const] at hw
  exact List.eq_nil_of_length_eq_zero hw.2.1
mutual
theorem X.sub_flat (its : List X) (x : X) (hw : x.wf = true) (hc : colsIn its.length x.flat) : (x.sub its).flat = subL (its.map X.flat) x.flat := by
  match x with
  | .node t ks =>
    rw [X.sub]
    by_cases h : t.op = 2
    · have hk := col_leaf hw h
      subst hk
      have h1 := hc t (by rw [X.flat_node]; simp) h
      simp only [X.wf, Bool.and_eq_true] at hw
      have h0 := (term_col hw.1 h).1
      have hl : t.c.toNat < its.length := by omega
      rw [if_pos h, X.flat_node, flats]
      unfold subL
      rw [List.flatMap_cons, List.flatMap_nil, if_pos h, List.append_nil, List.getD_eq_getElem?_getD, List.getD_eq_getElem?_getD, List.getElem?_map, List.getElem?_eq_getElem hl]
      rfl
    · simp only [X.wf, Bool.and_eq_true] at hw
      have hs := subs_flat its ks hw.2.2 (fun u hu => hc u (by rw [X.flat_node]; exact List.mem_cons_of_mem _ hu))
      rw [if_neg h, X.flat_node, X.flat_node, hs]
      unfold subL
      rw [List.flatMap_cons, if_neg h]
      rfl
theorem subs_flat (its : List X) (xs : List X) (hw : wfs xs = true) (hc : colsIn its.length (flats xs)) : flats (subs its xs) = subL (its.map X.flat) (flats xs) := by
  match xs with
  | [] => simp [subs, flats, subL]
  | x :: xs =>
    simp only [wfs, Bool.and_eq_true] at hw
    have h1 := X.sub_flat its x hw.1 (fun u hu => hc u (by rw [flats_cons]; exact List.mem_append_left _ hu))
    have h2 := subs_flat its xs hw.2 (fun u hu => hc u (by rw [flats_cons]; exact List.mem_append_right _ hu))
    rw [subs, flats_cons, flats_cons, h1, h2]
    unfold subL
    rw [List.flatMap_append]
end
mutual
theorem X.sub_wf (its : List X) (hi : ∀ y ∈ its, y.wf = true) (x : X) (hw : x.wf = true) : (x.sub its).wf = true := by
  match x with
  | .node t ks =>
    rw [X.sub]
    split
    · rename_i h
      rw [List.getD_eq_getElem?_getD]
      cases h1 : its[t.c.toNat]? with
      | none =>
        have hk := col_leaf hw h
        subst hk
        exact hw
      | some y => exact hi y (List.mem_of_getElem? h1)
    · simp only [X.wf, Bool.and_eq_true, decide_eq_true_eq] at hw ⊢
      exact ⟨hw.1, by rw [subs_len]; exact hw.2.1, subs_wf its hi ks hw.2.2⟩
theorem subs_wf (its : List X) (hi : ∀ y ∈ its, y.wf = true) (xs : List X) (hw : wfs xs = true) : wfs (subs its xs) = true := by
  match xs with
  | [] => simp [subs, wfs]
  | x :: xs =>
    simp only [wfs, Bool.and_eq_true] at hw
    simp only [subs, wfs, Bool.and_eq_true]
    exact ⟨X.sub_wf its hi x hw.1, subs_wf its hi xs hw.2⟩
end
mutual
theorem X.sub_ev (its : List X) (hi : ∀ y ∈ its, y.wf = true) (row : List V) (x : X) (hw : x.wf = true) (hc : colsIn its.length x.flat) : (x.sub its).ev row = x.ev (its.map (X.ev row)) := by
  match x with
  | .node t ks =>
    rw [X.sub]
    by_cases h : t.op = 2
    · have hk := col_leaf hw h
      subst hk
      have h1 := hc t (by rw [X.flat_node]; simp) h
      simp only [X.wf, Bool.and_eq_true] at hw
      have h0 := (term_col hw.1 h).1
      have hl : t.c.toNat < its.length := by omega
      rw [if_pos h]
      conv => rhs; rw [X.ev]
      unfold termV cellV
      rw [if_neg (by omega), if_pos h, if_neg (by simp; omega), List.getD_eq_getElem?_getD, List.getElem?_map, List.getElem?_eq_getElem hl]
      simp only [Option.map_some, Option.getD_some]
      exact (V.cl_of (X.ev_ok row _ (hi _ (List.getElem_mem hl)))).symm
    · simp only [X.wf, Bool.and_eq_true] at hw
      have hs := subs_ev its hi row ks hw.2.2 (fun u hu => hc u (by rw [X.flat_node]; exact List.mem_cons_of_mem _ hu))
      rw [if_neg h, X.ev, X.ev, hs]
      unfold termV
      rw [if_neg h, if_neg h]
theorem subs_ev (its : List X) (hi : ∀ y ∈ its, y.wf = true) (row : List V) (xs : List X) (hw : wfs xs = true) (hc : colsIn its.length (flats xs)) : evs row (subs its xs) = evs (its.map (X.ev row)) xs := by
  match xs with
  | [] => simp [subs, evs]
  | x :: xs =>
    simp only [wfs, Bool.and_eq_true] at hw
    have h1 := X.sub_ev its hi row x hw.1 (fun u hu => hc u (by rw [flats_cons]; exact List.mem_append_left _ hu))
    have h2 := subs_ev its hi row xs hw.2 (fun u hu => hc u (by rw [flats_cons]; exact List.mem_append_right _ hu))
    rw [subs, evs, evs, h1, h2]
end
mutual
/-- The value depends on the columns that occur only. -/
theorem X.ev_cols (a b : List V) (x : X) (hc : ∀ t ∈ x.flat, t.op = 2 → cellV a t.c = cellV b t.c) : x.ev a = x.ev b := by
  match x with
  | .node t ks =>
    have hs := evs_cols a b ks (fun u hu => hc u (by rw [X.flat_node]; exact List.mem_cons_of_mem _ hu))
    rw [X.ev, X.ev, hs]
    unfold termV
    by_cases h : t.op = 2
    · have h1 : ¬ t.op = 1 := by omega
      rw [if_neg h1, if_neg h1, if_pos h, if_pos h]
      exact hc t (by rw [X.flat_node]; simp) h
    · rw [if_neg h, if_neg h]
theorem evs_cols (a b : List V) (xs : List X) (hc : ∀ t ∈ flats xs, t.op = 2 → cellV a t.c = cellV b t.c) : evs a xs = evs b xs := by
  match xs with
  | [] => simp [evs]
  | x :: xs =>
    have h1 := X.ev_cols a b x (fun u hu => hc u (by rw [flats_cons]; exact List.mem_append_left _ hu))
    have h2 := evs_cols a b xs (fun u hu => hc u (by rw [flats_cons]; exact List.mem_append_right _ hu))
    rw [evs, evs, h1, h2]
end

def constX (v : V) : X := .node ⟨1, v, 0⟩ []
def isC (x : X) : Bool := x.t.op == 1
def foldN (t : T) (ks : List X) : X := if t.op ≠ 2 ∧ ks.all isC = true ∧ ((X.node t ks).ev []).k ≠ 0 then constX ((X.node t ks).ev []) else .node t ks
mutual
def X.fold : X → X | .node t ks => foldN t (folds ks)
def folds : List X → List X
  | [] => []
  | x :: xs => x.fold :: folds xs
end
theorem folds_snoc (xs : List X) (x : X) : folds (xs ++ [x]) = folds xs ++ [x.fold] := by
  induction xs with
  | nil => simp [folds]
  | cons y ys ih => simp [folds, ih]
theorem folds_len (xs : List X) : (folds xs).length = xs.length := by
  induction xs with
  | nil => simp [folds]
  | cons y ys ih => simp [folds, ih]
theorem constX_wf {v : V} (h : v.ok = true) (hk : v.k ≠ 0) : (constX v).wf = true := by
  unfold constX
  simp only [X.wf, wfs, Bool.and_eq_true, decide_eq_true_eq, List.length_nil]
  refine ⟨?_, by decide, trivial⟩
  unfold T.ok
  simp only [Bool.and_eq_true, decide_eq_true_eq]
  refine ⟨by decide, ?_⟩
  rw [if_pos trivial]
  simp [h, hk]
theorem foldN_wf {t : T} {ks : List X} (h : (X.node t ks).wf = true) : (foldN t ks).wf = true := by
  unfold foldN
  split
  · rename_i hh; exact constX_wf (X.ev_ok [] _ h) hh.2.2
  · exact h
mutual
theorem X.fold_wf (x : X) (hw : x.wf = true) : x.fold.wf = true := by
  match x with
  | .node t ks =>
    rw [X.fold]
    apply foldN_wf
    simp only [X.wf, Bool.and_eq_true, decide_eq_true_eq] at hw ⊢
    exact ⟨hw.1, by rw [folds_len]; exact hw.2.1, folds_wf ks hw.2.2⟩
theorem folds_wf (xs : List X) (hw : wfs xs = true) : wfs (folds xs) = true := by
  match xs with
  | [] => simp [folds, wfs]
  | x :: xs =>
    simp only [wfs, Bool.and_eq_true] at hw
    simp only [folds, wfs, Bool.and_eq_true]
    exact ⟨X.fold_wf x hw.1, folds_wf xs hw.2⟩
end
theorem node_folds {t : T} {ks : List X} (hw : (X.node t ks).wf = true) : (X.node t (folds ks)).wf = true := by
  simp only [X.wf, Bool.and_eq_true, decide_eq_true_eq] at hw ⊢
  exact ⟨hw.1, by rw [folds_len]; exact hw.2.1, folds_wf ks hw.2.2⟩
theorem isC_ev {x : X} (hw : x.wf = true) (h : isC x = true) (row : List V) : x.ev row = x.t.v := by
  cases x with
  | node t ks =>
    have h1 : t.op = 1 := by simpa [isC, X.t] using h
    rw [X.ev]
    unfold termV
    rw [if_pos h1]
    rfl
theorem evs_const : ∀ (ks : List X), wfs ks = true → ks.all isC = true → ∀ (a b : List V), evs a ks = evs b ks := by
  intro ks
  induction ks with
  | nil => intro _ _ a b; simp [evs]
  | cons x xs ih =>
    intro hw hc a b
    simp only [wfs, Bool.and_eq_true] at hw
    simp only [List.all_cons, Bool.and_eq_true] at hc
    simp only [evs]
    rw [isC_ev hw.1 hc.1 a, isC_ev hw.1 hc.1 b, ih hw.2 hc.2 a b]
theorem foldN_ev {t : T} {ks : List X} (hw : (X.node t ks).wf = true) (row : List V) : (foldN t ks).ev row = (X.node t ks).ev row := by
  unfold foldN
  split
  · rename_i h
    have hk : wfs ks = true := by simp only [X.wf, Bool.and_eq_true] at hw; exact hw.2.2
    have e : (X.node t ks).ev row = (X.node t ks).ev [] := by
      rw [X.ev, X.ev, evs_const ks hk h.2.1 row []]
      unfold termV
      rw [if_neg h.1, if_neg h.1]
    rw [e]
    unfold constX
    rw [X.ev]
    unfold termV
    rw [if_pos rfl]
  · rfl
mutual
theorem X.fold_ev (x : X) (hw : x.wf = true) (row : List V) : x.fold.ev row = x.ev row := by
  match x with
  | .node t ks =>
    have hn := node_folds hw
    simp only [X.wf, Bool.and_eq_true] at hw
    rw [X.fold, foldN_ev hn, X.ev, X.ev, folds_ev ks hw.2.2 row]
theorem folds_ev (xs : List X) (hw : wfs xs = true) (row : List V) : evs row (folds xs) = evs row xs := by
  match xs with
  | [] => simp [folds]
  | x :: xs =>
    simp only [wfs, Bool.and_eq_true] at hw
    rw [folds, evs, evs, X.fold_ev x hw.1 row, folds_ev xs hw.2 row]
end
theorem const_fold {v : V} (h : v.k ≠ 0) : (constX v).fold = constX v := by
  unfold constX
  rw [X.fold, folds]
  unfold foldN
  have e : (X.node ⟨1, v, 0⟩ []).ev [] = v := by rw [X.ev]; unfold termV; rw [if_pos rfl]
  rw [if_pos ⟨by simp, rfl, by rw [e]; exact h⟩, e]
  rfl
mutual
theorem X.fold_fold (x : X) : x.fold.fold = x.fold := by
  match x with
  | .node t ks =>
    rw [X.fold]
    by_cases h : t.op ≠ 2 ∧ (folds ks).all isC = true ∧ ((X.node t (folds ks)).ev []).k ≠ 0
    · have e : foldN t (folds ks) = constX ((X.node t (folds ks)).ev []) := by unfold foldN; rw [if_pos h]
      rw [e, const_fold h.2.2]
    · have e : foldN t (folds ks) = .node t (folds ks) := by unfold foldN; rw [if_neg h]
      rw [e, X.fold, folds_folds ks, e]
theorem folds_folds (xs : List X) : folds (folds xs) = folds xs := by
  match xs with
  | [] => simp [folds]
  | x :: xs => rw [folds, folds, X.fold_fold x, folds_folds xs]
end
theorem foldN_size (t : T) (ks : List X) : (foldN t ks).flat.length ≤ (X.node t ks).flat.length ∧ (foldN t ks).depth ≤ (X.node t ks).depth := by
  unfold foldN
  split
  · unfold constX
    simp only [X.flat_node, X.depth, flats, deepest, List.length_cons, List.length_nil]
    omega
  · exact ⟨Nat.le_refl _, Nat.le_refl _⟩
mutual
theorem X.fold_size (x : X) : x.fold.flat.length ≤ x.flat.length ∧ x.fold.depth ≤ x.depth := by
  match x with
  | .node t ks =>
    have h1 := foldN_size t (folds ks)
    have h2 := folds_size ks
    rw [X.fold]
    simp only [X.flat_node, X.depth, List.length_cons] at h1 ⊢
    omega
theorem folds_size (xs : List X) : (flats (folds xs)).length ≤ (flats xs).length ∧ deepest (folds xs) ≤ deepest xs := by
  match xs with
  | [] => simp [folds]
  | x :: xs =>
    have h1 := X.fold_size x
    have h2 := folds_size xs
    simp only [folds, flats_cons, deepest, List.length_append]
    omega
end
mutual
theorem X.fold_ty (types : List Int) (x : X) (hw : x.wf = true) (k : Int) (h : x.ty types = .ok k) : x.fold.ty types = .ok k := by
  match x with
  | .node t ks =>
    have hn := node_folds hw
    simp only [X.wf, Bool.and_eq_true] at hw
    have hty : (X.node t (folds ks)).ty types = .ok k := by
      rw [X.ty] at h ⊢
      cases hl : tys types ks with
      | error e => rw [hl] at h; cases h
      | ok l => rw [hl] at h; rw [folds_ty types ks hw.2.2 l hl]; exact h
    rw [X.fold]
    unfold foldN
    split
    · rename_i hc
      have hs := X.sound types [] (fun i v k h => by simp at h) _ hn k hty
      rcases hs with hs | hs
      · exact absurd hs hc.2.2
      · unfold constX
        rw [X.ty, tys]
        simp only
        unfold termT
        rw [if_neg (by simp), if_pos rfl]
        rw [hs]
    · exact hty
theorem folds_ty (types : List Int) (xs : List X) (hw : wfs xs = true) (l : List Int) (h : tys types xs = .ok l) : tys types (folds xs) = .ok l := by
  match xs with
  | [] => simpa [folds] using h
  | x :: xs =>
    simp only [wfs, Bool.and_eq_true] at hw
    simp only [tys] at h
    cases hx : x.ty types with
    | error e => rw [hx] at h; cases h
    | ok a =>
      rw [hx] at h
      simp only at h
      cases hl : tys types xs with
      | error e => rw [hl] at h; cases h
      | ok l' =>
        rw [hl] at h
        simp only [folds, tys]
        rw [X.fold_ty types x hw.1 a hx]
        simp only
        rw [folds_ty types xs hw.2 l' hl]
        exact h
end
end Go.Proofs.YtojcabnjodfdmaaDoor
