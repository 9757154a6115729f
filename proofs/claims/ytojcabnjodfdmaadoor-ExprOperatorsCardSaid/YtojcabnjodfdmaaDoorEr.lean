/- Contracts of the reference's Operands, eval, Eval and Holds: expressions of at most a thousand terms. -/
import Derived.Test.YtojcabnjodfdmaaDoorEs
import Derived.Test.YtojcabnjodfdmaaDoorEj
import Derived.Test.YtojcabnjodfdmaaDoorXTree
namespace Go.Proofs.YtojcabnjodfdmaaDoor
open Go.RowKit

theorem stTT : SliceTy Tryd.prog 49 23 1 24 := SliceTy.mk' Tryd.underlying49 (z := .slice none 0 0) (by kernel_rfl) rfl (by decide) (by decide)
/-- The slices of an expression's operands. -/
def opCells (b off c : Nat) : Nat → List X → List Value
  | _, [] => []
  | p, k :: ks => .slice (some ⟨b, off + p * 5, none⟩) k.flat.length (c - p) :: opCells b off c (p + k.flat.length) ks
theorem opCells_snoc (b off c : Nat) : ∀ (ks : List X) (p : Nat) (k : X), opCells b off c p (ks ++ [k]) = opCells b off c p ks ++ [.slice (some ⟨b, off + (p + (flats ks).length) * 5, none⟩) k.flat.length (c - (p + (flats ks).length))] := by
  intro ks
  induction ks with
  | nil => intro p k; simp [opCells, flats]
  | cons y ys ih =>
    intro p k
    simp only [List.cons_append, opCells, ih, flats_cons, List.length_append, Nat.add_assoc]
theorem opCells_len (b off c : Nat) : ∀ (ks : List X) (p : Nat), (opCells b off c p ks).length = ks.length := by
  intro ks
  induction ks with
  | nil => intro p; rfl
  | cons y ys ih => intro p; simp [opCells, ih]
theorem opCells_at (b off c : Nat) : ∀ (ks : List X) (p i : Nat) (k : X), ks[i]? = some k → (opCells b off c p ks)[i]? = some (.slice (some ⟨b, off + (p + (flats (ks.take i)).length) * 5, none⟩) k.flat.length (c - (p + (flats (ks.take i)).length))) := by
  intro ks
  induction ks with
  | nil => intro p i k h; simp at h
  | cons y ys ih =>
    intro p i k h
    cases i with
    | zero => simp at h; subst h; simp [opCells, flats]
    | succ i =>
      simp at h
      rw [opCells, List.getElem?_cons_succ, ih _ _ _ h, List.take_succ_cons, flats_cons, List.length_append, Nat.add_assoc]
theorem endO_flat {es : List T} {at_ dp : Nat} {k : X} {r : List T} (h : es.drop at_ = k.flat ++ r) (hw : k.wf = true) (hd : k.depth ≤ dp) : endO es at_ dp = ((at_ + k.flat.length : Nat) : Int) := by
  unfold endO
  rw [h, readX_flat k r dp hw hd]
/-- A part of a row of terms. -/
theorem RowT.part {w : World} {B b off n : Nat} {es y r : List T} {p : Nat} (h : RowT w B (some ⟨b, off, none⟩) n es) (hp : es.drop p = y ++ r) : RowT w B (some ⟨b, off + p * 5, none⟩) y.length y := by
  refine ⟨rfl, fun hne => ?_⟩
  have hes : es = es.take p ++ (y ++ r) := by rw [← hp, List.take_append_drop]
  have hpl : (es.take p).length = p := by
    have h1 : y ≠ [] := by rintro rfl; exact hne rfl
    have h2 := congrArg List.length hp
    rw [List.length_drop, List.length_append] at h2
    have h3 : 0 < y.length := List.length_pos_iff.2 h1
    rw [List.length_take]; omega
  have hcells : es.flatMap T.cells = (es.take p).flatMap T.cells ++ (y.flatMap T.cells ++ r.flatMap T.cells) := by
    conv => lhs; rw [hes]
    simp
  have hl : ((es.take p).flatMap T.cells).length = p * 5 := by rw [flatMap_len 5 (fun _ => rfl), hpl]
  obtain ⟨b', off', e, hb, hc⟩ := h.rd (by
    rw [hcells]
    intro h0
    have := List.append_eq_nil_iff.1 h0
    exact hne (List.append_eq_nil_iff.1 this.2).1)
  injection e with e
  injection e with e1 e2
  subst e1 e2
  refine ⟨b, off + p * 5, rfl, hb, fun j u hu => ?_⟩
  have hj : j < (y.flatMap T.cells).length := (List.getElem?_eq_some_iff.1 hu).1
  have := hc (p * 5 + j) u (by
    rw [hcells, List.getElem?_append_right (by omega), hl, Nat.add_sub_cancel_left, List.getElem?_append_left hj]
    exact hu)
  rw [← Nat.add_assoc] at this
  exact this
def OpsPost (w : World) (b off c : Nat) (ks : List X) (e : Ending) (w' : World) : Prop := ∃ v, e = .returned v ∧ w'.ownsRow w.heap.size 23 1 v ks.length (opCells b off c 1 ks) ∧ Below w.heap.size w w'
set_option maxRecDepth 100000 in
set_option maxHeartbeats 1000000 in
theorem operands_c (b off n c : Nat) (t : T) (ks : List X) (w : World) (hn : n ≤ 1000) (hnc : n ≤ c) (hcm : c ≤ maxLen) (hw : (X.node t ks).wf = true) (hd : (X.node t ks).depth ≤ 17) (hr : RowT w w.heap.size (some ⟨b, off, none⟩) n (X.node t ks).flat) : Calls Tryd.prog 69 #[.slice (some ⟨b, off, none⟩) n c] w (OpsPost w b off c ks) := by
  have hlen := hr.len
  rw [X.flat_node, List.length_cons] at hlen
  have HLN := Lib.hid hlen
  have hk3 : ks.length ≤ 3 := by
    simp only [X.wf, Bool.and_eq_true, decide_eq_true_eq] at hw
    have := ar_le t.op
    omega
  have hdk : deepest ks ≤ 16 := by simp only [X.depth] at hd; omega
  have hwk : wfs ks = true := by simp only [X.wf, Bool.and_eq_true] at hw; exact hw.2.2
  have HW := Lib.hid hwk
  clear hlen hwk hw hd
  unfold maxLen at hcm
  go_enter Tryd.func69, Tryd.ntmps69
  go_wp2_with fail
  go_loopw [3, 4] (fun v3 v4 wr => ∃ i p : Nat, i ≤ ks.length ∧ v4 = .int .i64 (p : Int) ∧ Hid (p = 1 + (flats (ks.take i)).length) ∧ wr.ownsRow w.heap.size 23 1 v3 i (opCells b off c 1 (ks.take i)) ∧ Below w.heap.size w wr) (fun _ v4 _ => n - (intOf v4).toNat)
  case atStart => exact ⟨0, 1, Nat.zero_le _, rfl, by show _ = _; simp [flats], World.ownsRow_nil _ _ _ _, by (repeat (first | (with_reducible exact Below.refl _ _) | (with_reducible assumption) | (with_reducible refine Below.drew ?_) | (with_reducible refine below_drewN ?_ _) | ((with_reducible refine Below.setCell ?_ ?_ _); rotate_left; (focus (first | (simp; done) | (simp; omega) | omega))) | ((with_reducible refine Below.alloc ?_ ?_ _); rotate_left; (focus (first | (simp; done) | (simp; omega) | omega))) | ((with_reducible apply below_step1); (focus (with_reducible assumption)))))⟩
  case round =>
    obtain ⟨i, p, hi, rfl, HP, hown, hbel⟩ := hrel
    have hzz := hbel.size
    by_cases hlt : i < ks.length
    · have hki : ks[i]? = some ks[i] := List.getElem?_eq_getElem hlt
      generalize ks[i] = k at hki
      obtain ⟨k1, k2, k3⟩ := kid_in hki
      have hka := kid_at (t := t) (es := (X.node t ks).flat) (pos := 0) (r := []) (by simp) hki
      rw [Nat.zero_add, ← HP.out] at hka
      have hend := rend (some ⟨b, off, none⟩) n c _ hn 16 p wr (by omega) (by
        have h2 := congrArg List.length hka
        rw [List.length_drop, List.length_append, hr.len] at h2
        have h4 := k.flat_pos
        omega) ((hr.below hbel).more hzz)
      rw [endO_flat hka (k2 HW.out) (by omega)] at hend
      have hkp := k.flat_pos
      have hbnd : p + k.flat.length ≤ n := by
        have h2 := congrArg List.length hka
        rw [List.length_drop, List.length_append, hr.len] at h2
        omega
      have HQ := Lib.hid (show p + k.flat.length = 1 + (flats (ks.take (i + 1))).length by rw [k3, HP.out]; omega)
      have HC := Lib.hid (show opCells b off c 1 (ks.take (i + 1)) = opCells b off c 1 (ks.take i) ++ [.slice (some ⟨b, off + p * 5, none⟩) k.flat.length (c - p)] by
        rw [List.take_add_one, hki, Option.toList_some, opCells_snoc, ← HP.out])
      obtain ⟨q, hq⟩ : ∃ q, p + k.flat.length = q := ⟨_, rfl⟩
      rw [hq] at hend hbnd HQ
      have hpq : p < q := by omega
      have HLQ := Lib.hid (show k.flat.length = q - p by omega)
      rw [HLQ.out] at HC
      clear hka hki k1 k2 k3 hq hkp
      have hpn : (p : Int) < (n : Int) := by omega
      have hpc : p ≠ c := by omega
      have h1 : (p : Int) ≤ (q : Int) := by omega
      have h2 : (q : Int) ≤ (c : Int) := by omega
      have h3 : (0 : Int) ≤ (p : Int) := by omega
      go_wp2_with (first
        | (go_at_call 43; refine hend.mono ?_; rintro e w1 ⟨rfl, hb1⟩; have hz1 := hb1.size; have own1 := own_below hown hb1)
        | (at_builtin; refine wpList_app (v := u3) rfl _ _ stTT rfl rfl (own1) rfl (by simp) rfl (by simp [Value.oneCell']) (by omega) (by omega) ?_; intro v' w2 own2 hg2 hat2))
      have hb2 := below_app (below_step hb1 hbel (Nat.le_refl _)) own1 hg2 (Nat.le_refl _) (by omega)
      refine ⟨⟨i + 1, q, by omega, rfl, HQ, ?_, hb2⟩, by simp [intOf]; omega⟩
      rw [HC.out]
      exact own2
    · obtain rfl : i = ks.length := by omega
      have hpn : p = n := by
        have h1 := HP.out
        rw [List.take_length] at h1
        have := HLN.out
        omega
      subst hpn
      go_wp2_with fail
      go_ret
      rw [List.take_length] at hown
      exact ⟨_, rfl, hown, hbel⟩
/-- What an operand is, read out of the slices. -/
theorem ops_at {w w1 : World} {base b off n c : Nat} {t : T} {ks : List X} {A : Option Addr} {m d : Nat} {i : Nat} {k : X} (ho : w1.ownsRow base 23 1 (.slice A m d) ks.length (opCells b off c 1 ks)) (hr : RowT w w.heap.size (some ⟨b, off, none⟩) n (X.node t ks).flat) (hki : ks[i]? = some k) (hb : Below w.heap.size w w1) :
    ∃ g q, A = some ⟨g, 0, none⟩ ∧ g < w1.heap.size ∧ base ≤ g ∧ m = ks.length ∧ k.flat.length ≤ n ∧ w1.cell? ⟨g, i, none⟩ = some (.slice (some ⟨b, off + q * 5, none⟩) k.flat.length (c - q)) ∧ q + k.flat.length ≤ n ∧ RowT w w.heap.size (some ⟨b, off + q * 5, none⟩) k.flat.length k.flat := by
  have hil : i < ks.length := (List.getElem?_eq_some_iff.1 hki).1
  have hka := kid_at (t := t) (es := (X.node t ks).flat) (pos := 0) (r := []) (by simp) hki
  rw [Nat.zero_add] at hka
  have hpart := RowT.part hr hka
  have hqn : 1 + (flats (ks.take i)).length + k.flat.length ≤ n := by
    have h2 := congrArg List.length hka
    rw [List.length_drop, List.length_append, hr.len] at h2
    have := k.flat_pos
    omega
  rcases ho.2 with ⟨e1, e2⟩ | ⟨g, cap, cur, e1, e2, e3, _⟩
  · omega
  · injection e1 with e1 e4 e5
    subst e1
    have hc := ho.cells (g := g) (by simp [Value.ownBlock]) i _ (opCells_at b off c ks 1 i k hki)
    have hgl : g < w1.heap.size := by
      rcases Nat.lt_or_ge g w1.heap.size with hl | hl
      · exact hl
      · rw [Array.getElem?_eq_none hl] at e3; cases e3
    have h8 : (⟨g, 0, none⟩ : Addr).add i = ⟨g, i, none⟩ := by
      unfold Addr.add
      split
      · subst_vars; rfl
      · simp
    rw [h8] at hc
    exact ⟨g, _, rfl, hgl, e2, e4, by omega, hc, hqn, hpart⟩
end Go.Proofs.YtojcabnjodfdmaaDoor
