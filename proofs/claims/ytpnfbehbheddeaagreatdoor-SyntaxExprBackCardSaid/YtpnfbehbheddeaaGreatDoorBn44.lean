/- What the writer of expressions has written, the parser reads again: all trees; the columns are found again. Plain Lean, no program in sight. What FormatExpr has written, ParseExpr reads again, from bytes to bytes: plain Lean, no program in sight. The tree is well-formed and small, its columns have names, and each name is found where it stands. -/
import Derived.Test.YtpnfbehbheddeaaGreatDoorBn43
import Derived.Test.YtpnfbehbheddeaaGreatDoorBn17
import Derived.Test.YtpnfbehbheddeaaGreatDoorBn13
namespace Go.Proofs.YtpnfbehbheddeaaGreatDoor
set_option maxRecDepth 100000
set_option maxHeartbeats 8000000
set_option linter.unusedVariables false
set_option linter.unusedSimpArgs false
theorem wfs_mem {k : X} : ∀ {ks : List X}, wfs ks = true → k ∈ ks → k.wf = true
  | [], _, h => by cases h
  | x :: l, hw, h => by
    rw [wfs, Bool.and_eq_true] at hw
    rcases List.mem_cons.1 h with rfl | h
    · exact hw.1
    · exact wfs_mem hw.2 h
theorem colss_mem {k : X} {c : Nat} (hc : c ∈ k.cols) : ∀ {ks : List X}, k ∈ ks → c ∈ colss ks
  | [], h => by cases h
  | x :: l, h => by
    rw [colss]
    rcases List.mem_cons.1 h with rfl | h
    · exact List.mem_append_left _ hc
    · exact List.mem_append_right _ (colss_mem hc h)
theorem X.ind {P : Nat → Prop} {M : X → Prop} (h : ∀ t ks, t.ok = true → ks.length = ar t.op → (t.op = 2 → P t.c.toNat) → (∀ k ∈ ks, k.wf = true ∧ (∀ c ∈ k.cols, P c) ∧ M k) → M (.node t ks)) : ∀ (n : Nat) (x : X), x.flat.length ≤ n → x.wf = true → (∀ c ∈ x.cols, P c) → M x
  | 0, x, hn, _, _ => by have := flat_pos x; omega
  | n + 1, .node t ks, hn, hw, hc => by
    rw [X.wf, Bool.and_eq_true, Bool.and_eq_true, decide_eq_true_eq] at hw
    obtain ⟨h1, h2, h3⟩ := hw
    rw [X.cols] at hc
    refine h t ks h1 h2 (fun ho => hc _ (List.mem_append_left _ (by rw [if_pos ho]; exact List.mem_singleton.2 rfl))) fun k hk => ?_
    have hkc : ∀ c ∈ k.cols, P c := fun c hcc => hc c (List.mem_append_right _ (colss_mem hcc hk))
    refine ⟨wfs_mem h3 hk, hkc, X.ind h n k ?_ (wfs_mem h3 hk) hkc⟩
    rw [X.flat_node, List.length_cons] at hn
    have := flats_mem hk
    have : 1 ≤ ks.length := by cases ks with
      | nil => cases hk
      | cons _ _ => simp
    omega
theorem one_of {ks : List X} (h : ks.length = 1) : ∃ a, ks = [a] := by
  match ks, h with
  | [a], _ => exact ⟨a, rfl⟩
theorem two_of {ks : List X} (h : ks.length = 2) : ∃ a b, ks = [a, b] := by
  match ks, h with
  | [a, b], _ => exact ⟨a, b, rfl⟩
theorem node_kinds {t : T} {ks : List X} (ht : t.ok = true) (hk : ks.length = ar t.op) : (t.op = 1 ∧ ks = []) ∨ (t.op = 2 ∧ ks = []) ∨ (t.op ≠ 1 ∧ t.op ≠ 2 ∧ isFun t.op = true ∧ (ks.length : Int) = arity t.op) ∨ (t.op ≠ 1 ∧ t.op ≠ 2 ∧ (t.op = 3 ∨ t.op = 13) ∧ ∃ a, ks = [a]) ∨ (t.op ≠ 1 ∧ t.op ≠ 2 ∧ isBin t.op ∧ ∃ a b, ks = [a, b]) := by
  by_cases h1 : t.op = 1
  · rw [h1] at hk
    exact .inl ⟨h1, List.eq_nil_of_length_eq_zero hk⟩
  by_cases h2 : t.op = 2
  · rw [h2] at hk
    exact .inr (.inl ⟨h2, List.eq_nil_of_length_eq_zero hk⟩)
  obtain ⟨-, h3, h4⟩ := node_op ht h1 h2
  rcases op_kinds h1 h2 h3 h4 with h | h | h | h
  · refine .inr (.inr (.inl ⟨h1, h2, h, ?_⟩))
    have h5 : t.op = 9 ∨ t.op = 10 ∨ t.op = 16 ∨ t.op = 17 ∨ t.op = 18 := by simpa [isFun] using h
    rw [hk]
    rcases h5 with h | h | h | h | h <;> rw [h] <;> rfl
  · rw [h] at hk
    exact .inr (.inr (.inr (.inl ⟨h1, h2, .inl h, one_of hk⟩)))
  · rw [h] at hk
    exact .inr (.inr (.inr (.inl ⟨h1, h2, .inr h, one_of hk⟩)))
  · refine .inr (.inr (.inr (.inr ⟨h1, h2, h, two_of ?_⟩)))
    have := (bin_facts h).2.1
    unfold ar at hk
    rw [this] at hk
    exact hk
section
variable {e : Src} {left right : List Bs}
theorem back_all : ∀ (n : Nat) (x : X), x.flat.length ≤ n → x.wf = true → (∀ c ∈ x.cols, okCol left right c) → (bareW x.t false = true → At0 e left right x) ∧ At6 e left right x :=
  X.ind (M := fun x => (bareW x.t false = true → At0 e left right x) ∧ At6 e left right x) fun t ks ht hk hc h => by
    have hwf : ∀ t ks, t.ok = true → ks.length = ar t.op → (∀ k ∈ ks, k.wf = true) → (X.node t ks).wf = true := fun t ks h1 h2 h3 => by
      rw [X.wf, h1, Bool.true_and, decide_eq_true h2, Bool.true_and]
      clear h2
      induction ks with
      | nil => rfl
      | cons a l ih => rw [wfs, h3 a (by simp), Bool.true_and]; exact ih (fun k hk => h3 k (by simp [hk]))
    have hx := hwf t ks ht hk (fun k hk => (h k hk).1)
    have hall : ∀ (l : List X), (∀ k ∈ l, ∀ c ∈ k.cols, okCol left right c) → ∀ c ∈ colss l, okCol left right c := fun l => by
      induction l with
      | nil => intro _ c hc; cases hc
      | cons a l ih =>
        intro h c hc
        rw [colss] at hc
        rcases List.mem_append.1 hc with hc | hc
        · exact h a (by simp) c hc
        · exact ih (fun k hk => h k (by simp [hk])) c hc
    have hxc : ∀ c ∈ (X.node t ks).cols, okCol left right c := fun c hcc => by
      rw [X.cols] at hcc
      rcases List.mem_append.1 hcc with hcc | hcc
      · split at hcc
        · rename_i h2
          rw [List.mem_singleton.1 hcc]
          exact hc h2
        · cases hcc
      · exact hall ks (fun k hk => (h k hk).2.1) c hcc
    rcases node_kinds ht hk with ⟨h1, rfl⟩ | ⟨h2, rfl⟩ | ⟨h1, h2, h3, ha⟩ | ⟨h1, h2, h3, a, rfl⟩ | ⟨h1, h2, h3, a, b, rfl⟩
    · cases hb : bareW t false with
      | true => exact ⟨fun _ => const_at0 ht h1 hb, at6_of_0 hx hxc hb (const_at0 ht h1 hb)⟩
      | false => exact ⟨fun h' => (by have h' : bareW t false = true := h'; rw [hb] at h'; cases h'), neg_at6 ht h1 hb⟩
    · have h0 := col_at0 (e := e) (left := left) (right := right) ht h2 (hc h2)
      exact ⟨fun _ => h0, at6_of_0 hx hxc (by show bareW t false = true; unfold bareW; rw [h2]; rfl) h0⟩
    · have h0 := fun_at0 (e := e) (left := left) (right := right) ht h1 h2 h3 ha (fun k hk => (h k hk).2.2.2)
      exact ⟨fun _ => h0, at6_of_0 hx hxc (by show bareW t false = true; unfold bareW; rw [if_neg h1, h3, Bool.or_true]) h0⟩
    · obtain ⟨g1, g2, g3, g4⟩ := h a (by simp)
      refine ⟨fun h' => ?_, sign_at6 ht h3 g1 g2 g3 g4⟩
      have h' : bareW t false = true := h'
      unfold bareW at h'
      rw [if_neg h1] at h'
      simp only [Bool.or_eq_true, decide_eq_true_eq, h2, false_or] at h'
      unfold isFun at h'
      rw [decide_eq_true_eq] at h'
      omega
    · obtain ⟨g1, g2, g3, g4⟩ := h a (by simp)
      obtain ⟨k1, k2, k3, k4⟩ := h b (by simp)
      refine ⟨fun h' => ?_, bin_at6 ht h3 g1 k1 g2 k2 g3 g4 k3 k4⟩
      have h' : bareW t false = true := h'
      unfold bareW at h'
      rw [if_neg h1, (bin_facts h3).2.2] at h'
      simp [h2] at h'
end
def opWs : List Bs := [[40], [41], [44], [45], [43], [42], [47], [43, 43], [108, 101, 110, 103, 116, 104], [112, 114, 101, 102, 105, 120], [61], [60], wNot, wAnd, wOr, [105, 115, 110, 117, 108, 108], [99, 111, 97, 108, 101, 115, 99, 101], [105, 102]]
theorem ite_mem {p : Prop} [Decidable p] {a b : Bs} {l : List Bs} (h1 : a ∈ l) (h2 : b ∈ l) : (if p then a else b) ∈ l := by split <;> assumption
theorem opW_mem (op : Int) : opW op ∈ opWs := by
  unfold opW
  iterate 14 (refine ite_mem ?_ ?_; · decide)
  decide
def tw (f : Tk → Nat) (l : List Tk) : Nat := (l.map f).sum
section
variable {f : Tk → Nat} {left right : List Bs}
theorem tw_nil : tw f [] = 0 := rfl
theorem tw_cons (t : Tk) (l : List Tk) : tw f (t :: l) = f t + tw f l := by unfold tw; rw [List.map_cons, List.sum_cons]
theorem tw_app (l m : List Tk) : tw f (l ++ m) = tw f l + tw f m := by unfold tw; rw [List.map_append, List.sum_append]
theorem tw_oper {m : Nat} (hm : ∀ w ∈ opWs, f (wdK w) ≤ m) (x : X) (neg : Bool) (l : List Tk) : tw f l ≤ tw f (operW x neg l) ∧ tw f (operW x neg l) ≤ tw f l + 2 * m := by
  unfold operW
  split
  · omega
  · rw [tw_cons, tw_app, tw_cons, tw_nil]
    have := hm [40] (by decide)
    have := hm [41] (by decide)
    omega
theorem tw_more {K m : Nat} (hm : ∀ w ∈ opWs, f (wdK w) ≤ m) : ∀ l : List X, (∀ x ∈ l, tw f (x.wr left right) ≤ K * x.flat.length) → tw f (moreW left right l) ≤ K * (flats l).length + m * l.length
  | [], _ => by simp [moreW, tw_nil]
  | x :: l, h => by
    have h1 := tw_more hm l (fun y hy => h y (by simp [hy]))
    have h2 := h x (by simp)
    have := hm [44] (by decide)
    rw [moreW, tw_cons, tw_app, flats, List.length_append, List.length_cons, Nat.mul_add, Nat.mul_succ]
    omega
theorem wr_weight {K m : Nat} (hm : ∀ w ∈ opWs, f (wdK w) ≤ m) (hK : 5 * m ≤ K) (hc : ∀ v : V, v.ok = true → v.k ≠ 0 → tw f (constW v) ≤ K) (hr : ∀ c, okCol left right c → tw f (refW left right c) ≤ K) : ∀ (n : Nat) (x : X), x.flat.length ≤ n → x.wf = true → (∀ c ∈ x.cols, okCol left right c) → tw f (x.wr left right) ≤ K * x.flat.length :=
  X.ind (M := fun x => tw f (x.wr left right) ≤ K * x.flat.length) fun t ks ht hk hcc h => by
    have hop := hm (opW t.op) (opW_mem t.op)
    rw [X.wr, X.flat_node, List.length_cons, Nat.mul_succ]
    unfold nodeW
    rcases node_kinds ht hk with ⟨h1, rfl⟩ | ⟨h2, rfl⟩ | ⟨h1, h2, h3, ha⟩ | ⟨h1, h2, h3, a, rfl⟩ | ⟨h1, h2, h3, a, b, rfl⟩
    · rw [if_pos h1]
      obtain ⟨-, h3, h4⟩ := node_const ht h1
      have := hc t.v h3 h4
      omega
    · rw [if_neg (by omega), if_pos h2]
      have := hr _ (hcc h2)
      omega
    · rw [if_neg h1, if_neg h2, if_pos h3]
      have h4 : t.op = 9 ∨ t.op = 10 ∨ t.op = 16 ∨ t.op = 17 ∨ t.op = 18 := by simpa [isFun] using h3
      obtain ⟨k0, l, rfl⟩ : ∃ k0 l, ks = k0 :: l := by
        cases ks with
        | nil => exfalso; rcases h4 with h | h | h | h | h <;> (rw [h] at ha; revert ha; decide)
        | cons a l => exact ⟨a, l, rfl⟩
      have hl : l.length ≤ 2 := by
        have : arity t.op ≤ 3 := (arity_range t.op).2
        rw [List.length_cons] at ha
        omega
      rw [comma_more, List.append_assoc, tw_app, tw_app, tw_app, tw_cons, tw_cons, tw_cons, tw_nil, flats, List.length_append, Nat.mul_add]
      have h5 := (h k0 (by simp)).2.2
      have h6 := tw_more (K := K) hm l (fun y hy => (h y (by simp [hy])).2.2)
      have := hm [40] (by decide)
      have := hm [41] (by decide)
      have : m * l.length ≤ m * 2 := Nat.mul_le_mul_left _ hl
      omega
    · have h5 := (h a (by simp)).2.2
      have h6 := tw_oper hm a (t.op == 3) (a.wr left right)
      rw [if_neg h1, if_neg h2, if_neg (by unfold isFun; rw [decide_eq_true_eq]; omega), wrs, wrs]
      simp only
      rw [tw_cons, flats, flats, List.append_nil]
      omega
    · have h5 := (h a (by simp)).2.2
      have k5 := (h b (by simp)).2.2
      have h6 := tw_oper hm a false (a.wr left right)
      have k6 := tw_oper hm b false (b.wr left right)
      rw [if_neg h1, if_neg h2, if_neg (by rw [(bin_facts h3).2.2]; simp), wrs, wrs, wrs]
      simp only [List.getD_cons_succ, List.getD_cons_zero]
      rw [tw_app, tw_cons, flats, flats, flats, List.append_nil, List.length_append, Nat.mul_add]
      omega
theorem flat_wr : ∀ (n : Nat) (x : X), x.flat.length ≤ n → x.wf = true → (∀ c ∈ x.cols, okCol left right c) → x.flat.length ≤ (x.wr left right).length :=
  X.ind (M := fun x => x.flat.length ≤ (x.wr left right).length) fun t ks ht hk hcc h => by
    rw [X.wr, X.flat_node, List.length_cons]
    unfold nodeW
    have hop : ∀ (x : X) neg (l : List Tk), l.length ≤ (operW x neg l).length := fun x neg l => by
      unfold operW
      split
      · omega
      · rw [List.length_cons, List.length_append]; omega
    have hmore : ∀ l : List X, (∀ x ∈ l, x.flat.length ≤ (x.wr left right).length) → (flats l).length ≤ (moreW left right l).length := fun l => by
      induction l with
      | nil => intro _; simp [flats]
      | cons a l ih =>
        intro h
        have := ih (fun x hx => h x (by simp [hx]))
        have := h a (by simp)
        rw [flats, moreW, List.length_append, List.length_cons, List.length_append]
        omega
    rcases node_kinds ht hk with ⟨h1, rfl⟩ | ⟨h2, rfl⟩ | ⟨h1, h2, h3, ha⟩ | ⟨h1, h2, h3, a, rfl⟩ | ⟨h1, h2, h3, a, b, rfl⟩
    · rw [if_pos h1]
      unfold constW
      (repeat' split) <;> simp [flats]
    · rw [if_neg (by omega), if_pos h2]
      unfold refW
      (repeat' split) <;> simp [flats]
    · rw [if_neg h1, if_neg h2, if_pos h3]
      cases ks with
      | nil => simp [flats]
      | cons k0 l =>
        rw [comma_more]
        have h5 := (h k0 (by simp)).2.2
        have h6 := hmore l (fun y hy => (h y (by simp [hy])).2.2)
        simp only [flats, List.length_append, List.length_cons, List.length_nil]
        omega
    · have h5 := (h a (by simp)).2.2
      have h6 := hop a (t.op == 3) (a.wr left right)
      rw [if_neg h1, if_neg h2, if_neg (by unfold isFun; rw [decide_eq_true_eq]; omega), wrs, wrs]
      simp only
      rw [List.length_cons, flats, flats, List.append_nil]
      omega
    · have h5 := (h a (by simp)).2.2
      have k5 := (h b (by simp)).2.2
      have h6 := hop a false (a.wr left right)
      have k6 := hop b false (b.wr left right)
      rw [if_neg h1, if_neg h2, if_neg (by rw [(bin_facts h3).2.2]; simp), wrs, wrs, wrs]
      simp only [List.getD_cons_succ, List.getD_cons_zero]
      rw [List.length_append, List.length_cons, flats, flats, flats, List.append_nil, List.length_append]
      omega
end
theorem canon_name {w : Bs} (h : isNameB w = true) : Canon ⟨1, w, 0, 0⟩ := by
  have h' := h
  unfold isNameB at h
  simp only [Bool.and_eq_true, decide_eq_true_eq] at h
  obtain ⟨h1, h2, h3⟩ := h
  cases w with
  | nil => exact absurd rfl h1
  | cons c r =>
    have hc : isLet c = true := by
      have hr := isNameB_ref c r
      rw [h'] at hr
      cases hl : isLet c with
      | true => rfl
      | false => rw [hl] at hr; simp at hr
    have := (tok_name (r0 := r) hc (by omega)).canon 0
    rw [h3, List.take_length] at this
    exact this
theorem canon_num {n : Int} (h0 : 0 ≤ n) (h1 : n ≤ 4294967296) : Canon (numK n) := by
  obtain ⟨u, rfl⟩ := Int.eq_ofNat_of_zero_le h0
  obtain ⟨-, d2, d3, -⟩ := digits_facts u u (Nat.le_refl _)
  have hp := pInt_digits u (by omega)
  generalize Lib.decDigits u = d at d2 d3 hp
  cases d with
  | nil => exact absurd rfl d3
  | cons c r =>
    have hc : isDig c = true := by rw [List.all_cons, Bool.and_eq_true] at d2; exact d2.1
    have hl : isLet c = false := by
      cases hq : isLet c with
      | false => rfl
      | true =>
        have := isDig_nat hc
        unfold isLet at hq
        simp at hq
        omega
    have ht : (c :: r).takeWhile isDig = c :: r := by
      have := takeWhile_gap (p := isDig) (by decide) (c :: r) [] d2 (.inl rfl)
      simpa using this
    have := (tok_number (r0 := r) hl hc (by rw [ht, hp])).canon 0
    rw [ht, hp] at this
    exact this
theorem canon_text {t : Bs} (h : t.length ≤ 32) : Canon ⟨3, t, 0, 0⟩ := (tok_text (unqR_quote t []) (by omega)).canon 0
def Good (t : Tk) : Prop := Canon t ∧ tokOk t = true ∧ t.text.length ≤ 32
theorem good_name {w : Bs} (h : isNameB w = true) : Good (wdK w) := by
  unfold wdK
  rw [if_pos h]
  refine ⟨canon_name h, ?_, ?_⟩
  · unfold tokOk
    rw [if_pos rfl]
    exact h
  · unfold isNameB at h
    simp at h
    show w.length ≤ 32
    omega
theorem good_sign {c : UInt8} {r : List UInt8} (hn : isNameB (c :: r) = false) (h1 : isLet c = false) (h2 : isDig c = false) (h3 : c ≠ 34) (hs : signLen (c :: r) = (c :: r).length) (ho : isSignB (c :: r) = true) : Good (wdK (c :: r)) := by
  unfold wdK
  rw [if_neg (by rw [hn]; simp)]
  have := (tok_sign (r0 := r) h1 h2 h3 (by rw [hs]; simp)).canon 0
  rw [hs, List.take_length] at this
  exact ⟨this, ho, by have := isSign_len ho; show (c :: r).length ≤ 32; omega⟩
theorem good_op : ∀ w ∈ opWs, Good (wdK w) := by
  intro w hw
  unfold opWs at hw
  simp only [List.mem_cons, List.not_mem_nil, or_false] at hw
  rcases hw with rfl | rfl | rfl | rfl | rfl | rfl | rfl | rfl | rfl | rfl | rfl | rfl | rfl | rfl | rfl | rfl | rfl | rfl <;> first
    | exact good_name (by decide)
    | exact good_sign (by decide) (by decide) (by decide) (by decide) (by decide) (by decide)
theorem good_const {v : V} (h : v.ok = true) (hk : v.k ≠ 0) : ∀ t ∈ constW v, Good t := by
  have good_num : ∀ {n : Int}, 0 ≤ n → n ≤ 4294967296 → Good (numK n) := fun {n} h0 h1 => ⟨canon_num h0 h1, by
    unfold tokOk numK
    simp only
    rw [if_neg (by decide), if_pos trivial]
    simp [h0, h1], by show ([] : Bs).length ≤ 32; decide⟩
  unfold V.ok at h
  simp only [Bool.or_eq_true, Bool.and_eq_true, beq_iff_eq, decide_eq_true_eq] at h
  intro t ht
  unfold constW at ht
  rcases h with (⟨⟨h, -⟩, -⟩ | ⟨⟨⟨h1, h2⟩, h3⟩, -⟩) | ⟨⟨h1, -⟩, h3⟩
  · exact absurd h hk
  · rw [if_neg (by omega)] at ht
    split at ht
    · rcases List.mem_cons.1 ht with rfl | ht
      · exact good_op [45] (by decide)
      · rw [List.mem_singleton.1 ht]
        exact good_num (by omega) (by omega)
    · rw [List.mem_singleton.1 ht]
      exact good_num (by omega) (by omega)
  · rw [if_pos h1] at ht
    rw [List.mem_singleton.1 ht]
    have hl : v.s.data.toList.length ≤ 32 := by rw [← Lib.size_eq]; exact h3
    exact ⟨canon_text hl, by unfold tokOk; simp only; rw [if_neg (by decide), if_neg (by decide), if_pos trivial]; simp; simpa using hl, hl⟩
section
variable {left right : List Bs}
theorem good_ref {c : Nat} (h : okCol left right c) : ∀ t ∈ refW left right c, Good t := by
  intro t ht
  unfold refW at ht
  have hdot : Good (wdK [46]) := good_sign (by decide) (by decide) (by decide) (by decide) (by decide) (by decide)
  have hn : Good (wdK (colName left right c)) := good_name h
  split at ht
  · simp only [List.mem_cons, List.not_mem_nil, or_false] at ht
    rcases ht with rfl | rfl | rfl
    · exact good_name (by decide)
    · exact hdot
    · exact hn
  · split at ht
    · simp only [List.mem_cons, List.not_mem_nil, or_false] at ht
      rcases ht with rfl | rfl | rfl
      · exact good_name (by decide)
      · exact hdot
      · exact good_name (by decide)
    · rw [List.mem_singleton.1 ht]
      exact hn
open Classical in
theorem tw_zero {Q : Tk → Prop} {l : List Tk} : tw (fun t => if Q t then 0 else 1) l = 0 ↔ ∀ t ∈ l, Q t := by
  induction l with
  | nil => simp [tw_nil]
  | cons a l ih =>
    rw [tw_cons, List.forall_mem_cons, ← ih]
    by_cases h : Q a <;> simp [h]
variable {x : X} (hx : x.wf = true) (hc : ∀ c ∈ x.cols, okCol left right c)
include hx hc
theorem wr_good : ∀ t ∈ x.wr left right, Good t := by
  classical
  have h := wr_weight (f := fun t => if Good t then 0 else 1) (left := left) (right := right) (K := 0) (m := 0) (fun w hw => by simp [good_op w hw]) (by omega) (fun v h1 h2 => Nat.le_of_eq (tw_zero.2 (good_const h1 h2))) (fun c h => Nat.le_of_eq (tw_zero.2 (good_ref h))) _ x (Nat.le_refl _) hx hc
  rw [Nat.zero_mul] at h
  exact tw_zero.1 (Nat.le_zero.1 h)
theorem wr_count : (x.wr left right).length ≤ 5 * x.flat.length := by
  have hl : ∀ l : List Tk, tw (fun _ => 1) l = l.length := fun l => by
    induction l with
    | nil => rfl
    | cons a l ih => rw [tw_cons, ih, List.length_cons]; omega
  have h := wr_weight (f := fun _ => 1) (left := left) (right := right) (K := 5) (m := 1) (fun _ _ => Nat.le_refl _) (by omega) (fun v _ _ => by rw [hl]; unfold constW; (repeat' split) <;> simp) (fun c _ => by rw [hl]; unfold refW; (repeat' split) <;> simp) _ x (Nat.le_refl _) hx hc
  rwa [hl] at h
omit hx hc in
theorem opWs_short : ∀ w ∈ opWs, (wordTk (wdK w)).length ≤ 66 := by decide
theorem wr_words : ((x.wr left right).map fun t => (wordTk t).length).sum ≤ 330 * x.flat.length := by
  have h := wr_weight (f := fun t => (wordTk t).length) (left := left) (right := right) (K := 330) (m := 66) (fun w hw => opWs_short w hw) (by omega)
    (fun v h1 h2 => by
      have hg := good_const h1 h2
      unfold constW at hg ⊢
      split
      · rename_i h
        rw [if_pos h] at hg
        rw [tw_cons, tw_nil]
        have := word_le (hg _ (List.mem_singleton.2 rfl)).2.1
        omega
      · rename_i h
        rw [if_neg h] at hg
        split
        · rename_i h'
          rw [if_pos h'] at hg
          rw [tw_cons, tw_cons, tw_nil]
          have := word_le (hg (wdK [45]) (by simp)).2.1
          have := word_le (hg (numK (-v.n)) (by simp)).2.1
          omega
        · rename_i h'
          rw [if_neg h'] at hg
          rw [tw_cons, tw_nil]
          have := word_le (hg _ (List.mem_singleton.2 rfl)).2.1
          omega)
    (fun c h => by
      have hg := good_ref h
      have hl : ∀ l : List Tk, (∀ t ∈ l, Good t) → tw (fun t => (wordTk t).length) l ≤ 100 * l.length := fun l => by
        induction l with
        | nil => intro _; simp [tw_nil]
        | cons a l ih =>
          intro h
          have := ih (fun t ht => h t (by simp [ht]))
          have := word_le (h a (by simp)).2.1
          rw [tw_cons, List.length_cons]
          omega
      have h1 := hl _ hg
      have h2 : (refW left right c).length ≤ 3 := by unfold refW; (repeat' split) <;> simp
      omega) _ x (Nat.le_refl _) hx hc
  exact h
end
theorem sameTk_at {ts ts' : List Tk} (h : sameTk ts' ts) (z : Int) : AtW ⟨ts', z⟩ 0 ts := fun j t hj => by
  have h1 : (ts'.map Tk.at0)[j]? = (ts.map Tk.at0)[j]? := by rw [h]
  rw [List.getElem?_map, List.getElem?_map, hj] at h1
  cases hq : ts'[j]? with
  | none => rw [hq] at h1; simp at h1
  | some t' =>
    rw [hq] at h1
    simp only [Option.map_some, Option.some.injEq] at h1
    refine ⟨t', by simpa using hq, ?_, ?_, ?_⟩
    · exact (congrArg Tk.kind h1 : t'.at0.kind = t.at0.kind)
    · exact (congrArg Tk.text h1 : t'.at0.text = t.at0.text)
    · exact (congrArg Tk.int h1 : t'.at0.int = t.at0.int)
theorem put_ren : ∀ (n : Nat) (x : X), x.flat.length ≤ n → x.wf = true → (∀ c ∈ x.cols, True) → ∀ pre post : List Int, (x.ren pre.length).flat.map (putT (pre ++ x.cols.map (Nat.cast) ++ post)) = x.flat :=
  X.ind (P := fun _ => True) (M := fun x => ∀ pre post : List Int, (x.ren pre.length).flat.map (putT (pre ++ x.cols.map (Nat.cast) ++ post)) = x.flat) fun t ks ht hk _ h pre post => by
    have hl : ∀ (l : List X), (∀ k ∈ l, ∀ pre post : List Int, (k.ren pre.length).flat.map (putT (pre ++ k.cols.map (Nat.cast) ++ post)) = k.flat) → ∀ pre post : List Int, (flats (rens pre.length l)).map (putT (pre ++ (colss l).map (Nat.cast) ++ post)) = flats l := fun l => by
      induction l with
      | nil => intro _ pre post; simp [rens, flats]
      | cons a l ih =>
        intro h pre post
        have h1 := h a (by simp) pre ((colss l).map (Nat.cast) ++ post)
        have h2 := ih (fun k hk => h k (by simp [hk])) (pre ++ a.cols.map (Nat.cast)) post
        rw [List.length_append, List.length_map] at h2
        rw [rens, flats, flats, colss, List.map_append, List.map_append]
        rw [show pre ++ (a.cols.map (Nat.cast) ++ (colss l).map (Nat.cast)) ++ post = pre ++ a.cols.map (Nat.cast) ++ ((colss l).map (Nat.cast) ++ post) by simp, h1]
        rw [show pre ++ a.cols.map (Nat.cast) ++ ((colss l).map (Nat.cast) ++ post) = pre ++ a.cols.map (Nat.cast) ++ (colss l).map (Nat.cast) ++ post by simp, h2]
    rw [X.ren, X.flat_node, X.flat_node, List.map_cons, X.cols]
    by_cases h2 : t.op = 2
    · obtain ⟨h3, h4⟩ := node_col ht h2
      have hk0 : ks = [] := List.eq_nil_of_length_eq_zero (by rw [hk, h2]; rfl)
      subst hk0
      rw [if_pos h2, if_pos h2]
      have : (putT (pre ++ List.map Nat.cast ([t.c.toNat] ++ colss []) ++ post) { t with c := (pre.length : Int) }) = t := by
        unfold putT
        rw [if_pos h2]
        have : (pre ++ List.map (Nat.cast : Nat → Int) ([t.c.toNat] ++ colss []) ++ post).getD ((pre.length : Int).toNat) 0 = t.c := by
          rw [List.getD_eq_getElem?_getD, Int.toNat_natCast, List.append_assoc, List.getElem?_append_right (Nat.le_refl _), Nat.sub_self]
          simp
          omega
        simp only [this]
      rw [this]
      simp [rens, flats]
    · rw [if_neg h2, if_neg h2, if_neg h2, Nat.add_zero, List.nil_append]
      have : ∀ m, putT m t = t := fun m => by unfold putT; rw [if_neg h2]
      rw [this, hl ks (fun k hk => (h k hk).2.2)]
def Finds (left right : List Bs) (c : Nat) : Prop := findP (if left.length ≤ c then right else left) (colName left right c) = some (if left.length ≤ c then c - left.length else c)
theorem cols_back {left right : List Bs} : ∀ (cs : List Nat) (rs : List (Tk × Bool)), rs.map (fun y => (y.1.text, y.2)) = cs.map (nameOf left right) → (∀ c ∈ cs, Finds left right c) → colsP left right rs = .ok (cs.map Nat.cast)
  | [], [], _, _ => rfl
  | [], _ :: _, h, _ => by simp at h
  | _ :: _, [], h, _ => by simp at h
  | c :: cs, (t, r) :: rs, h, hf => by
    rw [List.map_cons, List.map_cons] at h
    injection h with h1 h2
    have ih := cols_back cs rs h2 (fun c hc => hf c (by simp [hc]))
    have h3 := hf c (by simp)
    unfold nameOf at h1
    injection h1 with h4 h5
    simp only at h4 h5
    unfold Finds at h3
    unfold colsP
    rw [ih, h4]
    have h6 : (if r = true then right else left) = if left.length ≤ c then right else left := by rw [h5]; simp
    rw [h6, h3]
    simp only [List.map_cons]
    have h7 : ((if r = true then left.length else 0) + if left.length ≤ c then c - left.length else c) = c := by
      rw [h5]
      by_cases hl : left.length ≤ c
      · simp only [hl, decide_true, if_true]; omega
      · simp only [hl, decide_false, Bool.false_eq_true, if_false]; omega
    rw [h7]
theorem parse_back {left right : List Bs} {e : Src} {x : X} (hx : x.wf = true) (hc : ∀ c ∈ x.cols, okCol left right c) (hf : ∀ c ∈ x.cols, Finds left right c) (hA : AtW e 0 (x.wr left right)) (hl : e.toks.length = (x.wr left right).length) : parseExprP e left right = (x.flat, 0, 0) := by
  obtain ⟨-, h6⟩ := back_all (e := e) (left := left) (right := right) _ x (Nat.le_refl _) hx hc
  obtain ⟨r, g, h⟩ := h6 ⟨0, false, 0, []⟩ hA (Fol.end_ (by rw [hl, Nat.zero_add]; exact Nat.le_refl _))
  have hfu : 10 * x.flat.length ≤ e.fuel := by
    have := flat_wr (left := left) (right := right) _ x (Nat.le_refl _) hx hc
    unfold Src.fuel
    omega
  have hw : wholeP e ⟨0, false, 0, []⟩ = (⟨some r.1, r.2.refs⟩, r.2) := by
    unfold wholeP
    simp only
    rw [h _ hfu]
  have hp : r.2.pos = e.toks.length := by rw [g.pos, hl]; simp
  unfold parseExprP
  rw [hw]
  simp only [hp, Nat.lt_irrefl, if_false, g.failed, Bool.false_eq_true]
  obtain ⟨rs, r1, r2⟩ := g.refs
  rw [List.nil_append] at r1
  unfold Xr.resolve
  simp only
  rw [r1, cols_back x.cols rs r2 hf]
  simp only
  have := put_ren _ x (Nat.le_refl _) hx (fun _ _ => trivial) [] []
  rw [g.tree]
  simp only [List.length_nil, List.nil_append, List.append_nil] at this ⊢
  rw [this]
theorem pexpr_back {left right : List Bs} {x : X} (hx : x.wf = true) (hc : ∀ c ∈ x.cols, okCol left right c) (hf : ∀ c ∈ x.cols, Finds left right c) (hn : x.flat.length ≤ 95) : pexprO (joinK (x.wr left right)) left right = (x.flat, 0, 0) := by
  have hg := wr_good hx hc
  have h1 := wr_count hx hc
  have h2 := wr_words hx hc
  have hj := spJoin_sum ((x.wr left right).map wordTk)
  rw [List.map_map, List.length_map] at hj
  have hj2 : (spJoin ((x.wr left right).map wordTk)).length ≤ 32000 := by
    have : ((x.wr left right).map (List.length ∘ wordTk)).sum = ((x.wr left right).map fun t => (wordTk t).length).sum := rfl
    omega
  obtain ⟨ts', e1, e2⟩ := scan_join (x.wr left right) (fun t ht => (hg t ht).1) ((spJoin ((x.wr left right).map wordTk)).length + 1) [] 0 [] (.inl rfl) (by simp) (by simp; omega) (.inr rfl)
  have hs : scanO (joinK (x.wr left right)) = (ts', 0, 0) := by
    unfold joinK
    rw [wordsK_all (fun t ht => (hg t ht).2.1)]
    unfold scanO
    rw [if_neg (by omega)]
    simpa using e1
  unfold pexprO
  rw [hs]
  simp only [ne_eq, not_true_eq_false, if_false]
  exact parse_back hx hc hf (sameTk_at e2 _) (sameTk_len e2)
end Go.Proofs.YtpnfbehbheddeaaGreatDoor
