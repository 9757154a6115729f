/- Contract of write of the writer of expressions: the expression that begins at a place, as its tokens. At most 1000000 tokens, names of at most 1000000 bytes. -/
import Derived.Test.YtpnfbehbheddeaaGreatDoorBn43
import Derived.Test.YtpnfbehbheddeaaGreatDoorBn09
import Derived.Test.YtpnfbehbheddeaaGreatDoorBn41
namespace Go.Proofs.YtpnfbehbheddeaaGreatDoor
set_option maxRecDepth 100000
set_option maxHeartbeats 8000000
set_option linter.unusedVariables false
set_option linter.unusedSimpArgs false
open Go.RowKit
theorem wrs_at (left right : List Bs) : ∀ (ks : List X) (i : Nat), (wrs left right ks)[i]? = (ks[i]?).map (X.wr left right)
  | [], i => by rw [wrs]; simp
  | x :: ks, 0 => by rw [wrs]; rfl
  | x :: ks, i + 1 => by rw [wrs, List.getElem?_cons_succ, List.getElem?_cons_succ]; exact wrs_at left right ks i
theorem wrs_len (left right : List Bs) : ∀ ks : List X, (wrs left right ks).length = ks.length
  | [] => by rw [wrs]; rfl
  | x :: ks => by rw [wrs, List.length_cons, List.length_cons, wrs_len left right ks]
theorem len_two {α : Type} {l : List α} (h : l.length = 2) : ∃ a b, l = [a, b] := by
  match l, h with
  | [a, b], _ => exact ⟨a, b, rfl⟩
theorem wordOf_i {w : World} (op : Int) (h1 : 3 ≤ op) (h2 : op ≤ 18) : Calls Tryz.prog 111 #[.int .i64 op] w fun e w' => e = .returned (.string ⟨(opW op).toArray⟩) ∧ Below w.heap.size w w' := by
  obtain ⟨k, rfl⟩ := Int.eq_ofNat_of_zero_le (show 0 ≤ op by omega)
  exact wordOf_c k (by omega) (by omega)
theorem opW_len {op : Int} (h : isBin op) : (opW op).length ≤ 1000000 := by
  unfold isBin at h
  rcases h with rfl | rfl | rfl | rfl | rfl | rfl | rfl | rfl | rfl <;> decide
theorem wf_op {x : X} (h : x.wf = true) : 1 ≤ x.t.op ∧ x.t.op ≤ 18 := by
  obtain ⟨t, ks⟩ := x
  simp only [X.wf, Bool.and_eq_true] at h
  have h2 := h.1
  rw [T.ok_fok, Bool.and_eq_true, decide_eq_true_eq] at h2
  have := arity_known h2.1
  exact this
structure KidsC (w0 : World) (eb wb : Nat) (t1 t2 t3 : Value) (es : List T) (left right : List Bs) (p1 : Nat) (ks : List X) : Prop where
  w : ∀ i k, ks[i]? = some k → WC w0 eb wb t1 t2 t3 (p1 + (flats (ks.take i)).length) (p1 + (flats (ks.take (i + 1))).length) (k.wr left right)
  t : ∀ i k, ks[i]? = some k → es[p1 + (flats (ks.take i)).length]? = some k.t ∧ 1 ≤ k.t.op ∧ k.t.op ≤ 18
theorem write_node {w0 : World} {eb wb tn tc ln lc rn rc pos p1 : Nat} {TA LA DA : Option Addr} {es : List T} {left right : List Bs} (hT : RowT w0 w0.heap.size TA tn es) (hl : RowB w0 w0.heap.size LA ln left) (hr : RowB w0 w0.heap.size DA rn right) (htn : tn ≤ 1000) (hln : ln ≤ 1000000) (hrn : rn ≤ 1000000) (hnm : ∀ c, (colName left right c).length ≤ 1000000)
    {t : T} {ks : List X} (hp1 : p1 = pos + 1) (ht : es[pos]? = some t) (hok : t.ok = true) (hkl : ks.length = ar t.op) (hcol : t.op = 2 → t.c < ((ln + rn : Nat) : Int)) (hK : KidsC w0 eb wb (.slice TA tn tc) (.slice LA ln lc) (.slice DA rn rc) es left right p1 ks) :
    WC w0 eb wb (.slice TA tn tc) (.slice LA ln lc) (.slice DA rn rc) pos (p1 + (flats ks).length) (nodeW left right t ks (wrs left right ks)) := by
  intro w l l' L hL H ho
  obtain ⟨op, ⟨k, n, ⟨s⟩⟩, c⟩ := t
  have hpos : pos < tn := by
    have := (List.getElem?_eq_some_iff.1 ht).1
    rw [hT.len] at this
    exact this
  have hpw : IntKind.i64.wrap ((pos : Int) + 1) = (p1 : Int) := by rw [IntWalk.i64_in _ (by omega)]; omega
  have hp0 : (0 : Int) ≤ (pos : Int) := by omega
  have hp2 : (pos : Int) < (tn : Int) := by omega
  obtain ⟨z0, w1, ez, ew, H1⟩ := H.alloc_ex #[.pointer (some ⟨eb, 0, none⟩)] 171
  have hb := H1.old (.there (.there (.there ho)))
  obtain ⟨b, off, t', rfl, hbb, ht', c0, c1, c2, c3, c4⟩ := RowT.at5 ((hT.below hb).more hb.size) hpos
  obtain rfl := Option.some.inj (ht'.symm.trans ht)
  dsimp only at c0 c1 c2 c3 c4
  have hop := arity_known (show 0 ≤ arity op by have := hok; rw [T.ok_fok, Bool.and_eq_true, decide_eq_true_eq] at this; exact this.1)
  have HT := Lib.hid hT
  have HO := Lib.hid ho
  have HK := Lib.hid hK
  have HOK := Lib.hid hok
  have HKL := Lib.hid hkl
  have HCOL := Lib.hid hcol
  have HL := Lib.hid hL
  have HTT := Lib.hid ht
  obtain ⟨V, hV⟩ : ∃ V, V = nodeW left right ⟨op, ⟨k, n, ⟨s⟩⟩, c⟩ ks (wrs left right ks) := ⟨_, rfl⟩
  obtain ⟨pe, hpe⟩ : ∃ pe, pe = p1 + (flats ks).length := ⟨_, rfl⟩
  rw [← hV, ← hpe]
  have HV := Lib.hid hV
  have HPE := Lib.hid hpe
  clear hV hpe
  unfold WrPost
  obtain ⟨dB, dL, hcB⟩ := HS.get (z := z0) H1; obtain ⟨d0, df0⟩ := hcB 0; clear hcB
  obtain ⟨xB, xL, hcB⟩ := HS.get (z := eb) H1; obtain ⟨x0, xf0⟩ := hcB 0; obtain ⟨x1, xf1⟩ := hcB 1; clear hcB; unfold ewC at x0 x1
  clear hT ho hK hok hkl hcol hL ht ht' H hb hp1 hpos
  go_enter Tryz.func65, Tryz.ntmps65
  go_upto_region 1 with fail
  (try rw [ez]); (try rw [ew])
  clear ez ew
  have H2 := (H1.alloc #[.int .i64 op, .int .i64 k, .int .i64 n, .string ⟨s⟩, .int .i64 c] 40).drew
  (refine wp_region_G 13 (fun w' => w'.cell? ⟨z0, 0, none⟩ = some (.pointer (some ⟨eb, 0, none⟩)) ∧ w'.cell? ⟨eb, 0, none⟩ = some (.pointer (some ⟨wb, 0, none⟩)) ∧ w'.cell? ⟨eb, 1, none⟩ = some (.slice (some ⟨b, off, none⟩) tn tc) ∧ w'.cell? ⟨b, off + pos * 5, none⟩ = some (.int .i64 op) ∧ w'.cell? ⟨b, off + pos * 5 + 1, none⟩ = some (.int .i64 k) ∧ w'.cell? ⟨b, off + pos * 5 + 2, none⟩ = some (.int .i64 n) ∧ w'.cell? ⟨b, off + pos * 5 + 3, none⟩ = some (.string ⟨s⟩) ∧ w'.cell? ⟨b, off + pos * 5 + 4, none⟩ = some (.int .i64 c)) (by kernel_rfl) ?_ (fun hHeld => ?_); (focus (try dsimp only); go_keep))
  (refine GG.k 0 ?_; refine GG.k 1 ?_; refine GG.k 2 ?_; refine GG.k 3 ?_; refine GG.k 4 ?_; refine GG.k 5 ?_; refine GG.k 6 ?_; refine GG.k 7 ?_; refine GG.k 8 ?_; refine GG.k 9 ?_; refine GG.k 10 ?_)
  (refine GG.o 11 (fun K hK => ?_); go_simp; refine hK.out _ _ ?_ (fun hHeld => ?_); (focus (try dsimp only); go_keep); clear hK K; (try simp only [Act.put, qqa, qqb, qqc]))
  (refine GG.k 12 ?_)
  (refine GG.l (fun K hK => ?_); go_simp; refine hK.out _ _ ?_; clear hK K)
  generalize w1.heap.size = zt at H2 ⊢
  obtain ⟨w2, hw2⟩ : ∃ w2, (w1.alloc (.cells #[.int .i64 op, .int .i64 k, .int .i64 n, .string ⟨s⟩, .int .i64 c] 40)).drew = w2 := ⟨_, rfl⟩
  rw [hw2] at H2 ⊢
  clear hw2 c0 c1 c2 c3 c4 d0 df0 x0 x1 xf0 xf1 xB xL dB dL H1
  go_upto_region 3 with fail
  obtain ⟨ze, w3, ez, ew, H3⟩ := H2.alloc_ex #[.int .i64 (p1 : Int)] 3
  (try rw [ez]); (try rw [ew])
  clear ez ew H2
  obtain ⟨dB, dL, hcB⟩ := HS.get (z := z0) H3; obtain ⟨d0, df0⟩ := hcB 0; clear hcB
  obtain ⟨tB, tL, hcB⟩ := HS.get (z := zt) H3; obtain ⟨t0, tf0⟩ := hcB 0; obtain ⟨t1, tf1⟩ := hcB 1; obtain ⟨t2, tf2⟩ := hcB 2; obtain ⟨t3, tf3⟩ := hcB 3; obtain ⟨t4, tf4⟩ := hcB 4; clear hcB
  obtain ⟨eB, eL, hcB⟩ := HS.get (z := ze) H3; obtain ⟨e0, ef0⟩ := hcB 0; clear hcB
  have h : op = 1 ∨ op = 2 ∨ op = 3 ∨ op = 13 ∨ op = 9 ∨ op = 10 ∨ op = 16 ∨ op = 17 ∨ op = 18 ∨ isBin op := by unfold isBin; omega
  clear hop
  rcases h with rfl | rfl | rfl | rfl | rfl | rfl | rfl | rfl | rfl | hbin
  · obtain ⟨-, hv1, hv2⟩ := node_const HOK.out rfl
    have hks : ks = [] := List.eq_nil_of_length_eq_zero (by rw [HKL.out]; rfl)
    have hnw : nodeW left right ⟨1, ⟨k, n, ⟨s⟩⟩, c⟩ ks (wrs left right ks) = constW ⟨k, n, ⟨s⟩⟩ := by unfold nodeW; rw [if_pos rfl]
    have HNW := Lib.hid hnw
    have hLL := HL.out
    rw [hnw] at hLL
    have HQ := Lib.hid (show p1 + (flats ks).length = p1 by rw [hks]; simp [flats])
    have hC := constant_s ⟨k, n, ⟨s⟩⟩ hv1 hv2 (by omega) (H3.sub (l' := boxA eb (ewC wb (.slice (some ⟨b, off, none⟩) tn tc) (.slice LA ln lc) (.slice DA rn rc)) 122 :: wA wb L :: boxA z0 #[.pointer (some ⟨eb, 0, none⟩)] 171 :: boxA zt #[.int .i64 1, .int .i64 k, .int .i64 n, .string ⟨s⟩, .int .i64 c] 40 :: boxA ze #[.int .i64 (p1 : Int)] 3 :: l) pkQ)
    unfold WrPost at hC
    clear hv1 hv2 hks hnw hLL H3
    go_wp2_with (go_at_call 108; (with_reducible refine hC.mono ?_); rintro e w4 ⟨rfl, H4⟩; obtain ⟨yB, yL, hcB⟩ := HS.get (z := ze) H4; obtain ⟨y0, yf0⟩ := hcB 0; clear hcB)
    go_ret
    refine ⟨ret_int (show ((p1 : Nat) : Int) = ((pe : Nat) : Int) by rw [HPE.out, HQ.out]), ?_⟩
    rw [HV.out, HNW.out]
    exact H4.sub pkQ
  · obtain ⟨hn1, hc0⟩ := node_col HOK.out rfl
    have hks : ks = [] := List.eq_nil_of_length_eq_zero (by rw [HKL.out]; rfl)
    have hc1 := HCOL.out rfl
    dsimp only at hc0 hc1
    obtain ⟨m, rfl⟩ : ∃ m : Nat, c = (m : Int) := ⟨c.toNat, by omega⟩
    have hnw : nodeW left right ⟨2, ⟨k, n, ⟨s⟩⟩, (m : Int)⟩ ks (wrs left right ks) = refW left right m := by unfold nodeW; rw [if_neg (show ¬ (2 : Int) = 1 by decide), if_pos rfl]; rfl
    have HNW := Lib.hid hnw
    have hLL := HL.out
    rw [hnw] at hLL
    have HQ := Lib.hid (show p1 + (flats ks).length = p1 by rw [hks]; simp [flats])
    have hC := reference_s (L := L) (t1 := .slice (some ⟨b, off, none⟩) tn tc) (lc := lc) (rc := rc) (l := boxA z0 #[.pointer (some ⟨eb, 0, none⟩)] 171 :: boxA zt #[.int .i64 2, .int .i64 k, .int .i64 n, .string ⟨s⟩, .int .i64 (m : Int)] 40 :: boxA ze #[.int .i64 (p1 : Int)] 3 :: l) m (by omega) hl hr hln hrn (hnm m) (by omega) (H3.sub pkQ) (.there (.there (.there HO.out)))
    unfold WrPost at hC
    clear hn1 hc0 hc1 hks hnw hLL H3
    go_wp2_with (go_at_call 109; (with_reducible refine hC.mono ?_); rintro e w4 ⟨rfl, H4⟩; obtain ⟨yB, yL, hcB⟩ := HS.get (z := ze) H4; obtain ⟨y0, yf0⟩ := hcB 0; clear hcB)
    go_ret
    refine ⟨ret_int (show ((p1 : Nat) : Int) = ((pe : Nat) : Int) by rw [HPE.out, HQ.out]), ?_⟩
    rw [HV.out, HNW.out]
    exact H4.sub pkQ
  · obtain ⟨k0, rfl⟩ : ∃ k0, ks = [k0] := List.length_eq_one_iff.1 (by rw [HKL.out]; rfl)
    have hw0 : WC w0 eb wb (.slice (some ⟨b, off, none⟩) tn tc) (.slice LA ln lc) (.slice DA rn rc) p1 (p1 + (flats [k0]).length) (k0.wr left right) := by
      have := HK.out.w 0 k0 rfl
      simpa [flats] using this
    have ht0 : es[p1]? = some k0.t ∧ 1 ≤ k0.t.op ∧ k0.t.op ≤ 18 := by
      have := HK.out.t 0 k0 rfl
      simpa [flats] using this
    have hnw : nodeW left right ⟨3, ⟨k, n, ⟨s⟩⟩, c⟩ [k0] (wrs left right [k0]) = wdK (opW 3) :: operT k0.t true (k0.wr left right) := by
      rw [wrs, wrs]
      unfold nodeW
      rw [if_neg (show ¬ (3 : Int) = 1 by decide), if_neg (show ¬ (3 : Int) = 2 by decide), if_neg (show ¬ isFun 3 = true by decide)]
      rfl
    have hLL := HL.out
    rw [hnw] at hLL
    simp only [List.length_cons] at hLL
    have HNW := Lib.hid (HV.out.trans hnw)
    have HQ := Lib.hid HPE.out
    clear HV hnw HPE
    generalize p1 + (flats [k0]).length = q1 at hw0 HQ
    have hWo := fun w1 => wordOf_c (w := w1) 3 (by decide) (by decide)
    rw [show ((3 : Nat) : Int) = 3 from rfl] at hWo
    have hwl : (opW 3).length ≤ 1000000 := by decide
    generalize opW 3 = word at hWo hwl HNW
    have hW2 := fun w1 l1 (H1 : HS w1 (wA wb L :: l1)) => write1_s word hwl (by omega) H1
    unfold WdPost at hW2
    have hOp := fun w1 l1 l2 (H1 : HS w1 (boxA eb (ewC wb (.slice (some ⟨b, off, none⟩) tn tc) (.slice LA ln lc) (.slice DA rn rc)) 122 :: wA wb (L ++ [wdK word]) :: l1)) (ho : Pick l1 (oldA w0) l2) => operand_s (l := l1) k0.t HT.out ht0.1 htn ht0.2.1 ht0.2.2 hw0 true (by simp only [List.length_append, List.length_cons, List.length_nil]; omega) H1 ho
    unfold WrPost at hOp
    have HO3 : ∃ l2, Pick (boxA z0 #[.pointer (some ⟨eb, 0, none⟩)] 171 :: boxA zt #[.int .i64 3, .int .i64 k, .int .i64 n, .string ⟨s⟩, .int .i64 c] 40 :: boxA ze #[.int .i64 (p1 : Int)] 3 :: l) (oldA w0) l2 := ⟨_, .there (.there (.there HO.out))⟩
    obtain ⟨l2, ho3⟩ := HO3
    have HPH := Lib.hid ho3
    clear hw0 ht0 hLL ho3
    go_upto_region 22 with (first
      | (go_at_call 111; refine (hWo _).mono ?_; rintro e w4 ⟨rfl, hb4⟩; have H4 := H3.below hb4; have hW2b := hW2 _ _ (H4.sub (l' := wA wb L :: boxA eb (ewC wb (.slice (some ⟨b, off, none⟩) tn tc) (.slice LA ln lc) (.slice DA rn rc)) 122 :: boxA z0 #[.pointer (some ⟨eb, 0, none⟩)] 171 :: boxA zt #[.int .i64 3, .int .i64 k, .int .i64 n, .string ⟨s⟩, .int .i64 c] 40 :: boxA ze #[.int .i64 (p1 : Int)] 3 :: l) pkQ))
      | (go_at_call 110; (with_reducible refine hW2b.mono ?_); rintro e w5 ⟨rfl, H5⟩))
    clear d0 df0 dB dL t0 t1 t2 t3 t4 tf0 tf1 tf2 tf3 tf4 tB tL e0 ef0 eB eL H3 H4 hW2b
    obtain ⟨tB, tL, hcB⟩ := HS.get (z := zt) H5; obtain ⟨t0, tf0⟩ := hcB 0; clear hcB
    obtain ⟨dB, dL, hcB⟩ := HS.get (z := z0) H5; obtain ⟨d0, df0⟩ := hcB 0; clear hcB
    obtain ⟨eB, eL, hcB⟩ := HS.get (z := ze) H5; obtain ⟨e0, ef0⟩ := hcB 0; clear hcB
    have hOb := hOp _ (boxA z0 #[.pointer (some ⟨eb, 0, none⟩)] 171 :: boxA zt #[.int .i64 3, .int .i64 k, .int .i64 n, .string ⟨s⟩, .int .i64 c] 40 :: boxA ze #[.int .i64 (p1 : Int)] 3 :: l) _ (H5.sub pkQ) HPH.out
    go_wp2_with (go_at_call 114; (with_reducible refine hOb.mono ?_); rintro e w7 ⟨rfl, H7⟩; obtain ⟨yB, yL, hcB⟩ := HS.get (z := ze) H7; obtain ⟨y0, yf0⟩ := hcB 0; clear hcB)
    go_ret
    refine ⟨ret_int (show ((q1 : Nat) : Int) = ((pe : Nat) : Int) by rw [HQ.out]), ?_⟩
    rw [HNW.out, show L ++ wdK word :: operT k0.t true (k0.wr left right) = L ++ [wdK word] ++ operT k0.t true (k0.wr left right) by simp]
    exact (H7.store (z := ze) pkQ 0 (.int .i64 (q1 : Int))).sub pkQ
  · obtain ⟨k0, rfl⟩ : ∃ k0, ks = [k0] := List.length_eq_one_iff.1 (by rw [HKL.out]; rfl)
    have hw0 : WC w0 eb wb (.slice (some ⟨b, off, none⟩) tn tc) (.slice LA ln lc) (.slice DA rn rc) p1 (p1 + (flats [k0]).length) (k0.wr left right) := by
      have := HK.out.w 0 k0 rfl
      simpa [flats] using this
    have ht0 : es[p1]? = some k0.t ∧ 1 ≤ k0.t.op ∧ k0.t.op ≤ 18 := by
      have := HK.out.t 0 k0 rfl
      simpa [flats] using this
    have hnw : nodeW left right ⟨13, ⟨k, n, ⟨s⟩⟩, c⟩ [k0] (wrs left right [k0]) = wdK (opW 13) :: operT k0.t false (k0.wr left right) := by
      rw [wrs, wrs]
      unfold nodeW
      rw [if_neg (show ¬ (13 : Int) = 1 by decide), if_neg (show ¬ (13 : Int) = 2 by decide), if_neg (show ¬ isFun 13 = true by decide)]
      rfl
    have hLL := HL.out
    rw [hnw] at hLL
    simp only [List.length_cons] at hLL
    have HNW := Lib.hid (HV.out.trans hnw)
    have HQ := Lib.hid HPE.out
    clear HV hnw HPE
    generalize p1 + (flats [k0]).length = q1 at hw0 HQ
    have hWo := fun w1 => wordOf_c (w := w1) 13 (by decide) (by decide)
    rw [show ((13 : Nat) : Int) = 13 from rfl] at hWo
    have hwl : (opW 13).length ≤ 1000000 := by decide
    generalize opW 13 = word at hWo hwl HNW
    have hW2 := fun w1 l1 (H1 : HS w1 (wA wb L :: l1)) => write1_s word hwl (by omega) H1
    unfold WdPost at hW2
    have hOp := fun w1 l1 l2 (H1 : HS w1 (boxA eb (ewC wb (.slice (some ⟨b, off, none⟩) tn tc) (.slice LA ln lc) (.slice DA rn rc)) 122 :: wA wb (L ++ [wdK word]) :: l1)) (ho : Pick l1 (oldA w0) l2) => operand_s (l := l1) k0.t HT.out ht0.1 htn ht0.2.1 ht0.2.2 hw0 false (by simp only [List.length_append, List.length_cons, List.length_nil]; omega) H1 ho
    unfold WrPost at hOp
    have HO3 : ∃ l2, Pick (boxA z0 #[.pointer (some ⟨eb, 0, none⟩)] 171 :: boxA zt #[.int .i64 13, .int .i64 k, .int .i64 n, .string ⟨s⟩, .int .i64 c] 40 :: boxA ze #[.int .i64 (p1 : Int)] 3 :: l) (oldA w0) l2 := ⟨_, .there (.there (.there HO.out))⟩
    obtain ⟨l2, ho3⟩ := HO3
    have HPH := Lib.hid ho3
    clear hw0 ht0 hLL ho3
    go_upto_region 22 with (first
      | (go_at_call 111; refine (hWo _).mono ?_; rintro e w4 ⟨rfl, hb4⟩; have H4 := H3.below hb4; have hW2b := hW2 _ _ (H4.sub (l' := wA wb L :: boxA eb (ewC wb (.slice (some ⟨b, off, none⟩) tn tc) (.slice LA ln lc) (.slice DA rn rc)) 122 :: boxA z0 #[.pointer (some ⟨eb, 0, none⟩)] 171 :: boxA zt #[.int .i64 13, .int .i64 k, .int .i64 n, .string ⟨s⟩, .int .i64 c] 40 :: boxA ze #[.int .i64 (p1 : Int)] 3 :: l) pkQ))
      | (go_at_call 110; (with_reducible refine hW2b.mono ?_); rintro e w5 ⟨rfl, H5⟩))
    clear d0 df0 dB dL t0 t1 t2 t3 t4 tf0 tf1 tf2 tf3 tf4 tB tL e0 ef0 eB eL H3 H4 hW2b
    obtain ⟨tB, tL, hcB⟩ := HS.get (z := zt) H5; obtain ⟨t0, tf0⟩ := hcB 0; clear hcB
    obtain ⟨dB, dL, hcB⟩ := HS.get (z := z0) H5; obtain ⟨d0, df0⟩ := hcB 0; clear hcB
    obtain ⟨eB, eL, hcB⟩ := HS.get (z := ze) H5; obtain ⟨e0, ef0⟩ := hcB 0; clear hcB
    have hOb := hOp _ (boxA z0 #[.pointer (some ⟨eb, 0, none⟩)] 171 :: boxA zt #[.int .i64 13, .int .i64 k, .int .i64 n, .string ⟨s⟩, .int .i64 c] 40 :: boxA ze #[.int .i64 (p1 : Int)] 3 :: l) _ (H5.sub pkQ) HPH.out
    go_wp2_with (go_at_call 114; (with_reducible refine hOb.mono ?_); rintro e w7 ⟨rfl, H7⟩; obtain ⟨yB, yL, hcB⟩ := HS.get (z := ze) H7; obtain ⟨y0, yf0⟩ := hcB 0; clear hcB)
    go_ret
    refine ⟨ret_int (show ((q1 : Nat) : Int) = ((pe : Nat) : Int) by rw [HQ.out]), ?_⟩
    rw [HNW.out, show L ++ wdK word :: operT k0.t false (k0.wr left right) = L ++ [wdK word] ++ operT k0.t false (k0.wr left right) by simp]
    exact (H7.store (z := ze) pkQ 0 (.int .i64 (q1 : Int))).sub pkQ
  · have hlen : (wrs left right ks).length = ks.length := wrs_len left right ks
    have hkl := HKL.out
    have hA := fun w1 => xarity 9 w1
    have hAr : arity 9 = ((wrs left right ks).length : Int) := by rw [hlen, hkl]; rfl
    simp only [hAr] at hA
    obtain ⟨P, hP⟩ : ∃ P : Nat → Nat, P = fun i => p1 + (flats (ks.take i)).length := ⟨_, rfl⟩
    have hP0 : P 0 = p1 := by rw [hP]; simp [flats]
    have hPn : p1 + (flats ks).length = P (wrs left right ks).length := by rw [hP, hlen]; simp
    have hWs : ∀ i W, (wrs left right ks)[i]? = some W → WC w0 eb wb (.slice (some ⟨b, off, none⟩) tn tc) (.slice LA ln lc) (.slice DA rn rc) (P i) (P (i + 1)) W := fun i W h => by
      rw [wrs_at, Option.map_eq_some_iff] at h
      obtain ⟨x, hx, rfl⟩ := h
      rw [hP]
      exact HK.out.w i x hx
    have hnw : nodeW left right ⟨9, ⟨k, n, ⟨s⟩⟩, c⟩ ks (wrs left right ks) = [wdK (opW 9), wdK [40]] ++ commaW (wrs left right ks) ++ [wdK [41]] := by unfold nodeW; rw [if_neg (show ¬ (9 : Int) = 1 by decide), if_neg (show ¬ (9 : Int) = 2 by decide), if_pos (show isFun 9 = true by decide)]
    have hLL := HL.out
    rw [hnw] at hLL
    have HPN := Lib.hid (HPE.out.trans hPn)
    have HNW := Lib.hid (HV.out.trans hnw)
    clear HV hnw
    simp only [List.length_append, List.length_cons, List.length_nil] at hLL
    have hl4 : (wrs left right ks).length ≤ 1000 := by rw [hlen, hkl]; exact (show ar 9 ≤ 1000 by decide)
    generalize wrs left right ks = ls at hA hWs hLL hl4 HPN HNW
    have hWo := fun w1 => wordOf_c (w := w1) 9 (by decide) (by decide)
    rw [show ((9 : Nat) : Int) = 9 from rfl] at hWo
    have hwl : (opW 9).length ≤ 1000000 := by decide
    generalize opW 9 = word at hWo hwl HNW
    have hW2 := fun w1 l1 (H1 : HS w1 (wA wb L :: l1)) => write2_s word [40] hwl (by simp) (by omega) H1
    unfold WdPost at hW2
    have hLs := fun w1 l1 l2 (H1 : HS w1 (boxA z0 #[.pointer (some ⟨eb, 0, none⟩)] 171 :: boxA ze #[.int .i64 (P 0 : Int)] 3 :: boxA eb (ewC wb (.slice (some ⟨b, off, none⟩) tn tc) (.slice LA ln lc) (.slice DA rn rc)) 122 :: wA wb (L ++ [wdK word, wdK [40]]) :: l1)) (ho : Pick l1 (oldA w0) l2) => list_w (l := l1) ls P hWs (by simp only [List.length_append, List.length_cons, List.length_nil]; omega) hl4 H1 ho
    have hW3 := fun w1 l1 (H1 : HS w1 (wA wb (L ++ [wdK word, wdK [40]] ++ commaW ls) :: l1)) => write1_s [41] (by simp) (by simp only [List.length_append, List.length_cons, List.length_nil]; omega) H1
    unfold WdPost at hW3
    rw [← hP0] at H3 e0
    have HO3 : ∃ l2, Pick (boxA zt #[.int .i64 9, .int .i64 k, .int .i64 n, .string ⟨s⟩, .int .i64 c] 40 :: l) (oldA w0) l2 := ⟨_, .there HO.out⟩
    obtain ⟨l2, ho3⟩ := HO3
    have HPH := Lib.hid ho3
    clear hlen hkl hAr hP hP0 hPn hWs hLL ho3
    go_upto_region 17 with (first
      | (go_at_call 111; refine (hWo _).mono ?_; rintro e w4 ⟨rfl, hb4⟩; have H4 := H3.below hb4; have hW2b := hW2 _ _ (H4.sub (l' := wA wb L :: boxA z0 #[.pointer (some ⟨eb, 0, none⟩)] 171 :: boxA ze #[.int .i64 (P 0 : Int)] 3 :: boxA eb (ewC wb (.slice (some ⟨b, off, none⟩) tn tc) (.slice LA ln lc) (.slice DA rn rc)) 122 :: boxA zt #[.int .i64 9, .int .i64 k, .int .i64 n, .string ⟨s⟩, .int .i64 c] 40 :: l) pkQ))
      | (go_at_call 110; (with_reducible refine hW2b.mono ?_); rintro e w5 ⟨rfl, H5⟩))
    clear d0 df0 dB dL t0 t1 t2 t3 t4 tf0 tf1 tf2 tf3 tf4 tB tL e0 ef0 eB eL H3 H4 hW2b
    obtain ⟨tB, tL, hcB⟩ := HS.get (z := zt) H5; obtain ⟨t0, tf0⟩ := hcB 0; clear hcB
    have hLb := hLs _ (boxA zt #[.int .i64 9, .int .i64 k, .int .i64 n, .string ⟨s⟩, .int .i64 c] 40 :: l) _ (H5.sub pkQ) HPH.out
    go_upto_region 18 with (first
      | (go_at_call 55; (with_reducible refine (hA _).mono ?_); rintro e w6 ⟨rfl, rfl⟩)
      | (go_at_call 112; (with_reducible refine hLb.mono ?_); rintro e w7 ⟨rfl, H7⟩))
    have hW3b := hW3 _ (boxA z0 #[.pointer (some ⟨eb, 0, none⟩)] 171 :: boxA ze #[.int .i64 (P ls.length : Int)] 3 :: boxA eb (ewC wb (.slice (some ⟨b, off, none⟩) tn tc) (.slice LA ln lc) (.slice DA rn rc)) 122 :: boxA zt #[.int .i64 9, .int .i64 k, .int .i64 n, .string ⟨s⟩, .int .i64 c] 40 :: l) (H7.sub pkQ)
    go_wp2_with (go_at_call 110; (with_reducible refine hW3b.mono ?_); rintro e w8 ⟨rfl, H8⟩; obtain ⟨yB, yL, hcB⟩ := HS.get (z := ze) H8; obtain ⟨y0, yf0⟩ := hcB 0; clear hcB)
    go_ret
    refine ⟨ret_int (show ((P ls.length : Nat) : Int) = ((pe : Nat) : Int) by rw [HPN.out]), ?_⟩
    rw [HNW.out, show L ++ ([wdK word, wdK [40]] ++ commaW ls ++ [wdK [41]]) = L ++ [wdK word, wdK [40]] ++ commaW ls ++ [wdK [41]] by simp]
    exact H8.sub pkQ
  · have hlen : (wrs left right ks).length = ks.length := wrs_len left right ks
    have hkl := HKL.out
    have hA := fun w1 => xarity 10 w1
    have hAr : arity 10 = ((wrs left right ks).length : Int) := by rw [hlen, hkl]; rfl
    simp only [hAr] at hA
    obtain ⟨P, hP⟩ : ∃ P : Nat → Nat, P = fun i => p1 + (flats (ks.take i)).length := ⟨_, rfl⟩
    have hP0 : P 0 = p1 := by rw [hP]; simp [flats]
    have hPn : p1 + (flats ks).length = P (wrs left right ks).length := by rw [hP, hlen]; simp
    have hWs : ∀ i W, (wrs left right ks)[i]? = some W → WC w0 eb wb (.slice (some ⟨b, off, none⟩) tn tc) (.slice LA ln lc) (.slice DA rn rc) (P i) (P (i + 1)) W := fun i W h => by
      rw [wrs_at, Option.map_eq_some_iff] at h
      obtain ⟨x, hx, rfl⟩ := h
      rw [hP]
      exact HK.out.w i x hx
    have hnw : nodeW left right ⟨10, ⟨k, n, ⟨s⟩⟩, c⟩ ks (wrs left right ks) = [wdK (opW 10), wdK [40]] ++ commaW (wrs left right ks) ++ [wdK [41]] := by unfold nodeW; rw [if_neg (show ¬ (10 : Int) = 1 by decide), if_neg (show ¬ (10 : Int) = 2 by decide), if_pos (show isFun 10 = true by decide)]
    have hLL := HL.out
    rw [hnw] at hLL
    have HPN := Lib.hid (HPE.out.trans hPn)
    have HNW := Lib.hid (HV.out.trans hnw)
    clear HV hnw
    simp only [List.length_append, List.length_cons, List.length_nil] at hLL
    have hl4 : (wrs left right ks).length ≤ 1000 := by rw [hlen, hkl]; exact (show ar 10 ≤ 1000 by decide)
    generalize wrs left right ks = ls at hA hWs hLL hl4 HPN HNW
    have hWo := fun w1 => wordOf_c (w := w1) 10 (by decide) (by decide)
    rw [show ((10 : Nat) : Int) = 10 from rfl] at hWo
    have hwl : (opW 10).length ≤ 1000000 := by decide
    generalize opW 10 = word at hWo hwl HNW
    have hW2 := fun w1 l1 (H1 : HS w1 (wA wb L :: l1)) => write2_s word [40] hwl (by simp) (by omega) H1
    unfold WdPost at hW2
    have hLs := fun w1 l1 l2 (H1 : HS w1 (boxA z0 #[.pointer (some ⟨eb, 0, none⟩)] 171 :: boxA ze #[.int .i64 (P 0 : Int)] 3 :: boxA eb (ewC wb (.slice (some ⟨b, off, none⟩) tn tc) (.slice LA ln lc) (.slice DA rn rc)) 122 :: wA wb (L ++ [wdK word, wdK [40]]) :: l1)) (ho : Pick l1 (oldA w0) l2) => list_w (l := l1) ls P hWs (by simp only [List.length_append, List.length_cons, List.length_nil]; omega) hl4 H1 ho
    have hW3 := fun w1 l1 (H1 : HS w1 (wA wb (L ++ [wdK word, wdK [40]] ++ commaW ls) :: l1)) => write1_s [41] (by simp) (by simp only [List.length_append, List.length_cons, List.length_nil]; omega) H1
    unfold WdPost at hW3
    rw [← hP0] at H3 e0
    have HO3 : ∃ l2, Pick (boxA zt #[.int .i64 10, .int .i64 k, .int .i64 n, .string ⟨s⟩, .int .i64 c] 40 :: l) (oldA w0) l2 := ⟨_, .there HO.out⟩
    obtain ⟨l2, ho3⟩ := HO3
    have HPH := Lib.hid ho3
    clear hlen hkl hAr hP hP0 hPn hWs hLL ho3
    go_upto_region 17 with (first
      | (go_at_call 111; refine (hWo _).mono ?_; rintro e w4 ⟨rfl, hb4⟩; have H4 := H3.below hb4; have hW2b := hW2 _ _ (H4.sub (l' := wA wb L :: boxA z0 #[.pointer (some ⟨eb, 0, none⟩)] 171 :: boxA ze #[.int .i64 (P 0 : Int)] 3 :: boxA eb (ewC wb (.slice (some ⟨b, off, none⟩) tn tc) (.slice LA ln lc) (.slice DA rn rc)) 122 :: boxA zt #[.int .i64 10, .int .i64 k, .int .i64 n, .string ⟨s⟩, .int .i64 c] 40 :: l) pkQ))
      | (go_at_call 110; (with_reducible refine hW2b.mono ?_); rintro e w5 ⟨rfl, H5⟩))
    clear d0 df0 dB dL t0 t1 t2 t3 t4 tf0 tf1 tf2 tf3 tf4 tB tL e0 ef0 eB eL H3 H4 hW2b
    obtain ⟨tB, tL, hcB⟩ := HS.get (z := zt) H5; obtain ⟨t0, tf0⟩ := hcB 0; clear hcB
    have hLb := hLs _ (boxA zt #[.int .i64 10, .int .i64 k, .int .i64 n, .string ⟨s⟩, .int .i64 c] 40 :: l) _ (H5.sub pkQ) HPH.out
    go_upto_region 18 with (first
      | (go_at_call 55; (with_reducible refine (hA _).mono ?_); rintro e w6 ⟨rfl, rfl⟩)
      | (go_at_call 112; (with_reducible refine hLb.mono ?_); rintro e w7 ⟨rfl, H7⟩))
    have hW3b := hW3 _ (boxA z0 #[.pointer (some ⟨eb, 0, none⟩)] 171 :: boxA ze #[.int .i64 (P ls.length : Int)] 3 :: boxA eb (ewC wb (.slice (some ⟨b, off, none⟩) tn tc) (.slice LA ln lc) (.slice DA rn rc)) 122 :: boxA zt #[.int .i64 10, .int .i64 k, .int .i64 n, .string ⟨s⟩, .int .i64 c] 40 :: l) (H7.sub pkQ)
    go_wp2_with (go_at_call 110; (with_reducible refine hW3b.mono ?_); rintro e w8 ⟨rfl, H8⟩; obtain ⟨yB, yL, hcB⟩ := HS.get (z := ze) H8; obtain ⟨y0, yf0⟩ := hcB 0; clear hcB)
    go_ret
    refine ⟨ret_int (show ((P ls.length : Nat) : Int) = ((pe : Nat) : Int) by rw [HPN.out]), ?_⟩
    rw [HNW.out, show L ++ ([wdK word, wdK [40]] ++ commaW ls ++ [wdK [41]]) = L ++ [wdK word, wdK [40]] ++ commaW ls ++ [wdK [41]] by simp]
    exact H8.sub pkQ
  · have hlen : (wrs left right ks).length = ks.length := wrs_len left right ks
    have hkl := HKL.out
    have hA := fun w1 => xarity 16 w1
    have hAr : arity 16 = ((wrs left right ks).length : Int) := by rw [hlen, hkl]; rfl
    simp only [hAr] at hA
    obtain ⟨P, hP⟩ : ∃ P : Nat → Nat, P = fun i => p1 + (flats (ks.take i)).length := ⟨_, rfl⟩
    have hP0 : P 0 = p1 := by rw [hP]; simp [flats]
    have hPn : p1 + (flats ks).length = P (wrs left right ks).length := by rw [hP, hlen]; simp
    have hWs : ∀ i W, (wrs left right ks)[i]? = some W → WC w0 eb wb (.slice (some ⟨b, off, none⟩) tn tc) (.slice LA ln lc) (.slice DA rn rc) (P i) (P (i + 1)) W := fun i W h => by
      rw [wrs_at, Option.map_eq_some_iff] at h
      obtain ⟨x, hx, rfl⟩ := h
      rw [hP]
      exact HK.out.w i x hx
    have hnw : nodeW left right ⟨16, ⟨k, n, ⟨s⟩⟩, c⟩ ks (wrs left right ks) = [wdK (opW 16), wdK [40]] ++ commaW (wrs left right ks) ++ [wdK [41]] := by unfold nodeW; rw [if_neg (show ¬ (16 : Int) = 1 by decide), if_neg (show ¬ (16 : Int) = 2 by decide), if_pos (show isFun 16 = true by decide)]
    have hLL := HL.out
    rw [hnw] at hLL
    have HPN := Lib.hid (HPE.out.trans hPn)
    have HNW := Lib.hid (HV.out.trans hnw)
    clear HV hnw
    simp only [List.length_append, List.length_cons, List.length_nil] at hLL
    have hl4 : (wrs left right ks).length ≤ 1000 := by rw [hlen, hkl]; exact (show ar 16 ≤ 1000 by decide)
    generalize wrs left right ks = ls at hA hWs hLL hl4 HPN HNW
    have hWo := fun w1 => wordOf_c (w := w1) 16 (by decide) (by decide)
    rw [show ((16 : Nat) : Int) = 16 from rfl] at hWo
    have hwl : (opW 16).length ≤ 1000000 := by decide
    generalize opW 16 = word at hWo hwl HNW
    have hW2 := fun w1 l1 (H1 : HS w1 (wA wb L :: l1)) => write2_s word [40] hwl (by simp) (by omega) H1
    unfold WdPost at hW2
    have hLs := fun w1 l1 l2 (H1 : HS w1 (boxA z0 #[.pointer (some ⟨eb, 0, none⟩)] 171 :: boxA ze #[.int .i64 (P 0 : Int)] 3 :: boxA eb (ewC wb (.slice (some ⟨b, off, none⟩) tn tc) (.slice LA ln lc) (.slice DA rn rc)) 122 :: wA wb (L ++ [wdK word, wdK [40]]) :: l1)) (ho : Pick l1 (oldA w0) l2) => list_w (l := l1) ls P hWs (by simp only [List.length_append, List.length_cons, List.length_nil]; omega) hl4 H1 ho
    have hW3 := fun w1 l1 (H1 : HS w1 (wA wb (L ++ [wdK word, wdK [40]] ++ commaW ls) :: l1)) => write1_s [41] (by simp) (by simp only [List.length_append, List.length_cons, List.length_nil]; omega) H1
    unfold WdPost at hW3
    rw [← hP0] at H3 e0
    have HO3 : ∃ l2, Pick (boxA zt #[.int .i64 16, .int .i64 k, .int .i64 n, .string ⟨s⟩, .int .i64 c] 40 :: l) (oldA w0) l2 := ⟨_, .there HO.out⟩
    obtain ⟨l2, ho3⟩ := HO3
    have HPH := Lib.hid ho3
    clear hlen hkl hAr hP hP0 hPn hWs hLL ho3
    go_upto_region 17 with (first
      | (go_at_call 111; refine (hWo _).mono ?_; rintro e w4 ⟨rfl, hb4⟩; have H4 := H3.below hb4; have hW2b := hW2 _ _ (H4.sub (l' := wA wb L :: boxA z0 #[.pointer (some ⟨eb, 0, none⟩)] 171 :: boxA ze #[.int .i64 (P 0 : Int)] 3 :: boxA eb (ewC wb (.slice (some ⟨b, off, none⟩) tn tc) (.slice LA ln lc) (.slice DA rn rc)) 122 :: boxA zt #[.int .i64 16, .int .i64 k, .int .i64 n, .string ⟨s⟩, .int .i64 c] 40 :: l) pkQ))
      | (go_at_call 110; (with_reducible refine hW2b.mono ?_); rintro e w5 ⟨rfl, H5⟩))
    clear d0 df0 dB dL t0 t1 t2 t3 t4 tf0 tf1 tf2 tf3 tf4 tB tL e0 ef0 eB eL H3 H4 hW2b
    obtain ⟨tB, tL, hcB⟩ := HS.get (z := zt) H5; obtain ⟨t0, tf0⟩ := hcB 0; clear hcB
    have hLb := hLs _ (boxA zt #[.int .i64 16, .int .i64 k, .int .i64 n, .string ⟨s⟩, .int .i64 c] 40 :: l) _ (H5.sub pkQ) HPH.out
    go_upto_region 18 with (first
      | (go_at_call 55; (with_reducible refine (hA _).mono ?_); rintro e w6 ⟨rfl, rfl⟩)
      | (go_at_call 112; (with_reducible refine hLb.mono ?_); rintro e w7 ⟨rfl, H7⟩))
    have hW3b := hW3 _ (boxA z0 #[.pointer (some ⟨eb, 0, none⟩)] 171 :: boxA ze #[.int .i64 (P ls.length : Int)] 3 :: boxA eb (ewC wb (.slice (some ⟨b, off, none⟩) tn tc) (.slice LA ln lc) (.slice DA rn rc)) 122 :: boxA zt #[.int .i64 16, .int .i64 k, .int .i64 n, .string ⟨s⟩, .int .i64 c] 40 :: l) (H7.sub pkQ)
    go_wp2_with (go_at_call 110; (with_reducible refine hW3b.mono ?_); rintro e w8 ⟨rfl, H8⟩; obtain ⟨yB, yL, hcB⟩ := HS.get (z := ze) H8; obtain ⟨y0, yf0⟩ := hcB 0; clear hcB)
    go_ret
    refine ⟨ret_int (show ((P ls.length : Nat) : Int) = ((pe : Nat) : Int) by rw [HPN.out]), ?_⟩
    rw [HNW.out, show L ++ ([wdK word, wdK [40]] ++ commaW ls ++ [wdK [41]]) = L ++ [wdK word, wdK [40]] ++ commaW ls ++ [wdK [41]] by simp]
    exact H8.sub pkQ
  · have hlen : (wrs left right ks).length = ks.length := wrs_len left right ks
    have hkl := HKL.out
    have hA := fun w1 => xarity 17 w1
    have hAr : arity 17 = ((wrs left right ks).length : Int) := by rw [hlen, hkl]; rfl
    simp only [hAr] at hA
    obtain ⟨P, hP⟩ : ∃ P : Nat → Nat, P = fun i => p1 + (flats (ks.take i)).length := ⟨_, rfl⟩
    have hP0 : P 0 = p1 := by rw [hP]; simp [flats]
    have hPn : p1 + (flats ks).length = P (wrs left right ks).length := by rw [hP, hlen]; simp
    have hWs : ∀ i W, (wrs left right ks)[i]? = some W → WC w0 eb wb (.slice (some ⟨b, off, none⟩) tn tc) (.slice LA ln lc) (.slice DA rn rc) (P i) (P (i + 1)) W := fun i W h => by
      rw [wrs_at, Option.map_eq_some_iff] at h
      obtain ⟨x, hx, rfl⟩ := h
      rw [hP]
      exact HK.out.w i x hx
    have hnw : nodeW left right ⟨17, ⟨k, n, ⟨s⟩⟩, c⟩ ks (wrs left right ks) = [wdK (opW 17), wdK [40]] ++ commaW (wrs left right ks) ++ [wdK [41]] := by unfold nodeW; rw [if_neg (show ¬ (17 : Int) = 1 by decide), if_neg (show ¬ (17 : Int) = 2 by decide), if_pos (show isFun 17 = true by decide)]
    have hLL := HL.out
    rw [hnw] at hLL
    have HPN := Lib.hid (HPE.out.trans hPn)
    have HNW := Lib.hid (HV.out.trans hnw)
    clear HV hnw
    simp only [List.length_append, List.length_cons, List.length_nil] at hLL
    have hl4 : (wrs left right ks).length ≤ 1000 := by rw [hlen, hkl]; exact (show ar 17 ≤ 1000 by decide)
    generalize wrs left right ks = ls at hA hWs hLL hl4 HPN HNW
    have hWo := fun w1 => wordOf_c (w := w1) 17 (by decide) (by decide)
    rw [show ((17 : Nat) : Int) = 17 from rfl] at hWo
    have hwl : (opW 17).length ≤ 1000000 := by decide
    generalize opW 17 = word at hWo hwl HNW
    have hW2 := fun w1 l1 (H1 : HS w1 (wA wb L :: l1)) => write2_s word [40] hwl (by simp) (by omega) H1
    unfold WdPost at hW2
    have hLs := fun w1 l1 l2 (H1 : HS w1 (boxA z0 #[.pointer (some ⟨eb, 0, none⟩)] 171 :: boxA ze #[.int .i64 (P 0 : Int)] 3 :: boxA eb (ewC wb (.slice (some ⟨b, off, none⟩) tn tc) (.slice LA ln lc) (.slice DA rn rc)) 122 :: wA wb (L ++ [wdK word, wdK [40]]) :: l1)) (ho : Pick l1 (oldA w0) l2) => list_w (l := l1) ls P hWs (by simp only [List.length_append, List.length_cons, List.length_nil]; omega) hl4 H1 ho
    have hW3 := fun w1 l1 (H1 : HS w1 (wA wb (L ++ [wdK word, wdK [40]] ++ commaW ls) :: l1)) => write1_s [41] (by simp) (by simp only [List.length_append, List.length_cons, List.length_nil]; omega) H1
    unfold WdPost at hW3
    rw [← hP0] at H3 e0
    have HO3 : ∃ l2, Pick (boxA zt #[.int .i64 17, .int .i64 k, .int .i64 n, .string ⟨s⟩, .int .i64 c] 40 :: l) (oldA w0) l2 := ⟨_, .there HO.out⟩
    obtain ⟨l2, ho3⟩ := HO3
    have HPH := Lib.hid ho3
    clear hlen hkl hAr hP hP0 hPn hWs hLL ho3
    go_upto_region 17 with (first
      | (go_at_call 111; refine (hWo _).mono ?_; rintro e w4 ⟨rfl, hb4⟩; have H4 := H3.below hb4; have hW2b := hW2 _ _ (H4.sub (l' := wA wb L :: boxA z0 #[.pointer (some ⟨eb, 0, none⟩)] 171 :: boxA ze #[.int .i64 (P 0 : Int)] 3 :: boxA eb (ewC wb (.slice (some ⟨b, off, none⟩) tn tc) (.slice LA ln lc) (.slice DA rn rc)) 122 :: boxA zt #[.int .i64 17, .int .i64 k, .int .i64 n, .string ⟨s⟩, .int .i64 c] 40 :: l) pkQ))
      | (go_at_call 110; (with_reducible refine hW2b.mono ?_); rintro e w5 ⟨rfl, H5⟩))
    clear d0 df0 dB dL t0 t1 t2 t3 t4 tf0 tf1 tf2 tf3 tf4 tB tL e0 ef0 eB eL H3 H4 hW2b
    obtain ⟨tB, tL, hcB⟩ := HS.get (z := zt) H5; obtain ⟨t0, tf0⟩ := hcB 0; clear hcB
    have hLb := hLs _ (boxA zt #[.int .i64 17, .int .i64 k, .int .i64 n, .string ⟨s⟩, .int .i64 c] 40 :: l) _ (H5.sub pkQ) HPH.out
    go_upto_region 18 with (first
      | (go_at_call 55; (with_reducible refine (hA _).mono ?_); rintro e w6 ⟨rfl, rfl⟩)
      | (go_at_call 112; (with_reducible refine hLb.mono ?_); rintro e w7 ⟨rfl, H7⟩))
    have hW3b := hW3 _ (boxA z0 #[.pointer (some ⟨eb, 0, none⟩)] 171 :: boxA ze #[.int .i64 (P ls.length : Int)] 3 :: boxA eb (ewC wb (.slice (some ⟨b, off, none⟩) tn tc) (.slice LA ln lc) (.slice DA rn rc)) 122 :: boxA zt #[.int .i64 17, .int .i64 k, .int .i64 n, .string ⟨s⟩, .int .i64 c] 40 :: l) (H7.sub pkQ)
    go_wp2_with (go_at_call 110; (with_reducible refine hW3b.mono ?_); rintro e w8 ⟨rfl, H8⟩; obtain ⟨yB, yL, hcB⟩ := HS.get (z := ze) H8; obtain ⟨y0, yf0⟩ := hcB 0; clear hcB)
    go_ret
    refine ⟨ret_int (show ((P ls.length : Nat) : Int) = ((pe : Nat) : Int) by rw [HPN.out]), ?_⟩
    rw [HNW.out, show L ++ ([wdK word, wdK [40]] ++ commaW ls ++ [wdK [41]]) = L ++ [wdK word, wdK [40]] ++ commaW ls ++ [wdK [41]] by simp]
    exact H8.sub pkQ
  · have hlen : (wrs left right ks).length = ks.length := wrs_len left right ks
    have hkl := HKL.out
    have hA := fun w1 => xarity 18 w1
    have hAr : arity 18 = ((wrs left right ks).length : Int) := by rw [hlen, hkl]; rfl
    simp only [hAr] at hA
    obtain ⟨P, hP⟩ : ∃ P : Nat → Nat, P = fun i => p1 + (flats (ks.take i)).length := ⟨_, rfl⟩
    have hP0 : P 0 = p1 := by rw [hP]; simp [flats]
    have hPn : p1 + (flats ks).length = P (wrs left right ks).length := by rw [hP, hlen]; simp
    have hWs : ∀ i W, (wrs left right ks)[i]? = some W → WC w0 eb wb (.slice (some ⟨b, off, none⟩) tn tc) (.slice LA ln lc) (.slice DA rn rc) (P i) (P (i + 1)) W := fun i W h => by
      rw [wrs_at, Option.map_eq_some_iff] at h
      obtain ⟨x, hx, rfl⟩ := h
      rw [hP]
      exact HK.out.w i x hx
    have hnw : nodeW left right ⟨18, ⟨k, n, ⟨s⟩⟩, c⟩ ks (wrs left right ks) = [wdK (opW 18), wdK [40]] ++ commaW (wrs left right ks) ++ [wdK [41]] := by unfold nodeW; rw [if_neg (show ¬ (18 : Int) = 1 by decide), if_neg (show ¬ (18 : Int) = 2 by decide), if_pos (show isFun 18 = true by decide)]
    have hLL := HL.out
    rw [hnw] at hLL
    have HPN := Lib.hid (HPE.out.trans hPn)
    have HNW := Lib.hid (HV.out.trans hnw)
    clear HV hnw
    simp only [List.length_append, List.length_cons, List.length_nil] at hLL
    have hl4 : (wrs left right ks).length ≤ 1000 := by rw [hlen, hkl]; exact (show ar 18 ≤ 1000 by decide)
    generalize wrs left right ks = ls at hA hWs hLL hl4 HPN HNW
    have hWo := fun w1 => wordOf_c (w := w1) 18 (by decide) (by decide)
    rw [show ((18 : Nat) : Int) = 18 from rfl] at hWo
    have hwl : (opW 18).length ≤ 1000000 := by decide
    generalize opW 18 = word at hWo hwl HNW
    have hW2 := fun w1 l1 (H1 : HS w1 (wA wb L :: l1)) => write2_s word [40] hwl (by simp) (by omega) H1
    unfold WdPost at hW2
    have hLs := fun w1 l1 l2 (H1 : HS w1 (boxA z0 #[.pointer (some ⟨eb, 0, none⟩)] 171 :: boxA ze #[.int .i64 (P 0 : Int)] 3 :: boxA eb (ewC wb (.slice (some ⟨b, off, none⟩) tn tc) (.slice LA ln lc) (.slice DA rn rc)) 122 :: wA wb (L ++ [wdK word, wdK [40]]) :: l1)) (ho : Pick l1 (oldA w0) l2) => list_w (l := l1) ls P hWs (by simp only [List.length_append, List.length_cons, List.length_nil]; omega) hl4 H1 ho
    have hW3 := fun w1 l1 (H1 : HS w1 (wA wb (L ++ [wdK word, wdK [40]] ++ commaW ls) :: l1)) => write1_s [41] (by simp) (by simp only [List.length_append, List.length_cons, List.length_nil]; omega) H1
    unfold WdPost at hW3
    rw [← hP0] at H3 e0
    have HO3 : ∃ l2, Pick (boxA zt #[.int .i64 18, .int .i64 k, .int .i64 n, .string ⟨s⟩, .int .i64 c] 40 :: l) (oldA w0) l2 := ⟨_, .there HO.out⟩
    obtain ⟨l2, ho3⟩ := HO3
    have HPH := Lib.hid ho3
    clear hlen hkl hAr hP hP0 hPn hWs hLL ho3
    go_upto_region 17 with (first
      | (go_at_call 111; refine (hWo _).mono ?_; rintro e w4 ⟨rfl, hb4⟩; have H4 := H3.below hb4; have hW2b := hW2 _ _ (H4.sub (l' := wA wb L :: boxA z0 #[.pointer (some ⟨eb, 0, none⟩)] 171 :: boxA ze #[.int .i64 (P 0 : Int)] 3 :: boxA eb (ewC wb (.slice (some ⟨b, off, none⟩) tn tc) (.slice LA ln lc) (.slice DA rn rc)) 122 :: boxA zt #[.int .i64 18, .int .i64 k, .int .i64 n, .string ⟨s⟩, .int .i64 c] 40 :: l) pkQ))
      | (go_at_call 110; (with_reducible refine hW2b.mono ?_); rintro e w5 ⟨rfl, H5⟩))
    clear d0 df0 dB dL t0 t1 t2 t3 t4 tf0 tf1 tf2 tf3 tf4 tB tL e0 ef0 eB eL H3 H4 hW2b
    obtain ⟨tB, tL, hcB⟩ := HS.get (z := zt) H5; obtain ⟨t0, tf0⟩ := hcB 0; clear hcB
    have hLb := hLs _ (boxA zt #[.int .i64 18, .int .i64 k, .int .i64 n, .string ⟨s⟩, .int .i64 c] 40 :: l) _ (H5.sub pkQ) HPH.out
    go_upto_region 18 with (first
      | (go_at_call 55; (with_reducible refine (hA _).mono ?_); rintro e w6 ⟨rfl, rfl⟩)
      | (go_at_call 112; (with_reducible refine hLb.mono ?_); rintro e w7 ⟨rfl, H7⟩))
    have hW3b := hW3 _ (boxA z0 #[.pointer (some ⟨eb, 0, none⟩)] 171 :: boxA ze #[.int .i64 (P ls.length : Int)] 3 :: boxA eb (ewC wb (.slice (some ⟨b, off, none⟩) tn tc) (.slice LA ln lc) (.slice DA rn rc)) 122 :: boxA zt #[.int .i64 18, .int .i64 k, .int .i64 n, .string ⟨s⟩, .int .i64 c] 40 :: l) (H7.sub pkQ)
    go_wp2_with (go_at_call 110; (with_reducible refine hW3b.mono ?_); rintro e w8 ⟨rfl, H8⟩; obtain ⟨yB, yL, hcB⟩ := HS.get (z := ze) H8; obtain ⟨y0, yf0⟩ := hcB 0; clear hcB)
    go_ret
    refine ⟨ret_int (show ((P ls.length : Nat) : Int) = ((pe : Nat) : Int) by rw [HPN.out]), ?_⟩
    rw [HNW.out, show L ++ ([wdK word, wdK [40]] ++ commaW ls ++ [wdK [41]]) = L ++ [wdK word, wdK [40]] ++ commaW ls ++ [wdK [41]] by simp]
    exact H8.sub pkQ
  · obtain ⟨k0, k1, rfl⟩ : ∃ k0 k1, ks = [k0, k1] := len_two (by rw [HKL.out]; show ar op = 2; unfold ar; rw [(bin_facts hbin).2.1]; rfl)
    have hw0 : WC w0 eb wb (.slice (some ⟨b, off, none⟩) tn tc) (.slice LA ln lc) (.slice DA rn rc) p1 (p1 + k0.flat.length) (k0.wr left right) := by
      have := HK.out.w 0 k0 rfl
      simpa [flats] using this
    have hw1 : WC w0 eb wb (.slice (some ⟨b, off, none⟩) tn tc) (.slice LA ln lc) (.slice DA rn rc) (p1 + k0.flat.length) (p1 + (flats [k0, k1]).length) (k1.wr left right) := by
      have := HK.out.w 1 k1 rfl
      simpa [flats] using this
    have ht0 : es[p1]? = some k0.t ∧ 1 ≤ k0.t.op ∧ k0.t.op ≤ 18 := by
      have := HK.out.t 0 k0 rfl
      simpa [flats] using this
    have ht1 : es[p1 + k0.flat.length]? = some k1.t ∧ 1 ≤ k1.t.op ∧ k1.t.op ≤ 18 := by
      have := HK.out.t 1 k1 rfl
      simpa [flats] using this
    have hnw : nodeW left right ⟨op, ⟨k, n, ⟨s⟩⟩, c⟩ [k0, k1] (wrs left right [k0, k1]) = operT k0.t false (k0.wr left right) ++ wdK (opW op) :: operT k1.t false (k1.wr left right) := by
      rw [wrs, wrs, wrs]
      unfold nodeW
      rw [if_neg (show ¬ op = 1 by unfold isBin at hbin; omega), if_neg (show ¬ op = 2 by unfold isBin at hbin; omega), if_neg (show ¬ isFun op = true by rw [(bin_facts hbin).2.2]; simp)]
      rfl
    have hLL := HL.out
    rw [hnw] at hLL
    simp only [List.length_cons, List.length_append] at hLL
    have HNW := Lib.hid (HV.out.trans hnw)
    have HQ := Lib.hid HPE.out
    clear HV hnw HPE
    generalize p1 + (flats [k0, k1]).length = q2 at hw1 HQ
    generalize p1 + k0.flat.length = q1 at hw0 hw1 ht1
    have hWo := fun w1 => wordOf_i (w := w1) op (by unfold isBin at hbin; omega) (by unfold isBin at hbin; omega)
    have hwl : (opW op).length ≤ 1000000 := opW_len hbin
    generalize opW op = word at hWo hwl HNW
    have e1 : (op == 1) = false := by unfold isBin at hbin; simp; omega
    have e2 : (op == 2) = false := by unfold isBin at hbin; simp; omega
    have e9 : (op == 9) = false := by unfold isBin at hbin; simp; omega
    have e16 : (op == 16) = false := by unfold isBin at hbin; simp; omega
    have e10 : (op == 10) = false := by unfold isBin at hbin; simp; omega
    have e17 : (op == 17) = false := by unfold isBin at hbin; simp; omega
    have e18 : (op == 18) = false := by unfold isBin at hbin; simp; omega
    have e3 : (op == 3) = false := by unfold isBin at hbin; simp; omega
    have e13 : (op == 13) = false := by unfold isBin at hbin; simp; omega
    clear hbin
    have hO1 := operand_s (L := L) (l := boxA z0 #[.pointer (some ⟨eb, 0, none⟩)] 171 :: boxA zt #[.int .i64 op, .int .i64 k, .int .i64 n, .string ⟨s⟩, .int .i64 c] 40 :: boxA ze #[.int .i64 (p1 : Int)] 3 :: l) k0.t HT.out ht0.1 htn ht0.2.1 ht0.2.2 hw0 false (by omega) (H3.sub pkQ) (.there (.there (.there HO.out)))
    unfold WrPost at hO1
    generalize operT k0.t false (k0.wr left right) = a0 at hO1 hLL HNW
    have hW2 := fun w1 l1 (H1 : HS w1 (wA wb (L ++ a0) :: l1)) => write1_s word hwl (by rw [List.length_append]; omega) H1
    unfold WdPost at hW2
    have hO2 := fun w1 l1 l2 (H1 : HS w1 (boxA eb (ewC wb (.slice (some ⟨b, off, none⟩) tn tc) (.slice LA ln lc) (.slice DA rn rc)) 122 :: wA wb (L ++ a0 ++ [wdK word]) :: l1)) (ho : Pick l1 (oldA w0) l2) => operand_s (l := l1) k1.t HT.out ht1.1 htn ht1.2.1 ht1.2.2 hw1 false (by simp only [List.length_append, List.length_cons, List.length_nil]; omega) H1 ho
    unfold WrPost at hO2
    have HO3 : ∃ l2, Pick (boxA z0 #[.pointer (some ⟨eb, 0, none⟩)] 171 :: boxA zt #[.int .i64 op, .int .i64 k, .int .i64 n, .string ⟨s⟩, .int .i64 c] 40 :: boxA ze #[.int .i64 (q1 : Int)] 3 :: l) (oldA w0) l2 := ⟨_, .there (.there (.there HO.out))⟩
    obtain ⟨l2, ho3⟩ := HO3
    have HPH := Lib.hid ho3
    clear hw0 hw1 ht0 ht1 hLL ho3
    go_upto_region 5 with (go_at_call 114; (with_reducible refine hO1.mono ?_); rintro e w4 ⟨rfl, H4⟩; obtain ⟨yB, yL, hcB⟩ := HS.get (z := ze) H4; obtain ⟨y0, yf0⟩ := hcB 0; clear hcB)
    have H5 := (H4.storeTo (z := ze) pkQ 0 (.int .i64 (q1 : Int)) #[.int .i64 (q1 : Int)] rfl)
    clear d0 df0 dB dL t0 t1 t2 t3 t4 tf0 tf1 tf2 tf3 tf4 tB tL e0 ef0 eB eL H3 H4 y0 yf0 yB yL hO1
    generalize World.setCell _ _ _ = w5 at H5 ⊢
    obtain ⟨tB, tL, hcB⟩ := HS.get (z := zt) H5; obtain ⟨t0, tf0⟩ := hcB 0; clear hcB
    go_upto_region 6 with (first
      | (go_at_call 111; refine (hWo _).mono ?_; rintro e w6 ⟨rfl, hb6⟩; have H6 := H5.below hb6; have hW2b := hW2 _ _ (H6.sub (l' := wA wb (L ++ a0) :: boxA eb (ewC wb (.slice (some ⟨b, off, none⟩) tn tc) (.slice LA ln lc) (.slice DA rn rc)) 122 :: boxA z0 #[.pointer (some ⟨eb, 0, none⟩)] 171 :: boxA zt #[.int .i64 op, .int .i64 k, .int .i64 n, .string ⟨s⟩, .int .i64 c] 40 :: boxA ze #[.int .i64 (q1 : Int)] 3 :: l) pkQ))
      | (go_at_call 110; (with_reducible refine hW2b.mono ?_); rintro e w7 ⟨rfl, H7⟩))
    clear t0 tf0 tB tL H5 H6 hW2b
    obtain ⟨dB, dL, hcB⟩ := HS.get (z := z0) H7; obtain ⟨d0, df0⟩ := hcB 0; clear hcB
    obtain ⟨eB, eL, hcB⟩ := HS.get (z := ze) H7; obtain ⟨e0, ef0⟩ := hcB 0; clear hcB
    have hOb := hO2 _ (boxA z0 #[.pointer (some ⟨eb, 0, none⟩)] 171 :: boxA zt #[.int .i64 op, .int .i64 k, .int .i64 n, .string ⟨s⟩, .int .i64 c] 40 :: boxA ze #[.int .i64 (q1 : Int)] 3 :: l) _ (H7.sub pkQ) HPH.out
    go_wp2_with (go_at_call 114; (with_reducible refine hOb.mono ?_); rintro e w8 ⟨rfl, H8⟩; obtain ⟨yB, yL, hcB⟩ := HS.get (z := ze) H8; obtain ⟨y0, yf0⟩ := hcB 0; clear hcB)
    go_ret
    refine ⟨ret_int (show ((q2 : Nat) : Int) = ((pe : Nat) : Int) by rw [HQ.out]), ?_⟩
    rw [HNW.out, show L ++ (a0 ++ wdK word :: operT k1.t false (k1.wr left right)) = L ++ a0 ++ [wdK word] ++ operT k1.t false (k1.wr left right) by simp]
    exact (H8.store (z := ze) pkQ 0 (.int .i64 (q2 : Int))).sub pkQ
end Go.Proofs.YtpnfbehbheddeaaGreatDoor
