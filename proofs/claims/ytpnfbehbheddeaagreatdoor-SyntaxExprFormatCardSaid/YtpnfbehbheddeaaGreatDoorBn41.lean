/- The writer of tokens as a part of memory; write and number. Words of at most 1000000 bytes, at most 1000000 tokens. number of a writer; columnName, wordOf and isBare of the program. At most 1001000 tokens. What the writer of expressions has written, the parser reads again: the trees. Plain Lean, no program in sight. What the writer of expressions has written, the parser reads again: columns and functions. Plain Lean, no program in sight. What the writer of expressions has written, the parser reads again: all trees; the columns are found again. Plain Lean, no program in sight. What FormatExpr has written, ParseExpr reads again, from bytes to bytes: plain Lean, no program in sight. The tree is well-formed and small, its columns have names, and each name is found where it stands. -/
import Derived.Test.YtpnfbehbheddeaaGreatDoorBn40
import Derived.Test.YtpnfbehbheddeaaGreatDoorBn09
import Derived.Test.YtpnfbehbheddeaaGreatDoorBn19
import Derived.Test.YtpnfbehbheddeaaGreatDoorBn12
namespace Go.Proofs.YtpnfbehbheddeaaGreatDoor
set_option maxRecDepth 100000
set_option maxHeartbeats 8000000
set_option linter.unusedVariables false
set_option linter.unusedSimpArgs false
open Go.RowKit
def wA (wb : Nat) (L : List Tk) : HA := exA fun tv : Value => allA [boxA wb #[tv] 92, rowA 100 4 tv L.length (L.flatMap Tk.cells)]
section
variable {w : World} {l l' : List HA} {wb : Nat} {L : List Tk}
theorem HS.wOpen (H : HS w l) (hp : Pick l (wA wb L) l') : ∃ A c, HS w (boxA wb #[.slice A L.length c] 92 :: rowA 100 4 (.slice A L.length c) L.length (L.flatMap Tk.cells) :: l') := by
  unfold wA at hp
  obtain ⟨tv, h⟩ := H.ex hp
  have h2 := h.all_
  simp only [List.cons_append, List.nil_append] at h2
  obtain ⟨A, c, rfl⟩ := h2.slice (v := tv) pkQ
  exact ⟨A, c, h2⟩
theorem HS.wClose {tv : Value} (H : HS w (boxA wb #[tv] 92 :: rowA 100 4 tv L.length (L.flatMap Tk.cells) :: l)) : HS w (wA wb L :: l) := HS.mkEx (x := tv) (HS.mkAll (m := [boxA wb #[tv] 92, rowA 100 4 tv L.length (L.flatMap Tk.cells)]) H)
theorem HS.wNew (H : HS w l) : HS (w.alloc (.cells #[.slice none 0 0] 92)) (wA w.heap.size [] :: l) := HS.wClose (L := []) ((H.rowNil 100 4).alloc #[.slice none 0 0] 92)
theorem wdK_cells (s : Bs) (b : Bool) (h : isNameB s = b) : (wdK s).cells = [.int .i64 (if b then 1 else 4), .string ⟨s.toArray⟩, .int .i64 0, .int .i64 0] := by
  unfold Tk.cells wdK
  rw [h]
theorem HS.wPush {tv : Value} {t : Tk} {xs : List Value} (hc : t.cells = xs) (H : HS w (boxA wb #[tv] 92 :: rowA 100 4 tv (L.length + 1) (L.flatMap Tk.cells ++ xs) :: l)) : HS w (wA wb (L ++ [t]) :: l) := by
  refine HS.wClose (tv := tv) ?_
  rw [List.length_append, List.flatMap_append, List.flatMap_cons, List.flatMap_nil, List.append_nil, hc]
  exact H
end
theorem stTk : SliceTy Tryz.prog 47 100 4 40 := SliceTy.mk' Tryz.underlying47 (z := .agg #[.int .i64 0, .string ⟨#[]⟩, .int .i64 0, .int .i64 0]) (by kernel_rfl) rfl (by decide) (by decide)
theorem write_s {w : World} {l : List HA} {wb z : Nat} {L : List Tk} (ws : List Bs) (hw : ∀ s ∈ ws, s.length ≤ 1000000) (hn : ws.length ≤ 1000) (hL : L.length ≤ 1000000) (H : HS w (boxA z (ws.map strV).toArray 9 :: wA wb L :: l)) :
    Calls Tryz.prog 110 #[.pointer (some ⟨wb, 0, none⟩), .slice (some ⟨z, 0, none⟩) ws.length ws.length] w fun e w' => e = .returned (.tuple #[]) ∧ HS w' (wA wb (L ++ ws.map wdK) :: l) := by
  have HW := Lib.hid hw
  clear hw
  go_enter Tryz.func110, Tryz.ntmps110
  go_upto_region 1 with fail
  go_loopw [9] (fun v9 wr => ∃ i : Nat, v9 = .int .i64 (i : Int) ∧ i ≤ ws.length ∧ HS wr (boxA z (ws.map strV).toArray 9 :: wA wb (L ++ (ws.take i).map wdK) :: l)) (fun v9 _ => ws.length - (intOf v9).toNat)
  case atStart => exact ⟨0, rfl, by omega, by rw [List.take_zero, List.map_nil, List.append_nil]; exact H⟩
  case round =>
    obtain ⟨i, rfl, hi, Hr⟩ := hrel
    clear H
    by_cases hlt : i < ws.length
    · have h1 : (i : Int) < (ws.length : Int) := by omega
      have h0 : (0 : Int) ≤ (i : Int) := by omega
      obtain ⟨s, hs⟩ : ∃ s, ws[i]? = some s := ⟨_, List.getElem?_eq_getElem hlt⟩
      have hsl := HW.out s (List.mem_of_getElem? hs)
      have hcell := Hr.boxAt (.here) i (u := .string ⟨s.toArray⟩) (by simp [hs, strV])
      have hM : L ++ (ws.take (i + 1)).map wdK = (L ++ (ws.take i).map wdK) ++ [wdK s] := by rw [List.take_add_one, hs, List.map_append, List.append_assoc]; rfl
      have HM := Lib.hid hM
      have hLn : (L ++ (ws.take i).map wdK).length ≤ 1001000 := by rw [List.length_append, List.length_map, List.length_take]; omega
      have hI := fun w1 => xisName ⟨s.toArray⟩ w1 (by show s.toArray.size ≤ _; simp; omega)
      dsimp only at hI
      generalize L ++ (ws.take i).map wdK = M at Hr HM hLn
      obtain ⟨A, c, H2⟩ := Hr.wOpen (wb := wb) (L := M) pkQ
      obtain ⟨dB, dL, hcB⟩ := HS.get (z := wb) H2; obtain ⟨d0, df0⟩ := hcB 0; clear hcB
      clear hM hs Hr
      cases hb : isNameB s with
      | true =>
        rw [hb] at hI
        have HC := Lib.hid (wdK_cells s _ hb)
        clear hb
        go_wp2_with (first
          | (go_at_call 32; refine (hI _).mono ?_; rintro e w1 ⟨rfl, rfl⟩)
          | (at_builtin; refine wpList_appAny (v := .slice A M.length c) rfl _ _ stTk (by rfl) (by rfl) ((H2.alloc #[.int .i64 1, .string ⟨s.toArray⟩, .int .i64 0, .int .i64 0] 100).row (v := .slice A M.length c) pkQ) (by rfl) (news := [.int .i64 1, .string ⟨s.toArray⟩, .int .i64 0, .int .i64 0]) (by rfl) (litRd (heap_alloc_new _ _)) (fun h => by cases h) (by intro u hu; simp at hu; (repeat' (rcases hu with rfl | hu)); all_goals (first | rfl | (subst hu; rfl))) (by omega) (by first | exact Nat.zero_le _ | omega | (simp; omega)) ?_; intro vA wA ownA gA atA; have H3 := (H2.alloc #[.int .i64 1, .string ⟨s.toArray⟩, .int .i64 0, .int .i64 0] 100).app (v := .slice A M.length c) pkQ ownA gA atA; obtain ⟨kB, kL, hcB⟩ := HS.get (z := wb) H3; obtain ⟨k0, kf0⟩ := hcB 0; clear hcB; obtain ⟨AB, cB, rfl, -, -⟩ := own_slice ownA; clear ownA gA atA))
        go_roundw
        case rel =>
          refine ⟨i + 1, by go_num, by omega, ?_⟩
          rw [HM.out]
          exact (HS.wPush HC.out ((H3.storeTo (z := wb) pkQ 0 (.slice AB (M.length + 1) cB) #[.slice AB (M.length + 1) cB] rfl).sub (l' := boxA wb #[.slice AB (M.length + 1) cB] 92 :: rowA 100 4 (.slice AB (M.length + 1) cB) (M.length + 1) (M.flatMap Tk.cells ++ [.int .i64 1, .string ⟨s.toArray⟩, .int .i64 0, .int .i64 0]) :: boxA z (ws.map strV).toArray 9 :: l) pkQ)).sub pkQ
        case measure => simp [intOf]; omega
      | false =>
        rw [hb] at hI
        have HC := Lib.hid (wdK_cells s _ hb)
        clear hb
        go_wp2_with (first
          | (go_at_call 32; refine (hI _).mono ?_; rintro e w1 ⟨rfl, rfl⟩)
          | (at_builtin; refine wpList_appAny (v := .slice A M.length c) rfl _ _ stTk (by rfl) (by rfl) ((H2.alloc #[.int .i64 4, .string ⟨s.toArray⟩, .int .i64 0, .int .i64 0] 100).row (v := .slice A M.length c) pkQ) (by rfl) (news := [.int .i64 4, .string ⟨s.toArray⟩, .int .i64 0, .int .i64 0]) (by rfl) (litRd (heap_alloc_new _ _)) (fun h => by cases h) (by intro u hu; simp at hu; (repeat' (rcases hu with rfl | hu)); all_goals (first | rfl | (subst hu; rfl))) (by omega) (by first | exact Nat.zero_le _ | omega | (simp; omega)) ?_; intro vA wA ownA gA atA; have H3 := (H2.alloc #[.int .i64 4, .string ⟨s.toArray⟩, .int .i64 0, .int .i64 0] 100).app (v := .slice A M.length c) pkQ ownA gA atA; obtain ⟨kB, kL, hcB⟩ := HS.get (z := wb) H3; obtain ⟨k0, kf0⟩ := hcB 0; clear hcB; obtain ⟨AB, cB, rfl, -, -⟩ := own_slice ownA; clear ownA gA atA))
        go_roundw
        case rel =>
          refine ⟨i + 1, by go_num, by omega, ?_⟩
          rw [HM.out]
          exact (HS.wPush HC.out ((H3.storeTo (z := wb) pkQ 0 (.slice AB (M.length + 1) cB) #[.slice AB (M.length + 1) cB] rfl).sub (l' := boxA wb #[.slice AB (M.length + 1) cB] 92 :: rowA 100 4 (.slice AB (M.length + 1) cB) (M.length + 1) (M.flatMap Tk.cells ++ [.int .i64 4, .string ⟨s.toArray⟩, .int .i64 0, .int .i64 0]) :: boxA z (ws.map strV).toArray 9 :: l) pkQ)).sub pkQ
        case measure => simp [intOf]; omega
    · obtain rfl : i = ws.length := by omega
      have h1 : ¬ (ws.length : Int) < (ws.length : Int) := by omega
      rw [List.take_of_length_le (Nat.le_refl _)] at Hr
      go_wp2_with fail
      go_end0
      exact ⟨rfl, Hr.tail⟩
theorem number_w {w : World} {l : List HA} {wb : Nat} {L : List Tk} (n : Int) (hL : L.length ≤ 1001000) (H : HS w (wA wb L :: l)) :
    Calls Tryz.prog 172 #[.pointer (some ⟨wb, 0, none⟩), .int .i64 n] w fun e w' => e = .returned (.tuple #[]) ∧ HS w' (wA wb (L ++ [numK n]) :: l) := by
  obtain ⟨A, c, H2⟩ := H.wOpen (wb := wb) (L := L) pkQ
  obtain ⟨dB, dL, hcB⟩ := HS.get (z := wb) H2; obtain ⟨d0, df0⟩ := hcB 0; clear hcB
  clear H
  go_enter Tryz.func172, Tryz.ntmps172
  go_wp2_with (at_builtin; refine wpList_appAny (v := .slice A L.length c) rfl _ _ stTk (by rfl) (by rfl) ((H2.alloc #[.int .i64 2, .string ⟨#[]⟩, .int .i64 n, .int .i64 0] 100).row (v := .slice A L.length c) pkQ) (by rfl) (news := [.int .i64 2, .string ⟨#[]⟩, .int .i64 n, .int .i64 0]) (by rfl) (litRd (heap_alloc_new _ _)) (fun h => by cases h) (by intro u hu; simp at hu; (repeat' (rcases hu with rfl | hu)); all_goals (first | rfl | (subst hu; rfl))) (by omega) (by first | exact Nat.zero_le _ | omega | (simp; omega)) ?_; intro vA wA ownA gA atA; have H3 := (H2.alloc #[.int .i64 2, .string ⟨#[]⟩, .int .i64 n, .int .i64 0] 100).app (v := .slice A L.length c) pkQ ownA gA atA; obtain ⟨kB, kL, hcB⟩ := HS.get (z := wb) H3; obtain ⟨k0, kf0⟩ := hcB 0; clear hcB; obtain ⟨AB, cB, rfl, -, -⟩ := own_slice ownA; clear ownA gA atA)
  go_end0
  refine ⟨rfl, ?_⟩
  exact (HS.wPush rfl ((H3.storeTo (z := wb) pkQ 0 (.slice AB (L.length + 1) cB) #[.slice AB (L.length + 1) cB] rfl).sub (l' := boxA wb #[.slice AB (L.length + 1) cB] 92 :: rowA 100 4 (.slice AB (L.length + 1) cB) (L.length + 1) (L.flatMap Tk.cells ++ [.int .i64 2, .string ⟨#[]⟩, .int .i64 n, .int .i64 0]) :: l) pkQ)).sub pkQ
theorem columnName_c {w : World} {LA DA : Option Addr} {ln lc rn rc : Nat} {left right : List Bs} (c : Nat) (hL : RowB w w.heap.size LA ln left) (hD : RowB w w.heap.size DA rn right) (_hln : ln ≤ 1000000) (hrn : rn ≤ 1000000) (hc : c < ln + rn) :
    Calls Tryz.prog 33 #[.int .i64 (c : Int), .slice LA ln lc, .slice DA rn rc] w fun e w' => e = .returned (.string ⟨(colName left right c).toArray⟩) ∧ w' = w := by
  have hll := hL.len
  have hrl := hD.len
  have h0 : (0 : Int) ≤ (c : Int) := by omega
  by_cases hlt : c < ln
  · obtain ⟨b, off, s, rfl, hb, hs, hcell⟩ := hL.at_ 1 (fun _ => rfl) (by omega) hlt
    have hcell := hcell 0 _ rfl
    rw [Nat.mul_one, Nat.add_zero] at hcell
    have HN := Lib.hid (show colName left right c = s by unfold colName; rw [if_pos (by omega), List.getD_eq_getElem?_getD, hs]; rfl)
    have h1 : (c : Int) < (ln : Int) := by omega
    clear hs hL hD hll hrl
    go_enter Tryz.func33, Tryz.ntmps33
    go_wp2_with fail
    go_ret
    exact ⟨by rw [HN.out]; rfl, rfl⟩
  · obtain ⟨b, off, s, rfl, hb, hs, hcell⟩ := hD.at_ 1 (fun _ => rfl) (by omega) (show c - ln < rn by omega)
    have hcell := hcell 0 _ rfl
    rw [Nat.mul_one, Nat.add_zero] at hcell
    have HN := Lib.hid (show colName left right c = s by unfold colName; rw [if_neg (by omega), List.getD_eq_getElem?_getD, hll, hs]; rfl)
    have h1 : ¬ (c : Int) < (ln : Int) := by omega
    have hw : IntKind.i64.wrap ((c : Int) - (ln : Int)) = ((c - ln : Nat) : Int) := by rw [IntWalk.i64_in _ (by omega)]; omega
    have h2 : (0 : Int) ≤ ((c - ln : Nat) : Int) := by omega
    have h3 : ((c - ln : Nat) : Int) < (rn : Int) := by omega
    clear hs hL hD hll hrl hlt
    go_enter Tryz.func33, Tryz.ntmps33
    go_wp2_with fail
    go_ret
    exact ⟨by rw [HN.out]; rfl, rfl⟩
def words19 : Array Value := #[.string ⟨#[]⟩, .string ⟨#[]⟩, .string ⟨#[]⟩, .string ⟨#[45]⟩, .string ⟨#[43]⟩, .string ⟨#[45]⟩, .string ⟨#[42]⟩, .string ⟨#[47]⟩, .string ⟨#[43, 43]⟩, .string ⟨#[108, 101, 110, 103, 116, 104]⟩, .string ⟨#[112, 114, 101, 102, 105, 120]⟩, .string ⟨#[61]⟩, .string ⟨#[60]⟩, .string ⟨#[110, 111, 116]⟩, .string ⟨#[97, 110, 100]⟩, .string ⟨#[111, 114]⟩, .string ⟨#[105, 115, 110, 117, 108, 108]⟩, .string ⟨#[99, 111, 97, 108, 101, 115, 99, 101]⟩, .string ⟨#[105, 102]⟩]
theorem words_at (k : Nat) (h1 : 3 ≤ k) (h2 : k ≤ 18) : words19[k]? = some (.string ⟨(opW (k : Int)).toArray⟩) := by
  have h : k = 3 ∨ k = 4 ∨ k = 5 ∨ k = 6 ∨ k = 7 ∨ k = 8 ∨ k = 9 ∨ k = 10 ∨ k = 11 ∨ k = 12 ∨ k = 13 ∨ k = 14 ∨ k = 15 ∨ k = 16 ∨ k = 17 ∨ k = 18 := by omega
  rcases h with rfl | rfl | rfl | rfl | rfl | rfl | rfl | rfl | rfl | rfl | rfl | rfl | rfl | rfl | rfl | rfl <;> rfl
theorem wordOf_c {w : World} (k : Nat) (h1 : 3 ≤ k) (h2 : k ≤ 18) : Calls Tryz.prog 111 #[.int .i64 (k : Int)] w fun e w' => e = .returned (.string ⟨(opW (k : Int)).toArray⟩) ∧ Below w.heap.size w w' := by
  have hk := words_at k h1 h2
  have hk0 : (0 : Int) ≤ (k : Int) := by omega
  have hk19 : (k : Int) < 19 := by omega
  generalize (⟨(opW (k : Int)).toArray⟩ : ByteArray) = s at hk
  go_enter Tryz.func111, Tryz.ntmps111
  go_wp2_with (first
    | (refine wpList_buildTo rfl _ _ rfl words19 (by as_aux_lemma => kernel_rfl) ?_)
    | (refine wpList_store_row rfl 247 (.tmp 3) (.tmp 4) rfl w.heap.size words19 rfl rfl 247 _ (heap_alloc_new w _) (by as_aux_lemma => kernel_rfl) (by as_aux_lemma => kernel_rfl) (by as_aux_lemma => kernel_rfl) ?_
       have hcW := (cell_setRow_same _ w.heap.size k _ words19 _ _ (heap_alloc_new w (.cells #[.string ⟨#[]⟩, .string ⟨#[]⟩, .string ⟨#[]⟩, .string ⟨#[]⟩, .string ⟨#[]⟩, .string ⟨#[]⟩, .string ⟨#[]⟩, .string ⟨#[]⟩, .string ⟨#[]⟩, .string ⟨#[]⟩, .string ⟨#[]⟩, .string ⟨#[]⟩, .string ⟨#[]⟩, .string ⟨#[]⟩, .string ⟨#[]⟩, .string ⟨#[]⟩, .string ⟨#[]⟩, .string ⟨#[]⟩, .string ⟨#[]⟩] 247))).trans hk
       have hbW := below_setRow ((Below.refl w.heap.size w).alloc (Nat.le_refl _) (.cells #[.string ⟨#[]⟩, .string ⟨#[]⟩, .string ⟨#[]⟩, .string ⟨#[]⟩, .string ⟨#[]⟩, .string ⟨#[]⟩, .string ⟨#[]⟩, .string ⟨#[]⟩, .string ⟨#[]⟩, .string ⟨#[]⟩, .string ⟨#[]⟩, .string ⟨#[]⟩, .string ⟨#[]⟩, .string ⟨#[]⟩, .string ⟨#[]⟩, .string ⟨#[]⟩, .string ⟨#[]⟩, .string ⟨#[]⟩, .string ⟨#[]⟩] 247)) (Nat.le_refl _) words19
       generalize World.setRow _ _ _ = W at hcW hbW ⊢))
  go_ret
  exact ⟨rfl, by (exact belQ)⟩
mutual
def X.cols : X → List Nat
  | .node t ks => (if t.op = 2 then [t.c.toNat] else []) ++ colss ks
def colss : List X → List Nat
  | [] => []
  | x :: l => x.cols ++ colss l
end
def okCol (left right : List Bs) (c : Nat) : Prop := isNameB (colName left right c) = true
theorem flat_pos (x : X) : 1 ≤ x.flat.length := by
  cases x
  rw [X.flat_node, List.length_cons]
  omega
theorem node_const {t : T} (h : t.ok = true) (h1 : t.op = 1) : t = ⟨1, t.v, 0⟩ ∧ t.v.ok = true ∧ t.v.k ≠ 0 := by
  unfold T.ok at h
  rw [h1] at h
  simp only [if_pos, Bool.and_eq_true, beq_iff_eq, bne_iff_ne, ne_eq] at h
  obtain ⟨-, h2, h3, h4⟩ := h
  obtain ⟨op, v, c⟩ := t
  simp only at h1 h2 h3 h4 ⊢
  exact ⟨by rw [h1, h2], h4, h3⟩
theorem node_col {t : T} (h : t.ok = true) (h1 : t.op = 2) : t = ⟨2, V.null, t.c⟩ ∧ 0 ≤ t.c := by
  unfold T.ok at h
  rw [h1] at h
  simp only [show ((2 : Int) = 1) = False by decide, if_false, if_true, Bool.and_eq_true, decide_eq_true_eq, V.beq_iff] at h
  obtain ⟨-, h2, h3⟩ := h
  obtain ⟨op, v, c⟩ := t
  simp only at h1 h2 h3 ⊢
  exact ⟨by rw [h1, h3], h2⟩
theorem node_op {t : T} (h : t.ok = true) (h1 : t.op ≠ 1) (h2 : t.op ≠ 2) : t = ⟨t.op, V.null, 0⟩ ∧ 3 ≤ t.op ∧ t.op ≤ 18 := by
  unfold T.ok at h
  rw [if_neg h1, if_neg h2] at h
  simp only [Bool.and_eq_true, decide_eq_true_eq, beq_iff_eq, V.beq_iff] at h
  obtain ⟨h3, h4, h5⟩ := h
  have := arity_known h3
  obtain ⟨op, v, c⟩ := t
  simp only at h1 h2 h3 h4 h5 this ⊢
  exact ⟨by rw [h4, h5], by omega, by omega⟩
def isBin (op : Int) : Prop := op = 4 ∨ op = 5 ∨ op = 6 ∨ op = 7 ∨ op = 8 ∨ op = 11 ∨ op = 12 ∨ op = 14 ∨ op = 15
theorem op_kinds {op : Int} (h1 : op ≠ 1) (h2 : op ≠ 2) (h3 : 3 ≤ op) (h4 : op ≤ 18) : isFun op = true ∨ op = 3 ∨ op = 13 ∨ isBin op := by
  unfold isFun isBin
  have : op = 3 ∨ op = 4 ∨ op = 5 ∨ op = 6 ∨ op = 7 ∨ op = 8 ∨ op = 9 ∨ op = 10 ∨ op = 11 ∨ op = 12 ∨ op = 13 ∨ op = 14 ∨ op = 15 ∨ op = 16 ∨ op = 17 ∨ op = 18 := by omega
  rcases this with rfl | rfl | rfl | rfl | rfl | rfl | rfl | rfl | rfl | rfl | rfl | rfl | rfl | rfl | rfl | rfl <;> decide
theorem bin_facts {op : Int} (h : isBin op) : opP (opW op) = op ∧ arity op = 2 ∧ isFun op = false := by
  unfold isBin at h
  rcases h with rfl | rfl | rfl | rfl | rfl | rfl | rfl | rfl | rfl <;> decide
section
variable {e : Src} {left right : List Bs}
def moreW (left right : List Bs) : List X → List Tk
  | [] => []
  | x :: l => wdK [44] :: (x.wr left right ++ moreW left right l)
theorem comma_more (a : X) : ∀ l : List X, commaW (wrs left right (a :: l)) = a.wr left right ++ moreW left right l
  | [] => by simp [wrs, commaW, moreW]
  | b :: l => by
    have := comma_more b l
    rw [wrs] at this
    rw [wrs, wrs, commaW, this, moreW]
theorem flats_mem {x : X} : ∀ {l : List X}, x ∈ l → x.flat.length + l.length ≤ (flats l).length + 1
  | [], h => by cases h
  | y :: l, h => by
    rw [flats, List.length_append, List.length_cons]
    rcases List.mem_cons.1 h with rfl | h
    · have : ∀ l : List X, l.length ≤ (flats l).length := by
        intro l
        induction l with
        | nil => simp
        | cons z l ih => rw [flats, List.length_append, List.length_cons]; have := flat_pos z; omega
      have := this l
      omega
    · have := flats_mem h
      have := flat_pos y
      omega
end
theorem wfs_mem {k : X} : ∀ {ks : List X}, wfs ks = true → k ∈ ks → k.wf = true
  | [], _, h => by cases h
  | x :: l, hw, h => by
    rw [wfs, Bool.and_eq_true] at hw
    rcases List.mem_cons.1 h with rfl | h
    · exact hw.1
    · exact wfs_mem hw.2 h
theorem colss_mem {k : X} {c : Nat} (hc : c ∈ k.cols) : ∀ {ks : List X}, k ∈ ks → c ∈ colss ks
  | [], h => by cases h
  | x :: l, h => by
    rw [colss]
    rcases List.mem_cons.1 h with rfl | h
    · exact List.mem_append_left _ hc
    · exact List.mem_append_right _ (colss_mem hc h)
theorem X.ind {P : Nat → Prop} {M : X → Prop} (h : ∀ t ks, t.ok = true → ks.length = ar t.op → (t.op = 2 → P t.c.toNat) → (∀ k ∈ ks, k.wf = true ∧ (∀ c ∈ k.cols, P c) ∧ M k) → M (.node t ks)) : ∀ (n : Nat) (x : X), x.flat.length ≤ n → x.wf = true → (∀ c ∈ x.cols, P c) → M x
  | 0, x, hn, _, _ => by have := flat_pos x; omega
  | n + 1, .node t ks, hn, hw, hc => by
    rw [X.wf, Bool.and_eq_true, Bool.and_eq_true, decide_eq_true_eq] at hw
    obtain ⟨h1, h2, h3⟩ := hw
    rw [X.cols] at hc
    refine h t ks h1 h2 (fun ho => hc _ (List.mem_append_left _ (by rw [if_pos ho]; exact List.mem_singleton.2 rfl))) fun k hk => ?_
    have hkc : ∀ c ∈ k.cols, P c := fun c hcc => hc c (List.mem_append_right _ (colss_mem hcc hk))
    refine ⟨wfs_mem h3 hk, hkc, X.ind h n k ?_ (wfs_mem h3 hk) hkc⟩
    rw [X.flat_node, List.length_cons] at hn
    have := flats_mem hk
    have : 1 ≤ ks.length := by cases ks with
      | nil => cases hk
      | cons _ _ => simp
    omega
theorem one_of {ks : List X} (h : ks.length = 1) : ∃ a, ks = [a] := by
  match ks, h with
  | [a], _ => exact ⟨a, rfl⟩
theorem two_of {ks : List X} (h : ks.length = 2) : ∃ a b, ks = [a, b] := by
  match ks, h with
  | [a, b], _ => exact ⟨a, b, rfl⟩
theorem node_kinds {t : T} {ks : List X} (ht : t.ok = true) (hk : ks.length = ar t.op) : (t.op = 1 ∧ ks = []) ∨ (t.op = 2 ∧ ks = []) ∨ (t.op ≠ 1 ∧ t.op ≠ 2 ∧ isFun t.op = true ∧ (ks.length : Int) = arity t.op) ∨ (t.op ≠ 1 ∧ t.op ≠ 2 ∧ (t.op = 3 ∨ t.op = 13) ∧ ∃ a, ks = [a]) ∨ (t.op ≠ 1 ∧ t.op ≠ 2 ∧ isBin t.op ∧ ∃ a b, ks = [a, b]) := by
  by_cases h1 : t.op = 1
  · rw [h1] at hk
    exact .inl ⟨h1, List.eq_nil_of_length_eq_zero hk⟩
  by_cases h2 : t.op = 2
  · rw [h2] at hk
    exact .inr (.inl ⟨h2, List.eq_nil_of_length_eq_zero hk⟩)
  obtain ⟨-, h3, h4⟩ := node_op ht h1 h2
  rcases op_kinds h1 h2 h3 h4 with h | h | h | h
  · refine .inr (.inr (.inl ⟨h1, h2, h, ?_⟩))
    have h5 : t.op = 9 ∨ t.op = 10 ∨ t.op = 16 ∨ t.op = 17 ∨ t.op = 18 := by simpa [isFun] using h
    rw [hk]
    rcases h5 with h | h | h | h | h <;> rw [h] <;> rfl
  · rw [h] at hk
    exact .inr (.inr (.inr (.inl ⟨h1, h2, .inl h, one_of hk⟩)))
  · rw [h] at hk
    exact .inr (.inr (.inr (.inl ⟨h1, h2, .inr h, one_of hk⟩)))
  · refine .inr (.inr (.inr (.inr ⟨h1, h2, h, two_of ?_⟩)))
    have := (bin_facts h).2.1
    unfold ar at hk
    rw [this] at hk
    exact hk
def opWs : List Bs := [[40], [41], [44], [45], [43], [42], [47], [43, 43], [108, 101, 110, 103, 116, 104], [112, 114, 101, 102, 105, 120], [61], [60], wNot, wAnd, wOr, [105, 115, 110, 117, 108, 108], [99, 111, 97, 108, 101, 115, 99, 101], [105, 102]]
theorem ite_mem {p : Prop} [Decidable p] {a b : Bs} {l : List Bs} (h1 : a ∈ l) (h2 : b ∈ l) : (if p then a else b) ∈ l := by split <;> assumption
theorem opW_mem (op : Int) : opW op ∈ opWs := by
  unfold opW
  iterate 14 (refine ite_mem ?_ ?_; · decide)
  decide
def tw (f : Tk → Nat) (l : List Tk) : Nat := (l.map f).sum
section
variable {f : Tk → Nat} {left right : List Bs}
theorem tw_nil : tw f [] = 0 := rfl
theorem tw_cons (t : Tk) (l : List Tk) : tw f (t :: l) = f t + tw f l := by unfold tw; rw [List.map_cons, List.sum_cons]
theorem tw_app (l m : List Tk) : tw f (l ++ m) = tw f l + tw f m := by unfold tw; rw [List.map_append, List.sum_append]
theorem tw_oper {m : Nat} (hm : ∀ w ∈ opWs, f (wdK w) ≤ m) (x : X) (neg : Bool) (l : List Tk) : tw f l ≤ tw f (operW x neg l) ∧ tw f (operW x neg l) ≤ tw f l + 2 * m := by
  unfold operW
  split
  · omega
  · rw [tw_cons, tw_app, tw_cons, tw_nil]
    have := hm [40] (by decide)
    have := hm [41] (by decide)
    omega
theorem tw_more {K m : Nat} (hm : ∀ w ∈ opWs, f (wdK w) ≤ m) : ∀ l : List X, (∀ x ∈ l, tw f (x.wr left right) ≤ K * x.flat.length) → tw f (moreW left right l) ≤ K * (flats l).length + m * l.length
  | [], _ => by simp [moreW, tw_nil]
  | x :: l, h => by
    have h1 := tw_more hm l (fun y hy => h y (by simp [hy]))
    have h2 := h x (by simp)
    have := hm [44] (by decide)
    rw [moreW, tw_cons, tw_app, flats, List.length_append, List.length_cons, Nat.mul_add, Nat.mul_succ]
    omega
theorem wr_weight {K m : Nat} (hm : ∀ w ∈ opWs, f (wdK w) ≤ m) (hK : 5 * m ≤ K) (hc : ∀ v : V, v.ok = true → v.k ≠ 0 → tw f (constW v) ≤ K) (hr : ∀ c, okCol left right c → tw f (refW left right c) ≤ K) : ∀ (n : Nat) (x : X), x.flat.length ≤ n → x.wf = true → (∀ c ∈ x.cols, okCol left right c) → tw f (x.wr left right) ≤ K * x.flat.length :=
  X.ind (M := fun x => tw f (x.wr left right) ≤ K * x.flat.length) fun t ks ht hk hcc h => by
    have hop := hm (opW t.op) (opW_mem t.op)
    rw [X.wr, X.flat_node, List.length_cons, Nat.mul_succ]
    unfold nodeW
    rcases node_kinds ht hk with ⟨h1, rfl⟩ | ⟨h2, rfl⟩ | ⟨h1, h2, h3, ha⟩ | ⟨h1, h2, h3, a, rfl⟩ | ⟨h1, h2, h3, a, b, rfl⟩
    · rw [if_pos h1]
      obtain ⟨-, h3, h4⟩ := node_const ht h1
      have := hc t.v h3 h4
      omega
    · rw [if_neg (by omega), if_pos h2]
      have := hr _ (hcc h2)
      omega
    · rw [if_neg h1, if_neg h2, if_pos h3]
      have h4 : t.op = 9 ∨ t.op = 10 ∨ t.op = 16 ∨ t.op = 17 ∨ t.op = 18 := by simpa [isFun] using h3
      obtain ⟨k0, l, rfl⟩ : ∃ k0 l, ks = k0 :: l := by
        cases ks with
        | nil => exfalso; rcases h4 with h | h | h | h | h <;> (rw [h] at ha; revert ha; decide)
        | cons a l => exact ⟨a, l, rfl⟩
      have hl : l.length ≤ 2 := by
        have : arity t.op ≤ 3 := (arity_range t.op).2
        rw [List.length_cons] at ha
        omega
      rw [comma_more, List.append_assoc, tw_app, tw_app, tw_app, tw_cons, tw_cons, tw_cons, tw_nil, flats, List.length_append, Nat.mul_add]
      have h5 := (h k0 (by simp)).2.2
      have h6 := tw_more (K := K) hm l (fun y hy => (h y (by simp [hy])).2.2)
      have := hm [40] (by decide)
      have := hm [41] (by decide)
      have : m * l.length ≤ m * 2 := Nat.mul_le_mul_left _ hl
      omega
    · have h5 := (h a (by simp)).2.2
      have h6 := tw_oper hm a (t.op == 3) (a.wr left right)
      rw [if_neg h1, if_neg h2, if_neg (by unfold isFun; rw [decide_eq_true_eq]; omega), wrs, wrs]
      simp only
      rw [tw_cons, flats, flats, List.append_nil]
      omega
    · have h5 := (h a (by simp)).2.2
      have k5 := (h b (by simp)).2.2
      have h6 := tw_oper hm a false (a.wr left right)
      have k6 := tw_oper hm b false (b.wr left right)
      rw [if_neg h1, if_neg h2, if_neg (by rw [(bin_facts h3).2.2]; simp), wrs, wrs, wrs]
      simp only [List.getD_cons_succ, List.getD_cons_zero]
      rw [tw_app, tw_cons, flats, flats, flats, List.append_nil, List.length_append, Nat.mul_add]
      omega
end
theorem canon_name {w : Bs} (h : isNameB w = true) : Canon ⟨1, w, 0, 0⟩ := by
  have h' := h
  unfold isNameB at h
  simp only [Bool.and_eq_true, decide_eq_true_eq] at h
  obtain ⟨h1, h2, h3⟩ := h
  cases w with
  | nil => exact absurd rfl h1
  | cons c r =>
    have hc : isLet c = true := by
      have hr := isNameB_ref c r
      rw [h'] at hr
      cases hl : isLet c with
      | true => rfl
      | false => rw [hl] at hr; simp at hr
    have := (tok_name (r0 := r) hc (by omega)).canon 0
    rw [h3, List.take_length] at this
    exact this
theorem canon_num {n : Int} (h0 : 0 ≤ n) (h1 : n ≤ 4294967296) : Canon (numK n) := by
  obtain ⟨u, rfl⟩ := Int.eq_ofNat_of_zero_le h0
  obtain ⟨-, d2, d3, -⟩ := digits_facts u u (Nat.le_refl _)
  have hp := pInt_digits u (by omega)
  generalize Lib.decDigits u = d at d2 d3 hp
  cases d with
  | nil => exact absurd rfl d3
  | cons c r =>
    have hc : isDig c = true := by rw [List.all_cons, Bool.and_eq_true] at d2; exact d2.1
    have hl : isLet c = false := by
      cases hq : isLet c with
      | false => rfl
      | true =>
        have := isDig_nat hc
        unfold isLet at hq
        simp at hq
        omega
    have ht : (c :: r).takeWhile isDig = c :: r := by
      have := takeWhile_gap (p := isDig) (by decide) (c :: r) [] d2 (.inl rfl)
      simpa using this
    have := (tok_number (r0 := r) hl hc (by rw [ht, hp])).canon 0
    rw [ht, hp] at this
    exact this
theorem canon_text {t : Bs} (h : t.length ≤ 32) : Canon ⟨3, t, 0, 0⟩ := (tok_text (unqR_quote t []) (by omega)).canon 0
def Good (t : Tk) : Prop := Canon t ∧ tokOk t = true ∧ t.text.length ≤ 32
theorem good_name {w : Bs} (h : isNameB w = true) : Good (wdK w) := by
  unfold wdK
  rw [if_pos h]
  refine ⟨canon_name h, ?_, ?_⟩
  · unfold tokOk
    rw [if_pos rfl]
    exact h
  · unfold isNameB at h
    simp at h
    show w.length ≤ 32
    omega
theorem good_sign {c : UInt8} {r : List UInt8} (hn : isNameB (c :: r) = false) (h1 : isLet c = false) (h2 : isDig c = false) (h3 : c ≠ 34) (hs : signLen (c :: r) = (c :: r).length) (ho : isSignB (c :: r) = true) : Good (wdK (c :: r)) := by
  unfold wdK
  rw [if_neg (by rw [hn]; simp)]
  have := (tok_sign (r0 := r) h1 h2 h3 (by rw [hs]; simp)).canon 0
  rw [hs, List.take_length] at this
  exact ⟨this, ho, by have := isSign_len ho; show (c :: r).length ≤ 32; omega⟩
theorem good_op : ∀ w ∈ opWs, Good (wdK w) := by
  intro w hw
  unfold opWs at hw
  simp only [List.mem_cons, List.not_mem_nil, or_false] at hw
  rcases hw with rfl | rfl | rfl | rfl | rfl | rfl | rfl | rfl | rfl | rfl | rfl | rfl | rfl | rfl | rfl | rfl | rfl | rfl <;> first
    | exact good_name (by decide)
    | exact good_sign (by decide) (by decide) (by decide) (by decide) (by decide) (by decide)
theorem good_const {v : V} (h : v.ok = true) (hk : v.k ≠ 0) : ∀ t ∈ constW v, Good t := by
  have good_num : ∀ {n : Int}, 0 ≤ n → n ≤ 4294967296 → Good (numK n) := fun {n} h0 h1 => ⟨canon_num h0 h1, by
    unfold tokOk numK
    simp only
    rw [if_neg (by decide), if_pos trivial]
    simp [h0, h1], by show ([] : Bs).length ≤ 32; decide⟩
  unfold V.ok at h
  simp only [Bool.or_eq_true, Bool.and_eq_true, beq_iff_eq, decide_eq_true_eq] at h
  intro t ht
  unfold constW at ht
  rcases h with (⟨⟨h, -⟩, -⟩ | ⟨⟨⟨h1, h2⟩, h3⟩, -⟩) | ⟨⟨h1, -⟩, h3⟩
  · exact absurd h hk
  · rw [if_neg (by omega)] at ht
    split at ht
    · rcases List.mem_cons.1 ht with rfl | ht
      · exact good_op [45] (by decide)
      · rw [List.mem_singleton.1 ht]
        exact good_num (by omega) (by omega)
    · rw [List.mem_singleton.1 ht]
      exact good_num (by omega) (by omega)
  · rw [if_pos h1] at ht
    rw [List.mem_singleton.1 ht]
    have hl : v.s.data.toList.length ≤ 32 := by rw [← Lib.size_eq]; exact h3
    exact ⟨canon_text hl, by unfold tokOk; simp only; rw [if_neg (by decide), if_neg (by decide), if_pos trivial]; simp; simpa using hl, hl⟩
section
variable {left right : List Bs}
theorem good_ref {c : Nat} (h : okCol left right c) : ∀ t ∈ refW left right c, Good t := by
  intro t ht
  unfold refW at ht
  have hdot : Good (wdK [46]) := good_sign (by decide) (by decide) (by decide) (by decide) (by decide) (by decide)
  have hn : Good (wdK (colName left right c)) := good_name h
  split at ht
  · simp only [List.mem_cons, List.not_mem_nil, or_false] at ht
    rcases ht with rfl | rfl | rfl
    · exact good_name (by decide)
    · exact hdot
    · exact hn
  · split at ht
    · simp only [List.mem_cons, List.not_mem_nil, or_false] at ht
      rcases ht with rfl | rfl | rfl
      · exact good_name (by decide)
      · exact hdot
      · exact good_name (by decide)
    · rw [List.mem_singleton.1 ht]
      exact hn
open Classical in
theorem tw_zero {Q : Tk → Prop} {l : List Tk} : tw (fun t => if Q t then 0 else 1) l = 0 ↔ ∀ t ∈ l, Q t := by
  induction l with
  | nil => simp [tw_nil]
  | cons a l ih =>
    rw [tw_cons, List.forall_mem_cons, ← ih]
    by_cases h : Q a <;> simp [h]
variable {x : X} (hx : x.wf = true) (hc : ∀ c ∈ x.cols, okCol left right c)
include hx hc
theorem wr_good : ∀ t ∈ x.wr left right, Good t := by
  classical
  have h := wr_weight (f := fun t => if Good t then 0 else 1) (left := left) (right := right) (K := 0) (m := 0) (fun w hw => by simp [good_op w hw]) (by omega) (fun v h1 h2 => Nat.le_of_eq (tw_zero.2 (good_const h1 h2))) (fun c h => Nat.le_of_eq (tw_zero.2 (good_ref h))) _ x (Nat.le_refl _) hx hc
  rw [Nat.zero_mul] at h
  exact tw_zero.1 (Nat.le_zero.1 h)
theorem wr_count : (x.wr left right).length ≤ 5 * x.flat.length := by
  have hl : ∀ l : List Tk, tw (fun _ => 1) l = l.length := fun l => by
    induction l with
    | nil => rfl
    | cons a l ih => rw [tw_cons, ih, List.length_cons]; omega
  have h := wr_weight (f := fun _ => 1) (left := left) (right := right) (K := 5) (m := 1) (fun _ _ => Nat.le_refl _) (by omega) (fun v _ _ => by rw [hl]; unfold constW; (repeat' split) <;> simp) (fun c _ => by rw [hl]; unfold refW; (repeat' split) <;> simp) _ x (Nat.le_refl _) hx hc
  rwa [hl] at h
end
end Go.Proofs.YtpnfbehbheddeaaGreatDoor
