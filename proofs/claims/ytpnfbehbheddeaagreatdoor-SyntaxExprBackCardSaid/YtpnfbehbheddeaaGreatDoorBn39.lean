/- The writer of tokens as a part of memory; write and number. Words of at most 1000000 bytes, at most 1000000 tokens. number of a writer; columnName, wordOf and isBare of the program. At most 1001000 tokens. isBare, constant and reference of the writer of expressions. At most 1000000 tokens. constant of the writer of expressions. At most 1000000 tokens. reference of the writer of expressions. At most 1000000 tokens and names. -/
import Derived.Test.YtpnfbehbheddeaaGreatDoorBn38
import Derived.Test.YtpnfbehbheddeaaGreatDoorBn08
namespace Go.Proofs.YtpnfbehbheddeaaGreatDoor
set_option maxRecDepth 100000
set_option maxHeartbeats 8000000
set_option linter.unusedVariables false
set_option linter.unusedSimpArgs false
open Go.RowKit
def wA (wb : Nat) (L : List Tk) : HA := exA fun tv : Value => allA [boxA wb #[tv] 92, rowA 100 4 tv L.length (L.flatMap Tk.cells)]
section
variable {w : World} {l l' : List HA} {wb : Nat} {L : List Tk}
theorem HS.wOpen (H : HS w l) (hp : Pick l (wA wb L) l') : ∃ A c, HS w (boxA wb #[.slice A L.length c] 92 :: rowA 100 4 (.slice A L.length c) L.length (L.flatMap Tk.cells) :: l') := by
  unfold wA at hp
  obtain ⟨tv, h⟩ := H.ex hp
  have h2 := h.all_
  simp only [List.cons_append, List.nil_append] at h2
  obtain ⟨A, c, rfl⟩ := h2.slice (v := tv) pkQ
  exact ⟨A, c, h2⟩
theorem HS.wClose {tv : Value} (H : HS w (boxA wb #[tv] 92 :: rowA 100 4 tv L.length (L.flatMap Tk.cells) :: l)) : HS w (wA wb L :: l) := HS.mkEx (x := tv) (HS.mkAll (m := [boxA wb #[tv] 92, rowA 100 4 tv L.length (L.flatMap Tk.cells)]) H)
theorem HS.wNew (H : HS w l) : HS (w.alloc (.cells #[.slice none 0 0] 92)) (wA w.heap.size [] :: l) := HS.wClose (L := []) ((H.rowNil 100 4).alloc #[.slice none 0 0] 92)
theorem wdK_cells (s : Bs) (b : Bool) (h : isNameB s = b) : (wdK s).cells = [.int .i64 (if b then 1 else 4), .string ⟨s.toArray⟩, .int .i64 0, .int .i64 0] := by
  unfold Tk.cells wdK
  rw [h]
theorem HS.wPush {tv : Value} {t : Tk} {xs : List Value} (hc : t.cells = xs) (H : HS w (boxA wb #[tv] 92 :: rowA 100 4 tv (L.length + 1) (L.flatMap Tk.cells ++ xs) :: l)) : HS w (wA wb (L ++ [t]) :: l) := by
  refine HS.wClose (tv := tv) ?_
  rw [List.length_append, List.flatMap_append, List.flatMap_cons, List.flatMap_nil, List.append_nil, hc]
  exact H
end
theorem stTk : SliceTy Tryz.prog 47 100 4 40 := SliceTy.mk' Tryz.underlying47 (z := .agg #[.int .i64 0, .string ⟨#[]⟩, .int .i64 0, .int .i64 0]) (by kernel_rfl) rfl (by decide) (by decide)
theorem write_s {w : World} {l : List HA} {wb z : Nat} {L : List Tk} (ws : List Bs) (hw : ∀ s ∈ ws, s.length ≤ 1000000) (hn : ws.length ≤ 1000) (hL : L.length ≤ 1000000) (H : HS w (boxA z (ws.map strV).toArray 9 :: wA wb L :: l)) :
    Calls Tryz.prog 110 #[.pointer (some ⟨wb, 0, none⟩), .slice (some ⟨z, 0, none⟩) ws.length ws.length] w fun e w' => e = .returned (.tuple #[]) ∧ HS w' (wA wb (L ++ ws.map wdK) :: l) := by
  have HW := Lib.hid hw
  clear hw
  go_enter Tryz.func110, Tryz.ntmps110
  go_upto_region 1 with fail
  go_loopw [9] (fun v9 wr => ∃ i : Nat, v9 = .int .i64 (i : Int) ∧ i ≤ ws.length ∧ HS wr (boxA z (ws.map strV).toArray 9 :: wA wb (L ++ (ws.take i).map wdK) :: l)) (fun v9 _ => ws.length - (intOf v9).toNat)
  case atStart => exact ⟨0, rfl, by omega, by rw [List.take_zero, List.map_nil, List.append_nil]; exact H⟩
  case round =>
    obtain ⟨i, rfl, hi, Hr⟩ := hrel
    clear H
    by_cases hlt : i < ws.length
    · have h1 : (i : Int) < (ws.length : Int) := by omega
      have h0 : (0 : Int) ≤ (i : Int) := by omega
      obtain ⟨s, hs⟩ : ∃ s, ws[i]? = some s := ⟨_, List.getElem?_eq_getElem hlt⟩
      have hsl := HW.out s (List.mem_of_getElem? hs)
      have hcell := Hr.boxAt (.here) i (u := .string ⟨s.toArray⟩) (by simp [hs, strV])
      have hM : L ++ (ws.take (i + 1)).map wdK = (L ++ (ws.take i).map wdK) ++ [wdK s] := by rw [List.take_add_one, hs, List.map_append, List.append_assoc]; rfl
      have HM := Lib.hid hM
      have hLn : (L ++ (ws.take i).map wdK).length ≤ 1001000 := by rw [List.length_append, List.length_map, List.length_take]; omega
      have hI := fun w1 => xisName ⟨s.toArray⟩ w1 (by show s.toArray.size ≤ _; simp; omega)
      dsimp only at hI
      generalize L ++ (ws.take i).map wdK = M at Hr HM hLn
      obtain ⟨A, c, H2⟩ := Hr.wOpen (wb := wb) (L := M) pkQ
      obtain ⟨dB, dL, hcB⟩ := HS.get (z := wb) H2; obtain ⟨d0, df0⟩ := hcB 0; clear hcB
      clear hM hs Hr
      cases hb : isNameB s with
      | true =>
        rw [hb] at hI
        have HC := Lib.hid (wdK_cells s _ hb)
        clear hb
        go_wp2_with (first
          | (go_at_call 32; refine (hI _).mono ?_; rintro e w1 ⟨rfl, rfl⟩)
          | (at_builtin; refine wpList_appAny (v := .slice A M.length c) rfl _ _ stTk (by rfl) (by rfl) ((H2.alloc #[.int .i64 1, .string ⟨s.toArray⟩, .int .i64 0, .int .i64 0] 100).row (v := .slice A M.length c) pkQ) (by rfl) (news := [.int .i64 1, .string ⟨s.toArray⟩, .int .i64 0, .int .i64 0]) (by rfl) (litRd (heap_alloc_new _ _)) (fun h => by cases h) (by intro u hu; simp at hu; (repeat' (rcases hu with rfl | hu)); all_goals (first | rfl | (subst hu; rfl))) (by omega) (by first | exact Nat.zero_le _ | omega | (simp; omega)) ?_; intro vA wA ownA gA atA; have H3 := (H2.alloc #[.int .i64 1, .string ⟨s.toArray⟩, .int .i64 0, .int .i64 0] 100).app (v := .slice A M.length c) pkQ ownA gA atA; obtain ⟨kB, kL, hcB⟩ := HS.get (z := wb) H3; obtain ⟨k0, kf0⟩ := hcB 0; clear hcB; obtain ⟨AB, cB, rfl, -, -⟩ := own_slice ownA; clear ownA gA atA))
        go_roundw
        case rel =>
          refine ⟨i + 1, by go_num, by omega, ?_⟩
          rw [HM.out]
          exact (HS.wPush HC.out ((H3.storeTo (z := wb) pkQ 0 (.slice AB (M.length + 1) cB) #[.slice AB (M.length + 1) cB] rfl).sub (l' := boxA wb #[.slice AB (M.length + 1) cB] 92 :: rowA 100 4 (.slice AB (M.length + 1) cB) (M.length + 1) (M.flatMap Tk.cells ++ [.int .i64 1, .string ⟨s.toArray⟩, .int .i64 0, .int .i64 0]) :: boxA z (ws.map strV).toArray 9 :: l) pkQ)).sub pkQ
        case measure => simp [intOf]; omega
      | false =>
        rw [hb] at hI
        have HC := Lib.hid (wdK_cells s _ hb)
        clear hb
        go_wp2_with (first
          | (go_at_call 32; refine (hI _).mono ?_; rintro e w1 ⟨rfl, rfl⟩)
          | (at_builtin; refine wpList_appAny (v := .slice A M.length c) rfl _ _ stTk (by rfl) (by rfl) ((H2.alloc #[.int .i64 4, .string ⟨s.toArray⟩, .int .i64 0, .int .i64 0] 100).row (v := .slice A M.length c) pkQ) (by rfl) (news := [.int .i64 4, .string ⟨s.toArray⟩, .int .i64 0, .int .i64 0]) (by rfl) (litRd (heap_alloc_new _ _)) (fun h => by cases h) (by intro u hu; simp at hu; (repeat' (rcases hu with rfl | hu)); all_goals (first | rfl | (subst hu; rfl))) (by omega) (by first | exact Nat.zero_le _ | omega | (simp; omega)) ?_; intro vA wA ownA gA atA; have H3 := (H2.alloc #[.int .i64 4, .string ⟨s.toArray⟩, .int .i64 0, .int .i64 0] 100).app (v := .slice A M.length c) pkQ ownA gA atA; obtain ⟨kB, kL, hcB⟩ := HS.get (z := wb) H3; obtain ⟨k0, kf0⟩ := hcB 0; clear hcB; obtain ⟨AB, cB, rfl, -, -⟩ := own_slice ownA; clear ownA gA atA))
        go_roundw
        case rel =>
          refine ⟨i + 1, by go_num, by omega, ?_⟩
          rw [HM.out]
          exact (HS.wPush HC.out ((H3.storeTo (z := wb) pkQ 0 (.slice AB (M.length + 1) cB) #[.slice AB (M.length + 1) cB] rfl).sub (l' := boxA wb #[.slice AB (M.length + 1) cB] 92 :: rowA 100 4 (.slice AB (M.length + 1) cB) (M.length + 1) (M.flatMap Tk.cells ++ [.int .i64 4, .string ⟨s.toArray⟩, .int .i64 0, .int .i64 0]) :: boxA z (ws.map strV).toArray 9 :: l) pkQ)).sub pkQ
        case measure => simp [intOf]; omega
    · obtain rfl : i = ws.length := by omega
      have h1 : ¬ (ws.length : Int) < (ws.length : Int) := by omega
      rw [List.take_of_length_le (Nat.le_refl _)] at Hr
      go_wp2_with fail
      go_end0
      exact ⟨rfl, Hr.tail⟩
theorem number_w {w : World} {l : List HA} {wb : Nat} {L : List Tk} (n : Int) (hL : L.length ≤ 1001000) (H : HS w (wA wb L :: l)) :
    Calls Tryz.prog 172 #[.pointer (some ⟨wb, 0, none⟩), .int .i64 n] w fun e w' => e = .returned (.tuple #[]) ∧ HS w' (wA wb (L ++ [numK n]) :: l) := by
  obtain ⟨A, c, H2⟩ := H.wOpen (wb := wb) (L := L) pkQ
  obtain ⟨dB, dL, hcB⟩ := HS.get (z := wb) H2; obtain ⟨d0, df0⟩ := hcB 0; clear hcB
  clear H
  go_enter Tryz.func172, Tryz.ntmps172
  go_wp2_with (at_builtin; refine wpList_appAny (v := .slice A L.length c) rfl _ _ stTk (by rfl) (by rfl) ((H2.alloc #[.int .i64 2, .string ⟨#[]⟩, .int .i64 n, .int .i64 0] 100).row (v := .slice A L.length c) pkQ) (by rfl) (news := [.int .i64 2, .string ⟨#[]⟩, .int .i64 n, .int .i64 0]) (by rfl) (litRd (heap_alloc_new _ _)) (fun h => by cases h) (by intro u hu; simp at hu; (repeat' (rcases hu with rfl | hu)); all_goals (first | rfl | (subst hu; rfl))) (by omega) (by first | exact Nat.zero_le _ | omega | (simp; omega)) ?_; intro vA wA ownA gA atA; have H3 := (H2.alloc #[.int .i64 2, .string ⟨#[]⟩, .int .i64 n, .int .i64 0] 100).app (v := .slice A L.length c) pkQ ownA gA atA; obtain ⟨kB, kL, hcB⟩ := HS.get (z := wb) H3; obtain ⟨k0, kf0⟩ := hcB 0; clear hcB; obtain ⟨AB, cB, rfl, -, -⟩ := own_slice ownA; clear ownA gA atA)
  go_end0
  refine ⟨rfl, ?_⟩
  exact (HS.wPush rfl ((H3.storeTo (z := wb) pkQ 0 (.slice AB (L.length + 1) cB) #[.slice AB (L.length + 1) cB] rfl).sub (l' := boxA wb #[.slice AB (L.length + 1) cB] 92 :: rowA 100 4 (.slice AB (L.length + 1) cB) (L.length + 1) (L.flatMap Tk.cells ++ [.int .i64 2, .string ⟨#[]⟩, .int .i64 n, .int .i64 0]) :: l) pkQ)).sub pkQ
theorem columnName_c {w : World} {LA DA : Option Addr} {ln lc rn rc : Nat} {left right : List Bs} (c : Nat) (hL : RowB w w.heap.size LA ln left) (hD : RowB w w.heap.size DA rn right) (_hln : ln ≤ 1000000) (hrn : rn ≤ 1000000) (hc : c < ln + rn) :
    Calls Tryz.prog 33 #[.int .i64 (c : Int), .slice LA ln lc, .slice DA rn rc] w fun e w' => e = .returned (.string ⟨(colName left right c).toArray⟩) ∧ w' = w := by
  have hll := hL.len
  have hrl := hD.len
  have h0 : (0 : Int) ≤ (c : Int) := by omega
  by_cases hlt : c < ln
  · obtain ⟨b, off, s, rfl, hb, hs, hcell⟩ := hL.at_ 1 (fun _ => rfl) (by omega) hlt
    have hcell := hcell 0 _ rfl
    rw [Nat.mul_one, Nat.add_zero] at hcell
    have HN := Lib.hid (show colName left right c = s by unfold colName; rw [if_pos (by omega), List.getD_eq_getElem?_getD, hs]; rfl)
    have h1 : (c : Int) < (ln : Int) := by omega
    clear hs hL hD hll hrl
    go_enter Tryz.func33, Tryz.ntmps33
    go_wp2_with fail
    go_ret
    exact ⟨by rw [HN.out]; rfl, rfl⟩
  · obtain ⟨b, off, s, rfl, hb, hs, hcell⟩ := hD.at_ 1 (fun _ => rfl) (by omega) (show c - ln < rn by omega)
    have hcell := hcell 0 _ rfl
    rw [Nat.mul_one, Nat.add_zero] at hcell
    have HN := Lib.hid (show colName left right c = s by unfold colName; rw [if_neg (by omega), List.getD_eq_getElem?_getD, hll, hs]; rfl)
    have h1 : ¬ (c : Int) < (ln : Int) := by omega
    have hw : IntKind.i64.wrap ((c : Int) - (ln : Int)) = ((c - ln : Nat) : Int) := by rw [IntWalk.i64_in _ (by omega)]; omega
    have h2 : (0 : Int) ≤ ((c - ln : Nat) : Int) := by omega
    have h3 : ((c - ln : Nat) : Int) < (rn : Int) := by omega
    clear hs hL hD hll hrl hlt
    go_enter Tryz.func33, Tryz.ntmps33
    go_wp2_with fail
    go_ret
    exact ⟨by rw [HN.out]; rfl, rfl⟩
def words19 : Array Value := #[.string ⟨#[]⟩, .string ⟨#[]⟩, .string ⟨#[]⟩, .string ⟨#[45]⟩, .string ⟨#[43]⟩, .string ⟨#[45]⟩, .string ⟨#[42]⟩, .string ⟨#[47]⟩, .string ⟨#[43, 43]⟩, .string ⟨#[108, 101, 110, 103, 116, 104]⟩, .string ⟨#[112, 114, 101, 102, 105, 120]⟩, .string ⟨#[61]⟩, .string ⟨#[60]⟩, .string ⟨#[110, 111, 116]⟩, .string ⟨#[97, 110, 100]⟩, .string ⟨#[111, 114]⟩, .string ⟨#[105, 115, 110, 117, 108, 108]⟩, .string ⟨#[99, 111, 97, 108, 101, 115, 99, 101]⟩, .string ⟨#[105, 102]⟩]
theorem words_at (k : Nat) (h1 : 3 ≤ k) (h2 : k ≤ 18) : words19[k]? = some (.string ⟨(opW (k : Int)).toArray⟩) := by
  have h : k = 3 ∨ k = 4 ∨ k = 5 ∨ k = 6 ∨ k = 7 ∨ k = 8 ∨ k = 9 ∨ k = 10 ∨ k = 11 ∨ k = 12 ∨ k = 13 ∨ k = 14 ∨ k = 15 ∨ k = 16 ∨ k = 17 ∨ k = 18 := by omega
  rcases h with rfl | rfl | rfl | rfl | rfl | rfl | rfl | rfl | rfl | rfl | rfl | rfl | rfl | rfl | rfl | rfl <;> rfl
theorem wordOf_c {w : World} (k : Nat) (h1 : 3 ≤ k) (h2 : k ≤ 18) : Calls Tryz.prog 111 #[.int .i64 (k : Int)] w fun e w' => e = .returned (.string ⟨(opW (k : Int)).toArray⟩) ∧ Below w.heap.size w w' := by
  have hk := words_at k h1 h2
  have hk0 : (0 : Int) ≤ (k : Int) := by omega
  have hk19 : (k : Int) < 19 := by omega
  generalize (⟨(opW (k : Int)).toArray⟩ : ByteArray) = s at hk
  go_enter Tryz.func111, Tryz.ntmps111
  go_wp2_with (first
    | (refine wpList_buildTo rfl _ _ rfl words19 (by as_aux_lemma => kernel_rfl) ?_)
    | (refine wpList_store_row rfl 247 (.tmp 3) (.tmp 4) rfl w.heap.size words19 rfl rfl 247 _ (heap_alloc_new w _) (by as_aux_lemma => kernel_rfl) (by as_aux_lemma => kernel_rfl) (by as_aux_lemma => kernel_rfl) ?_
       have hcW := (cell_setRow_same _ w.heap.size k _ words19 _ _ (heap_alloc_new w (.cells #[.string ⟨#[]⟩, .string ⟨#[]⟩, .string ⟨#[]⟩, .string ⟨#[]⟩, .string ⟨#[]⟩, .string ⟨#[]⟩, .string ⟨#[]⟩, .string ⟨#[]⟩, .string ⟨#[]⟩, .string ⟨#[]⟩, .string ⟨#[]⟩, .string ⟨#[]⟩, .string ⟨#[]⟩, .string ⟨#[]⟩, .string ⟨#[]⟩, .string ⟨#[]⟩, .string ⟨#[]⟩, .string ⟨#[]⟩, .string ⟨#[]⟩] 247))).trans hk
       have hbW := below_setRow ((Below.refl w.heap.size w).alloc (Nat.le_refl _) (.cells #[.string ⟨#[]⟩, .string ⟨#[]⟩, .string ⟨#[]⟩, .string ⟨#[]⟩, .string ⟨#[]⟩, .string ⟨#[]⟩, .string ⟨#[]⟩, .string ⟨#[]⟩, .string ⟨#[]⟩, .string ⟨#[]⟩, .string ⟨#[]⟩, .string ⟨#[]⟩, .string ⟨#[]⟩, .string ⟨#[]⟩, .string ⟨#[]⟩, .string ⟨#[]⟩, .string ⟨#[]⟩, .string ⟨#[]⟩, .string ⟨#[]⟩] 247)) (Nat.le_refl _) words19
       generalize World.setRow _ _ _ = W at hcW hbW ⊢))
  go_ret
  exact ⟨rfl, by (exact belQ)⟩
theorem isBare_c {w : World} (eb : Nat) (t : T) (neg : Bool) (h1 : 1 ≤ t.op) (h2 : t.op ≤ 18) : Calls Tryz.prog 173 #[.pointer (some ⟨eb, 0, none⟩), .agg #[.int .i64 t.op, .int .i64 t.v.k, .int .i64 t.v.n, .string t.v.s, .int .i64 t.c], .bool neg] w fun e w' => e = .returned (.bool (bareW t neg)) ∧ Below w.heap.size w w' := by
  obtain ⟨op, ⟨k, n, s⟩, c⟩ := t
  dsimp only at h1 h2 ⊢
  have hb : ∀ o, Below w.heap.size w (w.alloc o) := fun o => (Below.refl _ _).alloc (Nat.le_refl _) o
  have h : op = 1 ∨ op = 2 ∨ op = 3 ∨ op = 4 ∨ op = 5 ∨ op = 6 ∨ op = 7 ∨ op = 8 ∨ op = 9 ∨ op = 10 ∨ op = 11 ∨ op = 12 ∨ op = 13 ∨ op = 14 ∨ op = 15 ∨ op = 16 ∨ op = 17 ∨ op = 18 := by omega
  clear h1 h2
  rcases h with rfl | rfl | rfl | rfl | rfl | rfl | rfl | rfl | rfl | rfl | rfl | rfl | rfl | rfl | rfl | rfl | rfl | rfl
  · by_cases hk : k = 2
    · subst hk
      rw [show bareW ⟨1, ⟨2, n, s⟩, c⟩ neg = true by simp [bareW]]
      go_enter Tryz.func173, Tryz.ntmps173
      go_wp2_with fail
      go_ret
      exact ⟨rfl, hb _⟩
    · have hk1 : (k == 2) = false := by simpa using hk
      by_cases hn : 0 ≤ n
      · cases neg with
        | true =>
          rw [show bareW ⟨1, ⟨k, n, s⟩, c⟩ true = false by simp [bareW, hk]]
          clear hk
          go_enter Tryz.func173, Tryz.ntmps173
          go_wp2_with fail
          go_ret
          exact ⟨rfl, hb _⟩
        | false =>
          rw [show bareW ⟨1, ⟨k, n, s⟩, c⟩ false = true by simp [bareW, hn]]
          clear hk
          go_enter Tryz.func173, Tryz.ntmps173
          go_wp2_with fail
          go_ret
          exact ⟨rfl, hb _⟩
      · have HR := Lib.hid (show bareW ⟨1, ⟨k, n, s⟩, c⟩ neg = false by simp [bareW, hk, hn])
        clear hk
        rw [HR.out]
        go_enter Tryz.func173, Tryz.ntmps173
        go_wp2_with fail
        go_ret
        exact ⟨rfl, hb _⟩
  · rw [show bareW ⟨2, ⟨k, n, s⟩, c⟩ neg = true by simp [bareW, isFun]]
    go_enter Tryz.func173, Tryz.ntmps173
    go_wp2_with fail
    go_ret
    exact ⟨rfl, hb _⟩
  · rw [show bareW ⟨3, ⟨k, n, s⟩, c⟩ neg = false by simp [bareW, isFun]]
    go_enter Tryz.func173, Tryz.ntmps173
    go_wp2_with fail
    go_ret
    exact ⟨rfl, hb _⟩
  · rw [show bareW ⟨4, ⟨k, n, s⟩, c⟩ neg = false by simp [bareW, isFun]]
    go_enter Tryz.func173, Tryz.ntmps173
    go_wp2_with fail
    go_ret
    exact ⟨rfl, hb _⟩
  · rw [show bareW ⟨5, ⟨k, n, s⟩, c⟩ neg = false by simp [bareW, isFun]]
    go_enter Tryz.func173, Tryz.ntmps173
    go_wp2_with fail
    go_ret
    exact ⟨rfl, hb _⟩
  · rw [show bareW ⟨6, ⟨k, n, s⟩, c⟩ neg = false by simp [bareW, isFun]]
    go_enter Tryz.func173, Tryz.ntmps173
    go_wp2_with fail
    go_ret
    exact ⟨rfl, hb _⟩
  · rw [show bareW ⟨7, ⟨k, n, s⟩, c⟩ neg = false by simp [bareW, isFun]]
    go_enter Tryz.func173, Tryz.ntmps173
    go_wp2_with fail
    go_ret
    exact ⟨rfl, hb _⟩
  · rw [show bareW ⟨8, ⟨k, n, s⟩, c⟩ neg = false by simp [bareW, isFun]]
    go_enter Tryz.func173, Tryz.ntmps173
    go_wp2_with fail
    go_ret
    exact ⟨rfl, hb _⟩
  · rw [show bareW ⟨9, ⟨k, n, s⟩, c⟩ neg = true by simp [bareW, isFun]]
    go_enter Tryz.func173, Tryz.ntmps173
    go_wp2_with fail
    go_ret
    exact ⟨rfl, hb _⟩
  · rw [show bareW ⟨10, ⟨k, n, s⟩, c⟩ neg = true by simp [bareW, isFun]]
    go_enter Tryz.func173, Tryz.ntmps173
    go_wp2_with fail
    go_ret
    exact ⟨rfl, hb _⟩
  · rw [show bareW ⟨11, ⟨k, n, s⟩, c⟩ neg = false by simp [bareW, isFun]]
    go_enter Tryz.func173, Tryz.ntmps173
    go_wp2_with fail
    go_ret
    exact ⟨rfl, hb _⟩
  · rw [show bareW ⟨12, ⟨k, n, s⟩, c⟩ neg = false by simp [bareW, isFun]]
    go_enter Tryz.func173, Tryz.ntmps173
    go_wp2_with fail
    go_ret
    exact ⟨rfl, hb _⟩
  · rw [show bareW ⟨13, ⟨k, n, s⟩, c⟩ neg = false by simp [bareW, isFun]]
    go_enter Tryz.func173, Tryz.ntmps173
    go_wp2_with fail
    go_ret
    exact ⟨rfl, hb _⟩
  · rw [show bareW ⟨14, ⟨k, n, s⟩, c⟩ neg = false by simp [bareW, isFun]]
    go_enter Tryz.func173, Tryz.ntmps173
    go_wp2_with fail
    go_ret
    exact ⟨rfl, hb _⟩
  · rw [show bareW ⟨15, ⟨k, n, s⟩, c⟩ neg = false by simp [bareW, isFun]]
    go_enter Tryz.func173, Tryz.ntmps173
    go_wp2_with fail
    go_ret
    exact ⟨rfl, hb _⟩
  · rw [show bareW ⟨16, ⟨k, n, s⟩, c⟩ neg = true by simp [bareW, isFun]]
    go_enter Tryz.func173, Tryz.ntmps173
    go_wp2_with fail
    go_ret
    exact ⟨rfl, hb _⟩
  · rw [show bareW ⟨17, ⟨k, n, s⟩, c⟩ neg = true by simp [bareW, isFun]]
    go_enter Tryz.func173, Tryz.ntmps173
    go_wp2_with fail
    go_ret
    exact ⟨rfl, hb _⟩
  · rw [show bareW ⟨18, ⟨k, n, s⟩, c⟩ neg = true by simp [bareW, isFun]]
    go_enter Tryz.func173, Tryz.ntmps173
    go_wp2_with fail
    go_ret
    exact ⟨rfl, hb _⟩
def WdPost (wb : Nat) (L : List Tk) (l : List HA) (e : Ending) (w' : World) : Prop := e = .returned (.tuple #[]) ∧ HS w' (wA wb L :: l)
section
variable {w : World} {l : List HA} {wb : Nat} {L : List Tk}
theorem write1_s (a : Bs) (ha : a.length ≤ 1000000) (hL : L.length ≤ 1000000) (H : HS w (wA wb L :: l)) : Calls Tryz.prog 110 #[.pointer (some ⟨wb, 0, none⟩), .slice (some ⟨w.heap.size, 0, none⟩) 1 1] (w.alloc (.cells #[.string ⟨a.toArray⟩] 9)) (WdPost wb (L ++ [wdK a]) l) :=
  write_s [a] (by simpa using ha) (by simp) hL (H.alloc _ _)
theorem write2_s (a b : Bs) (ha : a.length ≤ 1000000) (hb : b.length ≤ 1000000) (hL : L.length ≤ 1000000) (H : HS w (wA wb L :: l)) : Calls Tryz.prog 110 #[.pointer (some ⟨wb, 0, none⟩), .slice (some ⟨w.heap.size, 0, none⟩) 2 2] (w.alloc (.cells #[.string ⟨a.toArray⟩, .string ⟨b.toArray⟩] 9)) (WdPost wb (L ++ [wdK a, wdK b]) l) :=
  write_s [a, b] (by simpa using ⟨ha, hb⟩) (by simp) hL (H.alloc _ _)
theorem write3_s (a b c : Bs) (ha : a.length ≤ 1000000) (hb : b.length ≤ 1000000) (hc : c.length ≤ 1000000) (hL : L.length ≤ 1000000) (H : HS w (wA wb L :: l)) : Calls Tryz.prog 110 #[.pointer (some ⟨wb, 0, none⟩), .slice (some ⟨w.heap.size, 0, none⟩) 3 3] (w.alloc (.cells #[.string ⟨a.toArray⟩, .string ⟨b.toArray⟩, .string ⟨c.toArray⟩] 9)) (WdPost wb (L ++ [wdK a, wdK b, wdK c]) l) :=
  write_s [a, b, c] (by simpa using ⟨ha, hb, hc⟩) (by simp) hL (H.alloc _ _)
end
def ewC (wb : Nat) (t1 t2 t3 : Value) : Array Value := #[.pointer (some ⟨wb, 0, none⟩), t1, t2, t3]
def WrPost (eb wb : Nat) (t1 t2 t3 : Value) (L : List Tk) (l : List HA) (v : Value) (e : Ending) (w' : World) : Prop := e = .returned v ∧ HS w' (boxA eb (ewC wb t1 t2 t3) 122 :: wA wb L :: l)
theorem constant_s {w : World} {l : List HA} {eb wb : Nat} {t1 t2 t3 : Value} {L : List Tk} (v : V) (hv : v.ok = true) (h0 : v.k ≠ 0) (hL : L.length ≤ 1000000) (H : HS w (boxA eb (ewC wb t1 t2 t3) 122 :: wA wb L :: l)) :
    Calls Tryz.prog 108 #[.pointer (some ⟨eb, 0, none⟩), .agg #[.int .i64 v.k, .int .i64 v.n, .string v.s]] w (WrPost eb wb t1 t2 t3 (L ++ constW v) l (.tuple #[])) := by
  obtain ⟨k, n, ⟨s⟩⟩ := v
  dsimp only at h0 ⊢
  obtain ⟨z, w1, ez, ew, H1⟩ := H.alloc_ex #[.int .i64 k, .int .i64 n, .string ⟨s⟩] 36
  clear H
  have hn : k ≠ 2 → -4294967296 ≤ n ∧ n ≤ 4294967296 := fun h2 => by
    unfold V.ok at hv
    simp only [Bool.or_eq_true, Bool.and_eq_true, beq_iff_eq, decide_eq_true_eq] at hv
    rcases hv with (⟨⟨h, -⟩, -⟩ | ⟨⟨⟨-, h⟩, h'⟩, -⟩) | ⟨⟨h, -⟩, -⟩
    · exact absurd h h0
    · omega
    · exact absurd h h2
  obtain ⟨dB, dL, hcB⟩ := HS.get (z := eb) H1; obtain ⟨d0, df0⟩ := hcB 0; clear hcB; unfold ewC at d0
  obtain ⟨xB, xL, hcB⟩ := HS.get (z := z) H1; obtain ⟨x0, xf0⟩ := hcB 0; obtain ⟨x1, xf1⟩ := hcB 1; obtain ⟨x2, xf2⟩ := hcB 2; clear hcB
  unfold WrPost
  by_cases hk : k = 2
  · subst hk
    rw [show constW ⟨2, n, ⟨s⟩⟩ = [⟨3, s.toList, 0, 0⟩] from rfl]
    clear hv h0 hn
    obtain ⟨A, c, H2⟩ := H1.wOpen (wb := wb) (L := L) pkQ
    obtain ⟨yB, yL, hcB⟩ := HS.get (z := wb) H2; obtain ⟨y0, yf0⟩ := hcB 0; clear hcB
    clear H1
    go_enter Tryz.func108, Tryz.ntmps108
    go_upto_region 3 with fail
    (try rw [ez]); (try rw [ew])
    clear ez ew
    (refine wp_region_G 18 (fun w' => w'.cell? ⟨eb, 0, none⟩ = some (.pointer (some ⟨wb, 0, none⟩)) ∧ w'.cell? ⟨wb, 0, none⟩ = some (.slice A L.length c) ∧ w'.cell? ⟨z, 2, none⟩ = some (.string ⟨s⟩)) (by kernel_rfl) ?_ (fun hHeld => ?_); (focus (try dsimp only); go_keep))
    (refine GG.k 0 ?_; refine GG.k 1 ?_; refine GG.k 2 ?_; refine GG.k 3 ?_; refine GG.k 4 ?_; refine GG.k 5 ?_; refine GG.k 6 ?_; refine GG.k 7 ?_; refine GG.k 8 ?_; refine GG.k 9 ?_; refine GG.k 10 ?_; refine GG.k 11 ?_; refine GG.k 12 ?_; refine GG.k 13 ?_)
    have H3 := H2.drew.alloc #[.int .i64 3, .string ⟨s⟩, .int .i64 0, .int .i64 0] 100
    have own7 := H3.row (v := .slice A L.length c) pkQ
    (refine GG.o 14 (fun K hK => ?_); go_simp; refine hK.out _ _ ?_ (fun hHeld => ?_); (focus (try dsimp only); go_keep); clear hK K; (try simp only [Act.put, qqa, qqb, qqc]))
    (refine GG.o 15 (fun K hK => ?_); (refine step_app3 (v := .slice A L.length c) (by rfl) _ _ stTk (by rfl) (by rfl) own7 (by rfl) (news := [.int .i64 3, .string ⟨s⟩, .int .i64 0, .int .i64 0]) (by rfl) (litRd (heap_alloc_new _ _)) (fun h => by cases h) (by intro u hu; simp at hu; (repeat' (rcases hu with rfl | hu)); all_goals (first | rfl | (subst hu; rfl))) (by omega) (by first | exact Nat.zero_le _ | omega | (simp; omega)) ?_; intro vA wA ownA gA atA; have H5 := H3.app (v := .slice A L.length c) pkQ ownA gA atA; obtain ⟨hB, hL, hcB⟩ := HS.get (z := wb) H5; obtain ⟨h0, hf0⟩ := hcB 0; clear hcB; obtain ⟨kB, kL, hcB⟩ := HS.get (z := eb) H5; obtain ⟨k0, kf0⟩ := hcB 0; clear hcB; unfold ewC at k0; obtain ⟨mB, mL, hcB⟩ := HS.get (z := z) H5; obtain ⟨m2, mf2⟩ := hcB 2; clear hcB; obtain ⟨AB, cB, rfl, -, -⟩ := own_slice ownA; clear ownA gA atA); refine hK.out _ _ ?_ (fun hHeld => ?_); (focus (try dsimp only); go_keep); clear hK K; (try simp only [Act.put, qqa, qqb, qqc]))
    (refine GG.k 16 ?_; refine GG.k 17 ?_)
    (refine GG.l (fun K hK => ?_); go_simp; refine hK.out _ _ ?_; clear hK K)
    go_wp2_with fail
    go_end0
    refine ⟨rfl, ?_⟩
    exact (HS.wPush (t := ⟨3, s.toList, 0, 0⟩) rfl ((H5.storeTo (z := wb) pkQ 0 (.slice AB (L.length + 1) cB) #[.slice AB (L.length + 1) cB] rfl).sub (l' := boxA wb #[.slice AB (L.length + 1) cB] 92 :: rowA 100 4 (.slice AB (L.length + 1) cB) (L.length + 1) (L.flatMap Tk.cells ++ [.int .i64 3, .string ⟨s⟩, .int .i64 0, .int .i64 0]) :: boxA eb (ewC wb t1 t2 t3) 122 :: l) pkQ)).sub pkQ
  · have hk1 : (k == 2) = false := by simpa using hk
    obtain ⟨hn1, hn2⟩ := hn hk
    by_cases h3 : n < 0
    · rw [show constW ⟨k, n, ⟨s⟩⟩ = [wdK [45], numK (-n)] by unfold constW; rw [if_neg hk, if_pos h3]]
      have hneg : IntKind.i64.wrap (-n) = -n := IntWalk.i64_in _ (by omega)
      have HL := Lib.hid (show (L ++ [wdK [45]]).length ≤ 1001000 by rw [List.length_append, List.length_singleton]; omega)
      clear hk hv h0 hn
      have hW := write1_s [45] (by simp) hL (H1.sub (l' := wA wb L :: boxA eb (ewC wb t1 t2 t3) 122 :: boxA z #[.int .i64 k, .int .i64 n, .string ⟨s⟩] 36 :: l) pkQ)
      unfold WdPost at hW
      clear H1
      go_enter Tryz.func108, Tryz.ntmps108
      go_upto_region 5 with fail
      (try rw [ez]); (try rw [ew])
      clear ez ew
      go_upto_region 6 with (go_at_call 110; (with_reducible refine hW.mono ?_); rintro e w2 ⟨rfl, H2⟩)
      clear d0 df0 x0 x1 x2 xf0 xf1 xf2 dB dL xB xL hW
      obtain ⟨dB, dL, hcB⟩ := HS.get (z := eb) H2; obtain ⟨d0, df0⟩ := hcB 0; clear hcB; unfold ewC at d0
      obtain ⟨xB, xL, hcB⟩ := HS.get (z := z) H2; obtain ⟨x0, xf0⟩ := hcB 0; obtain ⟨x1, xf1⟩ := hcB 1; obtain ⟨x2, xf2⟩ := hcB 2; clear hcB
      have hN := number_w (-n) HL.out H2.drew
      (refine wp_region_G 7 (fun w' => w'.cell? ⟨eb, 0, none⟩ = some (.pointer (some ⟨wb, 0, none⟩)) ∧ w'.cell? ⟨z, 1, none⟩ = some (.int .i64 n)) (by kernel_rfl) ?_ (fun hHeld => ?_); (focus (try dsimp only); go_keep))
      (refine GG.k 0 ?_; refine GG.k 1 ?_; refine GG.k 2 ?_; refine GG.k 3 ?_; refine GG.k 4 ?_; refine GG.k 5 ?_; refine GG.k 6 ?_)
      (refine GG.l (fun K hK => ?_); (go_simp; go_at_call 172; (with_reducible refine hN.mono ?_); rintro e w3 ⟨rfl, H3⟩); refine hK.out _ _ ?_; clear hK K)
      go_wp2_with fail
      go_end0
      refine ⟨rfl, ?_⟩
      rw [show L ++ [wdK [45], numK (-n)] = (L ++ [wdK [45]]) ++ [numK (-n)] by rw [List.append_assoc]; rfl]
      exact H3.sub pkQ
    · rw [show constW ⟨k, n, ⟨s⟩⟩ = [numK n] by unfold constW; rw [if_neg hk, if_neg h3]]
      have hN := number_w n (by omega) ((H1.sub (l' := wA wb L :: boxA eb (ewC wb t1 t2 t3) 122 :: boxA z #[.int .i64 k, .int .i64 n, .string ⟨s⟩] 36 :: l) pkQ).drew)
      clear hk hv h0 hn H1
      go_enter Tryz.func108, Tryz.ntmps108
      go_upto_region 1 with fail
      (try rw [ez]); (try rw [ew])
      clear ez ew
      (refine wp_region_G 6 (fun w' => w'.cell? ⟨eb, 0, none⟩ = some (.pointer (some ⟨wb, 0, none⟩)) ∧ w'.cell? ⟨z, 1, none⟩ = some (.int .i64 n)) (by kernel_rfl) ?_ (fun hHeld => ?_); (focus (try dsimp only); go_keep))
      (refine GG.k 0 ?_; refine GG.k 1 ?_; refine GG.k 2 ?_; refine GG.k 3 ?_; refine GG.k 4 ?_; refine GG.k 5 ?_)
      (refine GG.l (fun K hK => ?_); (go_simp; go_at_call 172; (with_reducible refine hN.mono ?_); rintro e w3 ⟨rfl, H3⟩); refine hK.out _ _ ?_; clear hK K)
      go_wp2_with fail
      go_end0
      exact ⟨rfl, H3.sub pkQ⟩
theorem reference_s {w0 w : World} {l l' : List HA} {eb wb ln lc rn rc : Nat} {t1 : Value} {LA DA : Option Addr} {left right : List Bs} {L : List Tk} (c : Nat) (hc : c < ln + rn) (hl : RowB w0 w0.heap.size LA ln left) (hr : RowB w0 w0.heap.size DA rn right) (hln : ln ≤ 1000000) (hrn : rn ≤ 1000000) (hnm : (colName left right c).length ≤ 1000000) (hL : L.length ≤ 1000000)
    (H : HS w (boxA eb (ewC wb t1 (.slice LA ln lc) (.slice DA rn rc)) 122 :: wA wb L :: l)) (ho : Pick l (oldA w0) l') :
    Calls Tryz.prog 109 #[.pointer (some ⟨eb, 0, none⟩), .int .i64 (c : Int)] w (WrPost eb wb t1 (.slice LA ln lc) (.slice DA rn rc) (L ++ refW left right c) l (.tuple #[])) := by
  have hll := hl.len
  have Hd := H.drew
  have hb := Hd.old (.there (.there ho))
  have hN := columnName_c (lc := lc) (rc := rc) c ((hl.below hb).more hb.size) ((hr.below hb).more hb.size) hln hrn hc
  have Hw := Hd.sub (l' := wA wb L :: boxA eb (ewC wb t1 (.slice LA ln lc) (.slice DA rn rc)) 122 :: l) pkQ
  obtain ⟨dB, dL, hcB⟩ := HS.get (z := eb) H; obtain ⟨d0, df0⟩ := hcB 0; obtain ⟨d2, df2⟩ := hcB 2; obtain ⟨d3, df3⟩ := hcB 3; clear hcB; unfold ewC at d0 d2 d3
  unfold WrPost refW
  rw [hll]
  have h0 : (0 : Int) ≤ (c : Int) := by omega
  generalize colName left right c = nm at hN hnm ⊢
  clear H hl hr hb hll Hd
  by_cases h : ln ≤ c
  · rw [if_pos h]
    have h1 : (ln : Int) ≤ (c : Int) := by omega
    have hW := write3_s wRight [46] nm (by decide) (by decide) hnm hL Hw
    unfold WdPost at hW
    unfold wRight at hW ⊢
    go_enter Tryz.func109, Tryz.ntmps109
    go_upto_region 0 with fail
    (refine wp_region_G 10 (fun w' => w'.cell? ⟨eb, 2, none⟩ = some (.slice LA ln lc) ∧ w'.cell? ⟨eb, 3, none⟩ = some (.slice DA rn rc)) (by kernel_rfl) ?_ (fun hHeld => ?_); (focus (try dsimp only); go_keep))
    (refine GG.k 0 ?_; refine GG.k 1 ?_; refine GG.k 2 ?_; refine GG.k 3 ?_; refine GG.k 4 ?_; refine GG.k 5 ?_; refine GG.k 6 ?_; refine GG.k 7 ?_; refine GG.k 8 ?_)
    (refine GG.o 9 (fun K hK => ?_); (go_simp; go_at_call 33; (with_reducible refine hN.mono ?_); rintro e w2 ⟨rfl, rfl⟩); refine hK.out _ _ ?_ (fun hHeld => ?_); (focus (try dsimp only); go_keep); clear hK K; (try simp only [Act.put, qqa, qqb, qqc]))
    (refine GG.l (fun K hK => ?_); go_simp; refine hK.out _ _ ?_; clear hK K)
    go_wp2_with (go_at_call 110; refine hW.mono ?_; rintro e w3 ⟨rfl, H3⟩)
    go_end0
    exact ⟨rfl, H3.sub pkQ⟩
  · rw [if_neg h]
    have h1 : ¬ (ln : Int) ≤ (c : Int) := by omega
    by_cases hq : nm = wNot
    · rw [if_pos hq]
      have e1 : (nm == [110, 111, 116]) = true := by rw [hq]; rfl
      have hW := write3_s wLeft [46] nm (by decide) (by decide) hnm hL Hw
      unfold WdPost at hW
      rw [show wdK wNot = wdK nm by rw [hq]]
      unfold wLeft at hW ⊢
      clear hq
      go_enter Tryz.func109, Tryz.ntmps109
      go_upto_region 0 with fail
      (refine wp_region_G 10 (fun w' => w'.cell? ⟨eb, 2, none⟩ = some (.slice LA ln lc) ∧ w'.cell? ⟨eb, 3, none⟩ = some (.slice DA rn rc)) (by kernel_rfl) ?_ (fun hHeld => ?_); (focus (try dsimp only); go_keep))
      (refine GG.k 0 ?_; refine GG.k 1 ?_; refine GG.k 2 ?_; refine GG.k 3 ?_; refine GG.k 4 ?_; refine GG.k 5 ?_; refine GG.k 6 ?_; refine GG.k 7 ?_; refine GG.k 8 ?_)
      (refine GG.o 9 (fun K hK => ?_); (go_simp; go_at_call 33; (with_reducible refine hN.mono ?_); rintro e w2 ⟨rfl, rfl⟩); refine hK.out _ _ ?_ (fun hHeld => ?_); (focus (try dsimp only); go_keep); clear hK K; (try simp only [Act.put, qqa, qqb, qqc]))
      (refine GG.l (fun K hK => ?_); go_simp; refine hK.out _ _ ?_; clear hK K)
      go_wp2_with (go_at_call 110; refine hW.mono ?_; rintro e w3 ⟨rfl, H3⟩)
      go_end0
      exact ⟨rfl, H3.sub pkQ⟩
    · rw [if_neg hq]
      have e1 : (nm == [110, 111, 116]) = false := by simpa [wNot] using hq
      have hW := write1_s nm hnm hL Hw
      unfold WdPost at hW
      clear hq
      go_enter Tryz.func109, Tryz.ntmps109
      go_upto_region 0 with fail
      (refine wp_region_G 10 (fun w' => w'.cell? ⟨eb, 2, none⟩ = some (.slice LA ln lc) ∧ w'.cell? ⟨eb, 3, none⟩ = some (.slice DA rn rc)) (by kernel_rfl) ?_ (fun hHeld => ?_); (focus (try dsimp only); go_keep))
      (refine GG.k 0 ?_; refine GG.k 1 ?_; refine GG.k 2 ?_; refine GG.k 3 ?_; refine GG.k 4 ?_; refine GG.k 5 ?_; refine GG.k 6 ?_; refine GG.k 7 ?_; refine GG.k 8 ?_)
      (refine GG.o 9 (fun K hK => ?_); (go_simp; go_at_call 33; (with_reducible refine hN.mono ?_); rintro e w2 ⟨rfl, rfl⟩); refine hK.out _ _ ?_ (fun hHeld => ?_); (focus (try dsimp only); go_keep); clear hK K; (try simp only [Act.put, qqa, qqb, qqc]))
      (refine GG.l (fun K hK => ?_); go_simp; refine hK.out _ _ ?_; clear hK K)
      go_wp2_with (go_at_call 110; refine hW.mono ?_; rintro e w3 ⟨rfl, H3⟩)
      go_end0
      exact ⟨rfl, H3.sub pkQ⟩
end Go.Proofs.YtpnfbehbheddeaaGreatDoor
