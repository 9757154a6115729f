/- The operands of a function, written: the closure of write, and list. At most 1000000 tokens. What the writer of expressions has written, the parser reads again: the trees. Plain Lean, no program in sight. -/
import Derived.Test.YtgnmnaclndkmdaaGreatDoorBn41
import Derived.Test.YtgnmnaclndkmdaaGreatDoorBn40
namespace Go.Proofs.YtgnmnaclndkmdaaGreatDoor
open Go.RowKit

theorem commaW_snoc : ∀ (l : List (List Tk)) (a : List Tk), commaW (l ++ [a]) = if l = [] then a else commaW l ++ wdK [44] :: a
  | [], a => rfl
  | [b], a => rfl
  | b :: c :: l, a => by
    have h := commaW_snoc (c :: l) a
    rw [if_neg (by simp)] at h ⊢
    show b ++ wdK [44] :: commaW ((c :: l) ++ [a]) = (b ++ wdK [44] :: commaW (c :: l)) ++ wdK [44] :: a
    rw [h]
    simp
theorem commaW_le (l : List (List Tk)) : ∀ m : List (List Tk), (commaW l).length ≤ (commaW (l ++ m)).length := by
  intro m
  induction m generalizing l with
  | nil => simp
  | cons a m ih =>
    have h1 := ih (l ++ [a])
    rw [List.append_assoc, List.singleton_append] at h1
    refine Nat.le_trans ?_ h1
    rw [commaW_snoc]
    split
    · rename_i h
      subst h
      simp [commaW]
    · simp
theorem commaW_take (ls : List (List Tk)) (i : Nat) : (commaW (ls.take i)).length ≤ (commaW ls).length := by
  have := commaW_le (ls.take i) (ls.drop i)
  rwa [List.take_append_drop] at this
section
variable {w0 w : World} {l l' : List HA} {eb wb bx be : Nat} {t1 t2 t3 : Value} {L : List Tk}
set_option maxRecDepth 100000 in
set_option maxHeartbeats 4000000 in
theorem closure_s {p q : Nat} {W : List Tk} (hW : WC w0 eb wb t1 t2 t3 p q W) (i : Int) (hL : L.length + W.length ≤ 1000000) (H : HS w (boxA bx #[.pointer (some ⟨eb, 0, none⟩)] 115 :: boxA be #[.int .i64 (p : Int)] 3 :: boxA eb (ewC wb t1 t2 t3) 99 :: wA wb L :: l)) (ho : Pick l (oldA w0) l') :
    Calls Tryz.prog 63 #[.int .i64 i, .pointer (some ⟨bx, 0, none⟩), .pointer (some ⟨be, 0, none⟩)] w fun e w' => e = .returned (.tuple #[]) ∧ HS w' (boxA bx #[.pointer (some ⟨eb, 0, none⟩)] 115 :: boxA be #[.int .i64 (q : Int)] 3 :: boxA eb (ewC wb t1 t2 t3) 99 :: wA wb (L ++ W) :: l) := by
  have dB := HS.box (z := bx) H (by with_reducible repeat constructor); have dL := Box.lt dB; obtain ⟨hcB, hfB⟩ := Box.cells dB; have d0 := hcB 0; have df0 := hfB 0; clear hcB hfB
  have xB := HS.box (z := be) H (by with_reducible repeat constructor); have xL := Box.lt xB; obtain ⟨hcB, hfB⟩ := Box.cells xB; have x0 := hcB 0; have xf0 := hfB 0; clear hcB hfB
  have hC := hW w (boxA bx #[.pointer (some ⟨eb, 0, none⟩)] 115 :: boxA be #[.int .i64 (p : Int)] 3 :: l) _ L hL (H.sub (by with_reducible repeat constructor)) (.there (.there ho))
  unfold WrPost at hC
  clear hW H ho
  go_enter Tryz.func63, Tryz.ntmps63
  go_wp2_with (go_at_call 37; (with_reducible refine hC.mono ?_); rintro e w2 ⟨rfl, H2⟩; have yB := HS.box (z := be) H2 (by with_reducible repeat constructor); have yL := Box.lt yB; obtain ⟨hcB, hfB⟩ := Box.cells yB; have y0 := hcB 0; have yf0 := hfB 0; clear hcB hfB)
  go_end0
  exact ⟨rfl, (H2.storeTo (z := be) (by with_reducible repeat constructor) 0 (.int .i64 (q : Int)) #[.int .i64 (q : Int)] rfl).sub (by with_reducible repeat constructor)⟩
set_option maxRecDepth 100000 in
set_option maxHeartbeats 4000000 in
theorem list_w (ls : List (List Tk)) (P : Nat → Nat) (hW : ∀ i W, ls[i]? = some W → WC w0 eb wb t1 t2 t3 (P i) (P (i + 1)) W) (hL : L.length + (commaW ls).length ≤ 1000000) (hn : ls.length ≤ 1000) (H : HS w (boxA bx #[.pointer (some ⟨eb, 0, none⟩)] 115 :: boxA be #[.int .i64 (P 0 : Int)] 3 :: boxA eb (ewC wb t1 t2 t3) 99 :: wA wb L :: l)) (ho : Pick l (oldA w0) l') :
    Calls Tryz.prog 62 #[.pointer (some ⟨wb, 0, none⟩), .int .i64 (ls.length : Int), .func (.func 63) #[] #[.pointer (some ⟨bx, 0, none⟩), .pointer (some ⟨be, 0, none⟩)]] w fun e w' => e = .returned (.tuple #[]) ∧ HS w' (boxA bx #[.pointer (some ⟨eb, 0, none⟩)] 115 :: boxA be #[.int .i64 (P ls.length : Int)] 3 :: boxA eb (ewC wb t1 t2 t3) 99 :: wA wb (L ++ commaW ls) :: l) := by
  have HW := Lib.hid hW
  have HO := Lib.hid ho
  have HC := Lib.hid (fun i => commaW_take ls i)
  clear hW ho
  go_enter Tryz.func62, Tryz.ntmps62
  go_upto_region 1 with fail
  go_loopw [8] (fun v8 wr => ∃ i : Nat, v8 = .int .i64 (i : Int) ∧ i ≤ ls.length ∧ HS wr (boxA bx #[.pointer (some ⟨eb, 0, none⟩)] 115 :: boxA be #[.int .i64 (P i : Int)] 3 :: boxA eb (ewC wb t1 t2 t3) 99 :: wA wb (L ++ commaW (ls.take i)) :: l)) (fun v8 _ => ls.length - (intOf v8).toNat)
  case atStart => exact ⟨0, rfl, by omega, by rw [List.take_zero]; show HS w (_ :: _ :: _ :: wA wb (L ++ []) :: l); rw [List.append_nil]; exact H⟩
  case round =>
    obtain ⟨i, rfl, hi, Hr⟩ := hrel
    clear H
    by_cases hlt : i < ls.length
    · have h1 : (i : Int) < (ls.length : Int) := by omega
      obtain ⟨W, hWi⟩ : ∃ W, ls[i]? = some W := ⟨_, List.getElem?_eq_getElem hlt⟩
      have hWC := HW.out i W hWi
      have hs := commaW_snoc (ls.take i) W
      have hs2 : ls.take (i + 1) = ls.take i ++ [W] := by rw [List.take_add_one, hWi]; rfl
      rw [← hs2] at hs
      have hle := HC.out (i + 1)
      by_cases h0 : i = 0
      · subst h0
        rw [List.take_zero, if_pos rfl] at hs
        rw [List.take_zero, show L ++ commaW [] = L from List.append_nil L] at Hr
        have HS2 := Lib.hid hs
        have hF := closure_s hWC (0 : Int) (by rw [hs] at hle; omega) Hr HO.out
        clear hs hs2 hle hWC hWi Hr
        go_wp2_with (go_at_call 63; (with_reducible refine hF.mono ?_); rintro e w2 ⟨rfl, H2⟩)
        go_roundw
        case rel => exact ⟨1, rfl, by omega, by rw [HS2.out]; exact H2⟩
        case measure => simp [intOf]; omega
      · rw [if_neg (by intro e; have := congrArg List.length e; rw [List.length_take, List.length_nil] at this; omega)] at hs
        have hi0 : (0 : Int) < (i : Int) := by omega
        have HS2 := Lib.hid (show L ++ commaW (ls.take (i + 1)) = ((L ++ commaW (ls.take i)) ++ [wdK [44]]) ++ W by rw [hs]; simp)
        have hlen : (L ++ commaW (ls.take i)).length + (1 + W.length) ≤ 1000000 := by
          rw [hs, List.length_append, List.length_cons] at hle
          rw [List.length_append]
          omega
        have hW1 := write1_s [44] (by simp) (by omega) (Hr.sub (l' := wA wb (L ++ commaW (ls.take i)) :: boxA bx #[.pointer (some ⟨eb, 0, none⟩)] 115 :: boxA be #[.int .i64 (P i : Int)] 3 :: boxA eb (ewC wb t1 t2 t3) 99 :: l) (by with_reducible repeat constructor))
        unfold WdPost at hW1
        have hF := fun w1 H1 => closure_s (w := w1) (L := (L ++ commaW (ls.take i)) ++ [wdK [44]]) (bx := bx) (be := be) (l := l) hWC (i : Int) (by rw [List.length_append, List.length_singleton]; omega) H1 HO.out
        clear hs hs2 hle hWC hWi Hr hlen h0
        go_wp2_with (first
          | (go_at_call 60; (with_reducible refine hW1.mono ?_); rintro e w2 ⟨rfl, H2⟩)
          | (go_at_call 63; (with_reducible refine (hF _ (H2.sub (by with_reducible repeat constructor))).mono ?_); rintro e w3 ⟨rfl, H3⟩))
        go_roundw
        case rel => exact ⟨i + 1, by go_num, by omega, by rw [HS2.out]; exact H3⟩
        case measure => simp [intOf]; omega
    · obtain rfl : i = ls.length := by omega
      have h1 : ¬ (ls.length : Int) < (ls.length : Int) := by omega
      rw [List.take_of_length_le (Nat.le_refl _)] at Hr
      go_wp2_with fail
      go_end0
      exact ⟨rfl, Hr⟩
end
end Go.Proofs.YtgnmnaclndkmdaaGreatDoor
namespace Go.Proofs.YtgnmnaclndkmdaaGreatDoor

theorem node_const {t : T} (h : t.ok = true) (h1 : t.op = 1) : t = ⟨1, t.v, 0⟩ ∧ t.v.ok = true ∧ t.v.k ≠ 0 := by
  unfold T.ok at h
  rw [h1] at h
  simp only [if_pos, Bool.and_eq_true, beq_iff_eq, bne_iff_ne, ne_eq] at h
  obtain ⟨-, h2, h3, h4⟩ := h
  obtain ⟨op, v, c⟩ := t
  simp only at h1 h2 h3 h4 ⊢
  exact ⟨by rw [h1, h2], h4, h3⟩
theorem node_col {t : T} (h : t.ok = true) (h1 : t.op = 2) : t = ⟨2, V.null, t.c⟩ ∧ 0 ≤ t.c := by
  unfold T.ok at h
  rw [h1] at h
  simp only [show ((2 : Int) = 1) = False by decide, if_false, if_true, Bool.and_eq_true, decide_eq_true_eq, V.beq_iff] at h
  obtain ⟨-, h2, h3⟩ := h
  obtain ⟨op, v, c⟩ := t
  simp only at h1 h2 h3 ⊢
  exact ⟨by rw [h1, h3], h2⟩
def isBin (op : Int) : Prop := op = 4 ∨ op = 5 ∨ op = 6 ∨ op = 7 ∨ op = 8 ∨ op = 11 ∨ op = 12 ∨ op = 14 ∨ op = 15
theorem bin_facts {op : Int} (h : isBin op) : opP (opW op) = op ∧ arity op = 2 ∧ isFun op = false := by
  unfold isBin at h
  rcases h with rfl | rfl | rfl | rfl | rfl | rfl | rfl | rfl | rfl <;> decide
end Go.Proofs.YtgnmnaclndkmdaaGreatDoor
