/- operand of the writer of expressions, where write does what it shall. At most 1000000 tokens. The operands of a function, written: the closure of write, and list. At most 1000000 tokens. -/
import Derived.Test.YtpnfbehbheddeaaGreatDoorBn42
import Derived.Test.YtpnfbehbheddeaaGreatDoorBn06
namespace Go.Proofs.YtpnfbehbheddeaaGreatDoor
set_option maxRecDepth 100000
set_option maxHeartbeats 8000000
set_option linter.unusedVariables false
set_option linter.unusedSimpArgs false
open Go.RowKit
def WC (w0 : World) (eb wb : Nat) (t1 t2 t3 : Value) (pos q : Nat) (W : List Tk) : Prop := ∀ (w : World) (l l' : List HA) (L : List Tk), L.length + W.length ≤ 1000000 → HS w (boxA eb (ewC wb t1 t2 t3) 122 :: wA wb L :: l) → Pick l (oldA w0) l' →
  Calls Tryz.prog 65 #[.pointer (some ⟨eb, 0, none⟩), .int .i64 (pos : Int)] w (WrPost eb wb t1 t2 t3 (L ++ W) l (.int .i64 (q : Int)))
def operT (t : T) (neg : Bool) (W : List Tk) : List Tk := if bareW t neg = true then W else wdK [40] :: (W ++ [wdK [41]])
theorem operand_s {w0 : World} {eb wb tn tc pos q : Nat} {TA : Option Addr} {t2 t3 : Value} {es : List T} {W : List Tk} (t : T) (hT : RowT w0 w0.heap.size TA tn es) (ht : es[pos]? = some t) (_htn : tn ≤ 1000) (h1 : 1 ≤ t.op) (h2 : t.op ≤ 18) (hW : WC w0 eb wb (.slice TA tn tc) t2 t3 pos q W) (neg : Bool)
    {w : World} {l l' : List HA} {L : List Tk} (hL : L.length + (operT t neg W).length ≤ 1000000) (H : HS w (boxA eb (ewC wb (.slice TA tn tc) t2 t3) 122 :: wA wb L :: l)) (ho : Pick l (oldA w0) l') :
    Calls Tryz.prog 114 #[.pointer (some ⟨eb, 0, none⟩), .int .i64 (pos : Int), .bool neg] w (WrPost eb wb (.slice TA tn tc) t2 t3 (L ++ operT t neg W) l (.int .i64 (q : Int))) := by
  have hb := H.old (.there (.there ho))
  have hlt : pos < tn := by
    have := (List.getElem?_eq_some_iff.1 ht).1
    rw [hT.len] at this
    exact this
  obtain ⟨b, off, t', rfl, hbb, ht', c0, c1, c2, c3, c4⟩ := RowT.at5 ((hT.below hb).more hb.size) hlt
  obtain rfl := Option.some.inj (ht'.symm.trans ht)
  have hp0 : (0 : Int) ≤ (pos : Int) := by omega
  have hp1 : (pos : Int) < (tn : Int) := by omega
  obtain ⟨dB, dL, hcB⟩ := HS.get (z := eb) H; obtain ⟨d0, df0⟩ := hcB 0; obtain ⟨d1, df1⟩ := hcB 1; clear hcB; unfold ewC at d0 d1
  have hI := isBare_c (w := w) eb t' neg h1 h2
  unfold operT at hL ⊢
  unfold WC at hW
  unfold WrPost at hW ⊢
  clear hb ht ht' hT h1 h2 hlt
  cases hbr : bareW t' neg with
  | true =>
    rw [hbr, if_pos rfl] at hL
    rw [hbr] at hI
    rw [if_pos rfl]
    have hC := fun w1 H1 => hW w1 l l' L hL H1 ho
    clear hbr hW ho
    go_enter Tryz.func114, Tryz.ntmps114
    go_wp2_with (first
      | (go_at_call 173; (with_reducible refine hI.mono ?_); rintro e w2 ⟨rfl, hb2⟩; have H2 := H.below hb2)
      | (go_at_call 65; (with_reducible refine (hC _ H2).mono ?_); rintro e w3 ⟨rfl, H3⟩))
    go_ret
    exact ⟨rfl, H3⟩
  | false =>
    rw [hbr, if_neg (by simp), List.length_cons, List.length_append, List.length_singleton] at hL
    rw [hbr] at hI
    rw [if_neg (by simp)]
    have hC := fun w1 H1 => hW w1 l l' (L ++ [wdK [40]]) (by rw [List.length_append, List.length_singleton]; omega) H1 ho
    have HL1 := Lib.hid (show L.length ≤ 1000000 by omega)
    have HL2 := Lib.hid (show ((L ++ [wdK [40]]) ++ W).length ≤ 1000000 by rw [List.length_append, List.length_append, List.length_singleton]; omega)
    have HE := Lib.hid (show L ++ wdK [40] :: (W ++ [wdK [41]]) = ((L ++ [wdK [40]]) ++ W) ++ [wdK [41]] by simp)
    rw [HE.out]
    clear hbr hW ho hL
    go_enter Tryz.func114, Tryz.ntmps114
    go_upto_region 3 with (go_at_call 173; (with_reducible refine hI.mono ?_); rintro e w2 ⟨rfl, hb2⟩; have H2 := H.below hb2)
    clear c0 c1 c2 c3 c4 d0 d1 df0 df1 dB dL H hI
    obtain ⟨dB, dL, hcB⟩ := HS.get (z := eb) H2; obtain ⟨d0, df0⟩ := hcB 0; clear hcB; unfold ewC at d0
    have hW1 := write1_s [40] (by simp) HL1.out (H2.sub (l' := wA wb L :: boxA eb (ewC wb (.slice (some ⟨b, off, none⟩) tn tc) t2 t3) 122 :: l) pkQ)
    unfold WdPost at hW1
    go_upto_region 5 with (first
      | (go_at_call 110; (with_reducible refine hW1.mono ?_); rintro e w3 ⟨rfl, H3⟩)
      | (go_at_call 65; (with_reducible refine (hC _ (H3.sub pkQ)).mono ?_); rintro e w4 ⟨rfl, H4⟩))
    clear d0 df0 dB dL H2 hW1 H3
    obtain ⟨dB, dL, hcB⟩ := HS.get (z := eb) H4; obtain ⟨d0, df0⟩ := hcB 0; clear hcB; unfold ewC at d0
    have hW2 := write1_s [41] (by simp) HL2.out (H4.sub (l' := wA wb ((L ++ [wdK [40]]) ++ W) :: boxA eb (ewC wb (.slice (some ⟨b, off, none⟩) tn tc) t2 t3) 122 :: l) pkQ)
    unfold WdPost at hW2
    go_wp2_with (go_at_call 110; (with_reducible refine hW2.mono ?_); rintro e w5 ⟨rfl, H5⟩)
    go_ret
    exact ⟨rfl, H5.sub pkQ⟩
theorem commaW_snoc : ∀ (l : List (List Tk)) (a : List Tk), commaW (l ++ [a]) = if l = [] then a else commaW l ++ wdK [44] :: a
  | [], a => rfl
  | [b], a => rfl
  | b :: c :: l, a => by
    have h := commaW_snoc (c :: l) a
    rw [if_neg (by simp)] at h ⊢
    show b ++ wdK [44] :: commaW ((c :: l) ++ [a]) = (b ++ wdK [44] :: commaW (c :: l)) ++ wdK [44] :: a
    rw [h]
    simp
theorem commaW_le (l : List (List Tk)) : ∀ m : List (List Tk), (commaW l).length ≤ (commaW (l ++ m)).length := by
  intro m
  induction m generalizing l with
  | nil => simp
  | cons a m ih =>
    have h1 := ih (l ++ [a])
    rw [List.append_assoc, List.singleton_append] at h1
    refine Nat.le_trans ?_ h1
    rw [commaW_snoc]
    split
    · rename_i h
      subst h
      simp [commaW]
    · simp
theorem commaW_take (ls : List (List Tk)) (i : Nat) : (commaW (ls.take i)).length ≤ (commaW ls).length := by
  have := commaW_le (ls.take i) (ls.drop i)
  rwa [List.take_append_drop] at this
section
variable {w0 w : World} {l l' : List HA} {eb wb bx be : Nat} {t1 t2 t3 : Value} {L : List Tk}
theorem closure_s {p q : Nat} {W : List Tk} (hW : WC w0 eb wb t1 t2 t3 p q W) (i : Int) (hL : L.length + W.length ≤ 1000000) (H : HS w (boxA bx #[.pointer (some ⟨eb, 0, none⟩)] 171 :: boxA be #[.int .i64 (p : Int)] 3 :: boxA eb (ewC wb t1 t2 t3) 122 :: wA wb L :: l)) (ho : Pick l (oldA w0) l') :
    Calls Tryz.prog 113 #[.int .i64 i, .pointer (some ⟨bx, 0, none⟩), .pointer (some ⟨be, 0, none⟩)] w fun e w' => e = .returned (.tuple #[]) ∧ HS w' (boxA bx #[.pointer (some ⟨eb, 0, none⟩)] 171 :: boxA be #[.int .i64 (q : Int)] 3 :: boxA eb (ewC wb t1 t2 t3) 122 :: wA wb (L ++ W) :: l) := by
  obtain ⟨dB, dL, hcB⟩ := HS.get (z := bx) H; obtain ⟨d0, df0⟩ := hcB 0; clear hcB
  obtain ⟨xB, xL, hcB⟩ := HS.get (z := be) H; obtain ⟨x0, xf0⟩ := hcB 0; clear hcB
  have hC := hW w (boxA bx #[.pointer (some ⟨eb, 0, none⟩)] 171 :: boxA be #[.int .i64 (p : Int)] 3 :: l) _ L hL (H.sub pkQ) (.there (.there ho))
  unfold WrPost at hC
  clear hW H ho
  go_enter Tryz.func113, Tryz.ntmps113
  go_wp2_with (go_at_call 65; (with_reducible refine hC.mono ?_); rintro e w2 ⟨rfl, H2⟩; obtain ⟨yB, yL, hcB⟩ := HS.get (z := be) H2; obtain ⟨y0, yf0⟩ := hcB 0; clear hcB)
  go_end0
  exact ⟨rfl, (H2.storeTo (z := be) pkQ 0 (.int .i64 (q : Int)) #[.int .i64 (q : Int)] rfl).sub pkQ⟩
theorem list_w (ls : List (List Tk)) (P : Nat → Nat) (hW : ∀ i W, ls[i]? = some W → WC w0 eb wb t1 t2 t3 (P i) (P (i + 1)) W) (hL : L.length + (commaW ls).length ≤ 1000000) (hn : ls.length ≤ 1000) (H : HS w (boxA bx #[.pointer (some ⟨eb, 0, none⟩)] 171 :: boxA be #[.int .i64 (P 0 : Int)] 3 :: boxA eb (ewC wb t1 t2 t3) 122 :: wA wb L :: l)) (ho : Pick l (oldA w0) l') :
    Calls Tryz.prog 112 #[.pointer (some ⟨wb, 0, none⟩), .int .i64 (ls.length : Int), .func (.func 113) #[] #[.pointer (some ⟨bx, 0, none⟩), .pointer (some ⟨be, 0, none⟩)]] w fun e w' => e = .returned (.tuple #[]) ∧ HS w' (boxA bx #[.pointer (some ⟨eb, 0, none⟩)] 171 :: boxA be #[.int .i64 (P ls.length : Int)] 3 :: boxA eb (ewC wb t1 t2 t3) 122 :: wA wb (L ++ commaW ls) :: l) := by
  have HW := Lib.hid hW
  have HO := Lib.hid ho
  have HC := Lib.hid (fun i => commaW_take ls i)
  clear hW ho
  go_enter Tryz.func112, Tryz.ntmps112
  go_upto_region 1 with fail
  go_loopw [8] (fun v8 wr => ∃ i : Nat, v8 = .int .i64 (i : Int) ∧ i ≤ ls.length ∧ HS wr (boxA bx #[.pointer (some ⟨eb, 0, none⟩)] 171 :: boxA be #[.int .i64 (P i : Int)] 3 :: boxA eb (ewC wb t1 t2 t3) 122 :: wA wb (L ++ commaW (ls.take i)) :: l)) (fun v8 _ => ls.length - (intOf v8).toNat)
  case atStart => exact ⟨0, rfl, by omega, by rw [List.take_zero]; show HS w (_ :: _ :: _ :: wA wb (L ++ []) :: l); rw [List.append_nil]; exact H⟩
  case round =>
    obtain ⟨i, rfl, hi, Hr⟩ := hrel
    clear H
    by_cases hlt : i < ls.length
    · have h1 : (i : Int) < (ls.length : Int) := by omega
      obtain ⟨W, hWi⟩ : ∃ W, ls[i]? = some W := ⟨_, List.getElem?_eq_getElem hlt⟩
      have hWC := HW.out i W hWi
      have hs := commaW_snoc (ls.take i) W
      have hs2 : ls.take (i + 1) = ls.take i ++ [W] := by rw [List.take_add_one, hWi]; rfl
      rw [← hs2] at hs
      have hle := HC.out (i + 1)
      by_cases h0 : i = 0
      · subst h0
        rw [List.take_zero, if_pos rfl] at hs
        rw [List.take_zero, show L ++ commaW [] = L from List.append_nil L] at Hr
        have HS2 := Lib.hid hs
        have hF := closure_s hWC (0 : Int) (by rw [hs] at hle; omega) Hr HO.out
        clear hs hs2 hle hWC hWi Hr
        go_wp2_with (go_at_call 113; (with_reducible refine hF.mono ?_); rintro e w2 ⟨rfl, H2⟩)
        go_roundw
        case rel => exact ⟨1, rfl, by omega, by rw [HS2.out]; exact H2⟩
        case measure => simp [intOf]; omega
      · rw [if_neg (by intro e; have := congrArg List.length e; rw [List.length_take, List.length_nil] at this; omega)] at hs
        have hi0 : (0 : Int) < (i : Int) := by omega
        have HS2 := Lib.hid (show L ++ commaW (ls.take (i + 1)) = ((L ++ commaW (ls.take i)) ++ [wdK [44]]) ++ W by rw [hs]; simp)
        have hlen : (L ++ commaW (ls.take i)).length + (1 + W.length) ≤ 1000000 := by
          rw [hs, List.length_append, List.length_cons] at hle
          rw [List.length_append]
          omega
        have hW1 := write1_s [44] (by simp) (by omega) (Hr.sub (l' := wA wb (L ++ commaW (ls.take i)) :: boxA bx #[.pointer (some ⟨eb, 0, none⟩)] 171 :: boxA be #[.int .i64 (P i : Int)] 3 :: boxA eb (ewC wb t1 t2 t3) 122 :: l) pkQ)
        unfold WdPost at hW1
        have hF := fun w1 H1 => closure_s (w := w1) (L := (L ++ commaW (ls.take i)) ++ [wdK [44]]) (bx := bx) (be := be) (l := l) hWC (i : Int) (by rw [List.length_append, List.length_singleton]; omega) H1 HO.out
        clear hs hs2 hle hWC hWi Hr hlen h0
        go_wp2_with (first
          | (go_at_call 110; (with_reducible refine hW1.mono ?_); rintro e w2 ⟨rfl, H2⟩)
          | (go_at_call 113; (with_reducible refine (hF _ (H2.sub pkQ)).mono ?_); rintro e w3 ⟨rfl, H3⟩))
        go_roundw
        case rel => exact ⟨i + 1, by go_num, by omega, by rw [HS2.out]; exact H3⟩
        case measure => simp [intOf]; omega
    · obtain rfl : i = ls.length := by omega
      have h1 : ¬ (ls.length : Int) < (ls.length : Int) := by omega
      rw [List.take_of_length_le (Nat.le_refl _)] at Hr
      go_wp2_with fail
      go_end0
      exact ⟨rfl, Hr⟩
end
end Go.Proofs.YtpnfbehbheddeaaGreatDoor
