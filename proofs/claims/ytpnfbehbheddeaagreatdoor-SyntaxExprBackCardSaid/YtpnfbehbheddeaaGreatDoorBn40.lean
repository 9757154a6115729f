/- operand of the writer of expressions, where write does what it shall. At most 1000000 tokens. The operands of a function, written: the closure of write, and list. At most 1000000 tokens. What the writer of expressions has written, the parser reads again: plain Lean, no program in sight. The trees are well-formed, and their columns have names. What the writer of expressions has written, the parser reads again: the trees. Plain Lean, no program in sight. -/
import Derived.Test.YtpnfbehbheddeaaGreatDoorBn39
import Derived.Test.YtpnfbehbheddeaaGreatDoorBn06
import Derived.Test.YtpnfbehbheddeaaGreatDoorBn38
namespace Go.Proofs.YtpnfbehbheddeaaGreatDoor
set_option maxRecDepth 100000
set_option maxHeartbeats 8000000
set_option linter.unusedVariables false
set_option linter.unusedSimpArgs false
open Go.RowKit
def WC (w0 : World) (eb wb : Nat) (t1 t2 t3 : Value) (pos q : Nat) (W : List Tk) : Prop := ∀ (w : World) (l l' : List HA) (L : List Tk), L.length + W.length ≤ 1000000 → HS w (boxA eb (ewC wb t1 t2 t3) 122 :: wA wb L :: l) → Pick l (oldA w0) l' →
  Calls Tryz.prog 65 #[.pointer (some ⟨eb, 0, none⟩), .int .i64 (pos : Int)] w (WrPost eb wb t1 t2 t3 (L ++ W) l (.int .i64 (q : Int)))
def operT (t : T) (neg : Bool) (W : List Tk) : List Tk := if bareW t neg = true then W else wdK [40] :: (W ++ [wdK [41]])
theorem operand_s {w0 : World} {eb wb tn tc pos q : Nat} {TA : Option Addr} {t2 t3 : Value} {es : List T} {W : List Tk} (t : T) (hT : RowT w0 w0.heap.size TA tn es) (ht : es[pos]? = some t) (_htn : tn ≤ 1000) (h1 : 1 ≤ t.op) (h2 : t.op ≤ 18) (hW : WC w0 eb wb (.slice TA tn tc) t2 t3 pos q W) (neg : Bool)
    {w : World} {l l' : List HA} {L : List Tk} (hL : L.length + (operT t neg W).length ≤ 1000000) (H : HS w (boxA eb (ewC wb (.slice TA tn tc) t2 t3) 122 :: wA wb L :: l)) (ho : Pick l (oldA w0) l') :
    Calls Tryz.prog 114 #[.pointer (some ⟨eb, 0, none⟩), .int .i64 (pos : Int), .bool neg] w (WrPost eb wb (.slice TA tn tc) t2 t3 (L ++ operT t neg W) l (.int .i64 (q : Int))) := by
  have hb := H.old (.there (.there ho))
  have hlt : pos < tn := by
    have := (List.getElem?_eq_some_iff.1 ht).1
    rw [hT.len] at this
    exact this
  obtain ⟨b, off, t', rfl, hbb, ht', c0, c1, c2, c3, c4⟩ := RowT.at5 ((hT.below hb).more hb.size) hlt
  obtain rfl := Option.some.inj (ht'.symm.trans ht)
  have hp0 : (0 : Int) ≤ (pos : Int) := by omega
  have hp1 : (pos : Int) < (tn : Int) := by omega
  obtain ⟨dB, dL, hcB⟩ := HS.get (z := eb) H; obtain ⟨d0, df0⟩ := hcB 0; obtain ⟨d1, df1⟩ := hcB 1; clear hcB; unfold ewC at d0 d1
  have hI := isBare_c (w := w) eb t' neg h1 h2
  unfold operT at hL ⊢
  unfold WC at hW
  unfold WrPost at hW ⊢
  clear hb ht ht' hT h1 h2 hlt
  cases hbr : bareW t' neg with
  | true =>
    rw [hbr, if_pos rfl] at hL
    rw [hbr] at hI
    rw [if_pos rfl]
    have hC := fun w1 H1 => hW w1 l l' L hL H1 ho
    clear hbr hW ho
    go_enter Tryz.func114, Tryz.ntmps114
    go_wp2_with (first
      | (go_at_call 173; (with_reducible refine hI.mono ?_); rintro e w2 ⟨rfl, hb2⟩; have H2 := H.below hb2)
      | (go_at_call 65; (with_reducible refine (hC _ H2).mono ?_); rintro e w3 ⟨rfl, H3⟩))
    go_ret
    exact ⟨rfl, H3⟩
  | false =>
    rw [hbr, if_neg (by simp), List.length_cons, List.length_append, List.length_singleton] at hL
    rw [hbr] at hI
    rw [if_neg (by simp)]
    have hC := fun w1 H1 => hW w1 l l' (L ++ [wdK [40]]) (by rw [List.length_append, List.length_singleton]; omega) H1 ho
    have HL1 := Lib.hid (show L.length ≤ 1000000 by omega)
    have HL2 := Lib.hid (show ((L ++ [wdK [40]]) ++ W).length ≤ 1000000 by rw [List.length_append, List.length_append, List.length_singleton]; omega)
    have HE := Lib.hid (show L ++ wdK [40] :: (W ++ [wdK [41]]) = ((L ++ [wdK [40]]) ++ W) ++ [wdK [41]] by simp)
    rw [HE.out]
    clear hbr hW ho hL
    go_enter Tryz.func114, Tryz.ntmps114
    go_upto_region 3 with (go_at_call 173; (with_reducible refine hI.mono ?_); rintro e w2 ⟨rfl, hb2⟩; have H2 := H.below hb2)
    clear c0 c1 c2 c3 c4 d0 d1 df0 df1 dB dL H hI
    obtain ⟨dB, dL, hcB⟩ := HS.get (z := eb) H2; obtain ⟨d0, df0⟩ := hcB 0; clear hcB; unfold ewC at d0
    have hW1 := write1_s [40] (by simp) HL1.out (H2.sub (l' := wA wb L :: boxA eb (ewC wb (.slice (some ⟨b, off, none⟩) tn tc) t2 t3) 122 :: l) pkQ)
    unfold WdPost at hW1
    go_upto_region 5 with (first
      | (go_at_call 110; (with_reducible refine hW1.mono ?_); rintro e w3 ⟨rfl, H3⟩)
      | (go_at_call 65; (with_reducible refine (hC _ (H3.sub pkQ)).mono ?_); rintro e w4 ⟨rfl, H4⟩))
    clear d0 df0 dB dL H2 hW1 H3
    obtain ⟨dB, dL, hcB⟩ := HS.get (z := eb) H4; obtain ⟨d0, df0⟩ := hcB 0; clear hcB; unfold ewC at d0
    have hW2 := write1_s [41] (by simp) HL2.out (H4.sub (l' := wA wb ((L ++ [wdK [40]]) ++ W) :: boxA eb (ewC wb (.slice (some ⟨b, off, none⟩) tn tc) t2 t3) 122 :: l) pkQ)
    unfold WdPost at hW2
    go_wp2_with (go_at_call 110; (with_reducible refine hW2.mono ?_); rintro e w5 ⟨rfl, H5⟩)
    go_ret
    exact ⟨rfl, H5.sub pkQ⟩
theorem commaW_snoc : ∀ (l : List (List Tk)) (a : List Tk), commaW (l ++ [a]) = if l = [] then a else commaW l ++ wdK [44] :: a
  | [], a => rfl
  | [b], a => rfl
  | b :: c :: l, a => by
    have h := commaW_snoc (c :: l) a
    rw [if_neg (by simp)] at h ⊢
    show b ++ wdK [44] :: commaW ((c :: l) ++ [a]) = (b ++ wdK [44] :: commaW (c :: l)) ++ wdK [44] :: a
    rw [h]
    simp
theorem commaW_le (l : List (List Tk)) : ∀ m : List (List Tk), (commaW l).length ≤ (commaW (l ++ m)).length := by
  intro m
  induction m generalizing l with
  | nil => simp
  | cons a m ih =>
    have h1 := ih (l ++ [a])
    rw [List.append_assoc, List.singleton_append] at h1
    refine Nat.le_trans ?_ h1
    rw [commaW_snoc]
    split
    · rename_i h
      subst h
      simp [commaW]
    · simp
theorem commaW_take (ls : List (List Tk)) (i : Nat) : (commaW (ls.take i)).length ≤ (commaW ls).length := by
  have := commaW_le (ls.take i) (ls.drop i)
  rwa [List.take_append_drop] at this
section
variable {w0 w : World} {l l' : List HA} {eb wb bx be : Nat} {t1 t2 t3 : Value} {L : List Tk}
theorem closure_s {p q : Nat} {W : List Tk} (hW : WC w0 eb wb t1 t2 t3 p q W) (i : Int) (hL : L.length + W.length ≤ 1000000) (H : HS w (boxA bx #[.pointer (some ⟨eb, 0, none⟩)] 171 :: boxA be #[.int .i64 (p : Int)] 3 :: boxA eb (ewC wb t1 t2 t3) 122 :: wA wb L :: l)) (ho : Pick l (oldA w0) l') :
    Calls Tryz.prog 113 #[.int .i64 i, .pointer (some ⟨bx, 0, none⟩), .pointer (some ⟨be, 0, none⟩)] w fun e w' => e = .returned (.tuple #[]) ∧ HS w' (boxA bx #[.pointer (some ⟨eb, 0, none⟩)] 171 :: boxA be #[.int .i64 (q : Int)] 3 :: boxA eb (ewC wb t1 t2 t3) 122 :: wA wb (L ++ W) :: l) := by
  obtain ⟨dB, dL, hcB⟩ := HS.get (z := bx) H; obtain ⟨d0, df0⟩ := hcB 0; clear hcB
  obtain ⟨xB, xL, hcB⟩ := HS.get (z := be) H; obtain ⟨x0, xf0⟩ := hcB 0; clear hcB
  have hC := hW w (boxA bx #[.pointer (some ⟨eb, 0, none⟩)] 171 :: boxA be #[.int .i64 (p : Int)] 3 :: l) _ L hL (H.sub pkQ) (.there (.there ho))
  unfold WrPost at hC
  clear hW H ho
  go_enter Tryz.func113, Tryz.ntmps113
  go_wp2_with (go_at_call 65; (with_reducible refine hC.mono ?_); rintro e w2 ⟨rfl, H2⟩; obtain ⟨yB, yL, hcB⟩ := HS.get (z := be) H2; obtain ⟨y0, yf0⟩ := hcB 0; clear hcB)
  go_end0
  exact ⟨rfl, (H2.storeTo (z := be) pkQ 0 (.int .i64 (q : Int)) #[.int .i64 (q : Int)] rfl).sub pkQ⟩
theorem list_w (ls : List (List Tk)) (P : Nat → Nat) (hW : ∀ i W, ls[i]? = some W → WC w0 eb wb t1 t2 t3 (P i) (P (i + 1)) W) (hL : L.length + (commaW ls).length ≤ 1000000) (hn : ls.length ≤ 1000) (H : HS w (boxA bx #[.pointer (some ⟨eb, 0, none⟩)] 171 :: boxA be #[.int .i64 (P 0 : Int)] 3 :: boxA eb (ewC wb t1 t2 t3) 122 :: wA wb L :: l)) (ho : Pick l (oldA w0) l') :
    Calls Tryz.prog 112 #[.pointer (some ⟨wb, 0, none⟩), .int .i64 (ls.length : Int), .func (.func 113) #[] #[.pointer (some ⟨bx, 0, none⟩), .pointer (some ⟨be, 0, none⟩)]] w fun e w' => e = .returned (.tuple #[]) ∧ HS w' (boxA bx #[.pointer (some ⟨eb, 0, none⟩)] 171 :: boxA be #[.int .i64 (P ls.length : Int)] 3 :: boxA eb (ewC wb t1 t2 t3) 122 :: wA wb (L ++ commaW ls) :: l) := by
  have HW := Lib.hid hW
  have HO := Lib.hid ho
  have HC := Lib.hid (fun i => commaW_take ls i)
  clear hW ho
  go_enter Tryz.func112, Tryz.ntmps112
  go_upto_region 1 with fail
  go_loopw [8] (fun v8 wr => ∃ i : Nat, v8 = .int .i64 (i : Int) ∧ i ≤ ls.length ∧ HS wr (boxA bx #[.pointer (some ⟨eb, 0, none⟩)] 171 :: boxA be #[.int .i64 (P i : Int)] 3 :: boxA eb (ewC wb t1 t2 t3) 122 :: wA wb (L ++ commaW (ls.take i)) :: l)) (fun v8 _ => ls.length - (intOf v8).toNat)
  case atStart => exact ⟨0, rfl, by omega, by rw [List.take_zero]; show HS w (_ :: _ :: _ :: wA wb (L ++ []) :: l); rw [List.append_nil]; exact H⟩
  case round =>
    obtain ⟨i, rfl, hi, Hr⟩ := hrel
    clear H
    by_cases hlt : i < ls.length
    · have h1 : (i : Int) < (ls.length : Int) := by omega
      obtain ⟨W, hWi⟩ : ∃ W, ls[i]? = some W := ⟨_, List.getElem?_eq_getElem hlt⟩
      have hWC := HW.out i W hWi
      have hs := commaW_snoc (ls.take i) W
      have hs2 : ls.take (i + 1) = ls.take i ++ [W] := by rw [List.take_add_one, hWi]; rfl
      rw [← hs2] at hs
      have hle := HC.out (i + 1)
      by_cases h0 : i = 0
      · subst h0
        rw [List.take_zero, if_pos rfl] at hs
        rw [List.take_zero, show L ++ commaW [] = L from List.append_nil L] at Hr
        have HS2 := Lib.hid hs
        have hF := closure_s hWC (0 : Int) (by rw [hs] at hle; omega) Hr HO.out
        clear hs hs2 hle hWC hWi Hr
        go_wp2_with (go_at_call 113; (with_reducible refine hF.mono ?_); rintro e w2 ⟨rfl, H2⟩)
        go_roundw
        case rel => exact ⟨1, rfl, by omega, by rw [HS2.out]; exact H2⟩
        case measure => simp [intOf]; omega
      · rw [if_neg (by intro e; have := congrArg List.length e; rw [List.length_take, List.length_nil] at this; omega)] at hs
        have hi0 : (0 : Int) < (i : Int) := by omega
        have HS2 := Lib.hid (show L ++ commaW (ls.take (i + 1)) = ((L ++ commaW (ls.take i)) ++ [wdK [44]]) ++ W by rw [hs]; simp)
        have hlen : (L ++ commaW (ls.take i)).length + (1 + W.length) ≤ 1000000 := by
          rw [hs, List.length_append, List.length_cons] at hle
          rw [List.length_append]
          omega
        have hW1 := write1_s [44] (by simp) (by omega) (Hr.sub (l' := wA wb (L ++ commaW (ls.take i)) :: boxA bx #[.pointer (some ⟨eb, 0, none⟩)] 171 :: boxA be #[.int .i64 (P i : Int)] 3 :: boxA eb (ewC wb t1 t2 t3) 122 :: l) pkQ)
        unfold WdPost at hW1
        have hF := fun w1 H1 => closure_s (w := w1) (L := (L ++ commaW (ls.take i)) ++ [wdK [44]]) (bx := bx) (be := be) (l := l) hWC (i : Int) (by rw [List.length_append, List.length_singleton]; omega) H1 HO.out
        clear hs hs2 hle hWC hWi Hr hlen h0
        go_wp2_with (first
          | (go_at_call 110; (with_reducible refine hW1.mono ?_); rintro e w2 ⟨rfl, H2⟩)
          | (go_at_call 113; (with_reducible refine (hF _ (H2.sub pkQ)).mono ?_); rintro e w3 ⟨rfl, H3⟩))
        go_roundw
        case rel => exact ⟨i + 1, by go_num, by omega, by rw [HS2.out]; exact H3⟩
        case measure => simp [intOf]; omega
    · obtain rfl : i = ls.length := by omega
      have h1 : ¬ (ls.length : Int) < (ls.length : Int) := by omega
      rw [List.take_of_length_le (Nat.le_refl _)] at Hr
      go_wp2_with fail
      go_end0
      exact ⟨rfl, Hr⟩
end
def AtW (e : Src) (i : Nat) (L : List Tk) : Prop := ∀ j t, L[j]? = some t → ∃ t', e.toks[i + j]? = some t' ∧ t'.kind = t.kind ∧ t'.text = t.text ∧ t'.int = t.int
section
variable {e : Src} {i : Nat} {L M : List Tk} {t : Tk}
theorem AtW.left (h : AtW e i (L ++ M)) : AtW e i L := fun j t hj => h j t (by rw [List.getElem?_append_left (List.getElem?_eq_some_iff.1 hj).1]; exact hj)
theorem AtW.right (h : AtW e i (L ++ M)) : AtW e (i + L.length) M := fun j t hj => by
  have := h (L.length + j) t (by rw [List.getElem?_append_right (by omega), Nat.add_sub_cancel_left]; exact hj)
  rwa [← Nat.add_assoc] at this
theorem AtW.head (h : AtW e i (t :: L)) : ∃ t', e.toks[i]? = some t' ∧ t'.kind = t.kind ∧ t'.text = t.text ∧ t'.int = t.int := h 0 t rfl
theorem AtW.tail (h : AtW e i (t :: L)) : AtW e (i + 1) L := fun j u hj => by
  have := h (j + 1) u hj
  rwa [show i + (j + 1) = i + 1 + j by omega] at this
end
section
variable {e : Src} {s : Ps} {L : List Tk} {t : Tk}
theorem isP_at {a i : Nat} (hi : s.pos + a = i) (h : AtW e i (t :: L)) (ws : List Bs) : isP e s a ws = ((t.kind == 1 || t.kind == 4) && ws.contains t.text) := by
  obtain ⟨t', h1, h2, h3, -⟩ := h.head
  unfold isP
  rw [hi, h1]
  simp only [h2, h3]
theorem isKindP_at {a i : Nat} (hi : s.pos + a = i) (h : AtW e i (t :: L)) (k : Int) : isKindP e s a k = (t.kind == k) := by
  obtain ⟨t', h1, h2, -⟩ := h.head
  unfold isKindP
  rw [hi, h1]
  simp only [h2]
theorem expect_at (h : AtW e s.pos (t :: L)) {ws : List Bs} (hk : (t.kind == 1 || t.kind == 4) = true) (hw : ws.contains t.text = true) : expectP e s ws = (t.text, { s with pos := s.pos + 1 }) := by
  unfold expectP textP
  rw [isP_at rfl h, hk, hw]
  obtain ⟨t', h1, -, h3, -⟩ := h.head
  simp only [Bool.and_self, if_true, h1, h3]
theorem take_at (h : AtW e s.pos (t :: L)) {k : Int} (hk : t.kind = k) : ∃ t', takeP e s k = (t', { s with pos := s.pos + 1 }) ∧ t'.kind = t.kind ∧ t'.text = t.text ∧ t'.int = t.int := by
  obtain ⟨t', h1, h2, h3, h4⟩ := h.head
  refine ⟨t', ?_, h2, h3, h4⟩
  unfold takeP
  rw [isKindP_at rfl h, hk]
  simp only [beq_self_eq_true, if_true, List.getD_eq_getElem?_getD, h1, Option.getD_some]
end
theorem wdK_kind (w : Bs) : ((wdK w).kind == 1 || (wdK w).kind == 4) = true := by
  unfold wdK
  split <;> rfl
def folW : List Bs := [wOr, wAnd, [43], [45], [43, 43], [42], [47], [61], [60], [60, 61], [40], [46]]
def Fol (e : Src) (i : Nat) (W : List Bs) : Prop := ∀ t, e.toks[i]? = some t → (t.kind == 1 || t.kind == 4) = true → W.contains t.text = false
theorem Fol.of {e : Src} {i : Nat} {W V : List Bs} (h : Fol e i W) (hv : ∀ x ∈ V, x ∈ W) : Fol e i V := fun t h1 h2 => by
  have h3 := h t h1 h2
  cases hc : V.contains t.text with
  | false => rfl
  | true =>
    rw [List.contains_iff_mem] at hc
    have := List.contains_iff_mem.2 (hv _ hc)
    rw [h3] at this
    cases this
theorem Fol.isP {e : Src} {s : Ps} {a : Nat} {W V : List Bs} (h : Fol e (s.pos + a) W) (hv : ∀ x ∈ V, x ∈ W) : isP e s a V = false := by
  unfold Go.Proofs.YtpnfbehbheddeaaGreatDoor.isP
  split
  · rename_i t ht
    cases hk : (t.kind == 1 || t.kind == 4) with
    | false => rfl
    | true => rw [(h.of hv) t ht hk]; rfl
  · rfl
theorem Fol.at {e : Src} {i : Nat} {t : Tk} {L : List Tk} {W : List Bs} (h : AtW e i (t :: L)) (hw : W.contains t.text = false) : Fol e i W := fun t' h1 _ => by
  obtain ⟨u, h2, -, h3, -⟩ := h.head
  rw [h1] at h2
  injection h2 with h2
  subst h2
  rw [h3]
  exact hw
theorem Fol.end_ {e : Src} {i : Nat} {W : List Bs} (h : e.toks.length ≤ i) : Fol e i W := fun t h1 _ => by
  rw [List.getElem?_eq_none h] at h1
  cases h1
section
variable {e : Src} {s s1 : Ps} {x : X} {b : Nat}
theorem chain_stop {lv : Nat} (h : isP e s (0 : Nat) (opsP lv) = false) : ∀ f, chainP e f lv x s = (x, s)
  | 0 => by unfold chainP; rfl
  | f + 1 => by
    unfold chainP
    rw [h]
    rfl
theorem ops_fol (lv : Nat) : ∀ w ∈ opsP lv, w ∈ folW := by
  unfold opsP
  split
  · decide
  · decide
  · decide
  · decide
  · simp
theorem lift1 {lv : Nat} (h1 : 1 ≤ lv) (h6 : lv < 6) (h : ∀ f, b ≤ f → parseP e f lv s = (x, s1)) (hf : Fol e s1.pos folW) : ∀ f, b + 1 ≤ f → parseP e f (lv + 1) s = (x, s1) := by
  rintro (_ | f) hb
  · omega
  have h2 := h f (by omega)
  match lv, h1, h6 with
  | 1, _, _ => unfold parseP; simp only [h2]; exact chain_stop (hf.isP (ops_fol 2)) f
  | 2, _, _ => unfold parseP; simp only [h2]; exact chain_stop (hf.isP (ops_fol 3)) f
  | 3, _, _ =>
    unfold parseP
    simp only [h2, hf.isP (a := 0) (V := [[61], [60]]) (by decide), hf.isP (a := 0) (V := [[60, 61]]) (by decide)]
    rfl
  | 4, _, _ => unfold parseP; simp only [h2]; exact chain_stop (hf.isP (ops_fol 5)) f
  | 5, _, _ => unfold parseP; simp only [h2]; exact chain_stop (hf.isP (ops_fol 6)) f
theorem lift_to {lv n : Nat} (h1 : 1 ≤ lv) (h6 : lv + n ≤ 6) (h : ∀ f, b ≤ f → parseP e f lv s = (x, s1)) (hf : Fol e s1.pos folW) : ∀ f, b + n ≤ f → parseP e f (lv + n) s = (x, s1) := by
  induction n with
  | zero => exact h
  | succ n ih => exact lift1 (lv := lv + n) (b := b + n) (by omega) (by omega) (ih (by omega)) hf
theorem lift0 (h : ∀ f, b ≤ f → parseP e f 0 s = (x, s1)) (hm : isP e s 0 [[45]] = false) (hn : isP e s 0 [wNot] = false) : ∀ f, b + 1 ≤ f → parseP e f 1 s = (x, s1) := by
  rintro (_ | f) hb
  · omega
  unfold parseP
  simp only [hm, hn]
  exact h f (by omega)
theorem lift1W {lv : Nat} {W : List Bs} (h1 : 1 ≤ lv) (h6 : lv < 6) (h : ∀ f, b ≤ f → parseP e f lv s = (x, s1)) (hf : Fol e s1.pos W) (hw : ∀ w ∈ opsP (lv + 1), w ∈ W) (h4 : lv = 3 → ∀ w ∈ ([[61], [60], [60, 61]] : List Bs), w ∈ W) : ∀ f, b + 1 ≤ f → parseP e f (lv + 1) s = (x, s1) := by
  rintro (_ | f) hb
  · omega
  have h2 := h f (by omega)
  match lv, h1, h6 with
  | 1, _, _ => unfold parseP; simp only [h2]; exact chain_stop (hf.isP hw) f
  | 2, _, _ => unfold parseP; simp only [h2]; exact chain_stop (hf.isP hw) f
  | 3, _, _ =>
    have h5 := h4 rfl
    unfold parseP
    simp only [h2, hf.isP (a := 0) (V := [[61], [60]]) (fun w hw => h5 w (List.mem_append_left [[60, 61]] hw)), hf.isP (a := 0) (V := [[60, 61]]) (fun w hw => h5 w (by simp at hw ⊢; simp [hw]))]
    rfl
  | 4, _, _ => unfold parseP; simp only [h2]; exact chain_stop (hf.isP hw) f
  | 5, _, _ => unfold parseP; simp only [h2]; exact chain_stop (hf.isP hw) f
end
mutual
def X.cols : X → List Nat
  | .node t ks => (if t.op = 2 then [t.c.toNat] else []) ++ colss ks
def colss : List X → List Nat
  | [] => []
  | x :: l => x.cols ++ colss l
end
mutual
def X.ren : Nat → X → X
  | k, .node t ks => .node (if t.op = 2 then { t with c := (k : Int) } else t) (rens (k + if t.op = 2 then 1 else 0) ks)
def rens : Nat → List X → List X
  | _, [] => []
  | k, x :: l => x.ren k :: rens (k + x.cols.length) l
end
def nameOf (left right : List Bs) (c : Nat) : Bs × Bool := (colName left right c, decide (left.length ≤ c))
def okCol (left right : List Bs) (c : Nat) : Prop := isNameB (colName left right c) = true
structure Got (left right : List Bs) (x : X) (n : Nat) (s : Ps) (r : X × Ps) : Prop where
  tree : r.1 = x.ren s.refs.length
  pos : r.2.pos = s.pos + n
  failed : r.2.failed = s.failed
  off : r.2.off = s.off
  refs : ∃ rs, r.2.refs = s.refs ++ rs ∧ rs.map (fun y => (y.1.text, y.2)) = x.cols.map (nameOf left right)
structure Gots (left right : List Bs) (xs : List X) (n : Nat) (s : Ps) (r : List X × Ps) : Prop where
  trees : r.1 = rens s.refs.length xs
  pos : r.2.pos = s.pos + n
  failed : r.2.failed = s.failed
  off : r.2.off = s.off
  refs : ∃ rs, r.2.refs = s.refs ++ rs ∧ rs.map (fun y => (y.1.text, y.2)) = (colss xs).map (nameOf left right)
theorem flat_pos (x : X) : 1 ≤ x.flat.length := by
  cases x
  rw [X.flat_node, List.length_cons]
  omega
theorem node_const {t : T} (h : t.ok = true) (h1 : t.op = 1) : t = ⟨1, t.v, 0⟩ ∧ t.v.ok = true ∧ t.v.k ≠ 0 := by
  unfold T.ok at h
  rw [h1] at h
  simp only [if_pos, Bool.and_eq_true, beq_iff_eq, bne_iff_ne, ne_eq] at h
  obtain ⟨-, h2, h3, h4⟩ := h
  obtain ⟨op, v, c⟩ := t
  simp only at h1 h2 h3 h4 ⊢
  exact ⟨by rw [h1, h2], h4, h3⟩
theorem node_col {t : T} (h : t.ok = true) (h1 : t.op = 2) : t = ⟨2, V.null, t.c⟩ ∧ 0 ≤ t.c := by
  unfold T.ok at h
  rw [h1] at h
  simp only [show ((2 : Int) = 1) = False by decide, if_false, if_true, Bool.and_eq_true, decide_eq_true_eq, V.beq_iff] at h
  obtain ⟨-, h2, h3⟩ := h
  obtain ⟨op, v, c⟩ := t
  simp only at h1 h2 h3 ⊢
  exact ⟨by rw [h1, h3], h2⟩
theorem node_op {t : T} (h : t.ok = true) (h1 : t.op ≠ 1) (h2 : t.op ≠ 2) : t = ⟨t.op, V.null, 0⟩ ∧ 3 ≤ t.op ∧ t.op ≤ 18 := by
  unfold T.ok at h
  rw [if_neg h1, if_neg h2] at h
  simp only [Bool.and_eq_true, decide_eq_true_eq, beq_iff_eq, V.beq_iff] at h
  obtain ⟨h3, h4, h5⟩ := h
  have := arity_known h3
  obtain ⟨op, v, c⟩ := t
  simp only at h1 h2 h3 h4 h5 this ⊢
  exact ⟨by rw [h4, h5], by omega, by omega⟩
def lvOf (op : Int) : Nat := if op = 15 then 6 else if op = 14 then 5 else if op = 11 ∨ op = 12 then 4 else if op = 4 ∨ op = 5 ∨ op = 8 then 3 else 2
def isBin (op : Int) : Prop := op = 4 ∨ op = 5 ∨ op = 6 ∨ op = 7 ∨ op = 8 ∨ op = 11 ∨ op = 12 ∨ op = 14 ∨ op = 15
theorem op_kinds {op : Int} (h1 : op ≠ 1) (h2 : op ≠ 2) (h3 : 3 ≤ op) (h4 : op ≤ 18) : isFun op = true ∨ op = 3 ∨ op = 13 ∨ isBin op := by
  unfold isFun isBin
  have : op = 3 ∨ op = 4 ∨ op = 5 ∨ op = 6 ∨ op = 7 ∨ op = 8 ∨ op = 9 ∨ op = 10 ∨ op = 11 ∨ op = 12 ∨ op = 13 ∨ op = 14 ∨ op = 15 ∨ op = 16 ∨ op = 17 ∨ op = 18 := by omega
  rcases this with rfl | rfl | rfl | rfl | rfl | rfl | rfl | rfl | rfl | rfl | rfl | rfl | rfl | rfl | rfl | rfl <;> decide
theorem bin_facts {op : Int} (h : isBin op) : opP (opW op) = op ∧ arity op = 2 ∧ isFun op = false := by
  unfold isBin at h
  rcases h with rfl | rfl | rfl | rfl | rfl | rfl | rfl | rfl | rfl <;> decide
section
variable {e : Src} {left right : List Bs}
theorem ref_got {s : Ps} {r : Bool} {c : Nat} {t : Tk} {L : List Tk} (h : AtW e s.pos (t :: L)) (hk : t.kind = 1) (ht : (t.text, r) = nameOf left right c) : Got left right (.node ⟨2, V.null, c⟩ []) 1 s (refP e r s) := by
  obtain ⟨t', h1, h2, h3, h4⟩ := take_at h hk
  unfold refP
  rw [h1]
  simp only
  refine ⟨?_, rfl, rfl, rfl, [(t', r)], rfl, ?_⟩
  · simp [X.ren, rens]
  · simp [X.cols, colss, h3, ht]
def At0 (e : Src) (left right : List Bs) (x : X) : Prop := ∀ s : Ps, AtW e s.pos (x.wr left right) → Fol e (s.pos + (x.wr left right).length) [[40], [46]] → ∃ r, Got left right x (x.wr left right).length s r ∧ ∀ f, 10 * x.flat.length ≤ f + 6 → parseP e f 0 s = r
def At6 (e : Src) (left right : List Bs) (x : X) : Prop := ∀ s : Ps, AtW e s.pos (x.wr left right) → Fol e (s.pos + (x.wr left right).length) folW → ∃ r, Got left right x (x.wr left right).length s r ∧ ∀ f, 10 * x.flat.length ≤ f → parseP e f 6 s = r
theorem oper_got {x : X} (h0 : bareW x.t false = true → At0 e left right x) (h6 : At6 e left right x) {neg : Bool} {s : Ps} (hA : AtW e s.pos (operW x neg (x.wr left right))) (hF : Fol e (s.pos + (operW x neg (x.wr left right)).length) [[40], [46]]) :
    ∃ r, Got left right x (operW x neg (x.wr left right)).length s r ∧ ∀ f, 10 * x.flat.length + 1 ≤ f → parseP e f 0 s = r := by
  unfold operW at hA hF ⊢
  by_cases hb : bareW x.t neg = true
  · rw [if_pos hb] at hA hF ⊢
    have hb2 : bareW x.t false = true := by
      unfold bareW at hb ⊢
      split at hb
      · rename_i h1
        rw [if_pos h1]
        simp only [decide_eq_true_eq] at hb ⊢
        rcases hb with h | ⟨h, -⟩
        · exact .inl h
        · exact .inr ⟨h, trivial⟩
      · rename_i h1
        rw [if_neg h1]
        exact hb
    obtain ⟨r, h1, h2⟩ := h0 hb2 s hA hF
    exact ⟨r, h1, fun f hf => h2 f (by omega)⟩
  · rw [if_neg hb] at hA hF ⊢
    have h1 : isKindP e s 0 2 = false := by rw [isKindP_at rfl hA]; decide
    have h2 : isKindP e s 0 3 = false := by rw [isKindP_at rfl hA]; decide
    have h3 : isP e s 0 [[40]] = true := by rw [isP_at rfl hA]; decide
    have hA2 := hA.tail
    obtain ⟨r, hg, hr⟩ := h6 { s with pos := s.pos + 1 } hA2.left (Fol.at hA2.right (by decide))
    have hA3 : AtW e r.2.pos [wdK [41]] := by rw [hg.pos]; exact hA2.right
    have he := expect_at hA3 (ws := [[41]]) (wdK_kind _) (by decide)
    refine ⟨(r.1, { r.2 with pos := r.2.pos + 1 }), ?_, ?_⟩
    · obtain ⟨rs, e1, e2⟩ := hg.refs
      refine ⟨hg.tree, ?_, hg.failed, hg.off, rs, e1, e2⟩
      have := hg.pos
      simp only [List.length_cons, List.length_append, List.length_nil] at this ⊢
      omega
    · rintro (_ | f) hf
      · omega
      unfold parseP
      simp only [h1, h2, h3, if_true, if_false, Bool.false_eq_true, hr f (by omega), he]
theorem oper_head {x : X} {neg : Bool} {s : Ps} (hx : x.wf = true) (hc : ∀ c ∈ x.cols, okCol left right c) (hA : AtW e s.pos (operW x neg (x.wr left right))) : isP e s 0 [[45]] = false ∧ isP e s 0 [wNot] = false ∧ (neg = true → isKindP e s 0 2 = false) := by
  obtain ⟨t, ks⟩ := x
  rw [X.wf, Bool.and_eq_true] at hx
  obtain ⟨ht, -⟩ := hx
  unfold operW at hA
  split at hA
  · rename_i hb
    rw [X.wr] at hA
    unfold nodeW at hA
    have hb2 : bareW t neg = true := hb
    unfold bareW at hb2
    by_cases h1 : t.op = 1
    · rw [if_pos h1] at hA hb2
      unfold constW at hA
      simp only [decide_eq_true_eq] at hb2
      by_cases h2 : t.v.k = 2
      · rw [if_pos h2] at hA
        exact ⟨by rw [isP_at rfl hA]; rfl, by rw [isP_at rfl hA]; rfl, fun _ => by rw [isKindP_at rfl hA]; rfl⟩
      · have h3 := hb2.resolve_left h2
        rw [if_neg h2, if_neg (by omega)] at hA
        exact ⟨by rw [isP_at rfl hA]; rfl, by rw [isP_at rfl hA]; rfl, fun hn => by rw [hn] at h3; cases h3.2⟩
    · rw [if_neg h1] at hA hb2
      by_cases h2 : t.op = 2
      · rw [if_pos h2] at hA
        have hok : isNameB (colName left right t.c.toNat) = true := hc _ (by rw [X.cols, if_pos h2]; simp)
        unfold refW at hA
        have hm : ∀ {w : Bs} {L : List Tk}, isNameB w = true → w ≠ wNot → AtW e s.pos (wdK w :: L) → isP e s 0 [[45]] = false ∧ isP e s 0 [wNot] = false ∧ (neg = true → isKindP e s 0 2 = false) := fun {w L} hw hn hA => by
          have hk : (wdK w).kind = 1 := by unfold wdK; rw [if_pos hw]
          refine ⟨?_, ?_, fun _ => by rw [isKindP_at rfl hA, hk]; rfl⟩
          · rw [isP_at rfl hA]
            have : w ≠ [45] := fun e => by rw [e] at hw; revert hw; decide
            simp [wdK, this]
          · rw [isP_at rfl hA]
            simp [wdK, hn]
        split at hA
        · exact hm (w := wRight) (by decide) (by decide) hA
        · split at hA
          · exact hm (w := wLeft) (by decide) (by decide) hA
          · rename_i h4
            exact hm hok h4 hA
      · rw [if_neg h2] at hA
        have h3 : isFun t.op = true := by simpa [h2] using hb2
        rw [if_pos h3] at hA
        have h4 : t.op = 9 ∨ t.op = 10 ∨ t.op = 16 ∨ t.op = 17 ∨ t.op = 18 := by simpa [isFun] using h3
        have hh : (wdK (opW t.op)).kind = 1 ∧ (opW t.op ≠ [45]) ∧ opW t.op ≠ wNot := by
          rcases h4 with h | h | h | h | h <;> rw [h] <;> decide
        refine ⟨?_, ?_, fun _ => by rw [isKindP_at rfl hA, hh.1]; rfl⟩
        · rw [isP_at rfl hA]
          simp [wdK, hh.2.1]
        · rw [isP_at rfl hA]
          simp [wdK, hh.2.2]
  · exact ⟨by rw [isP_at rfl hA]; decide, by rw [isP_at rfl hA]; decide, fun _ => by rw [isKindP_at rfl hA]; decide⟩
theorem oper_got1 {x : X} (hx : x.wf = true) (hc : ∀ c ∈ x.cols, okCol left right c) (h0 : bareW x.t false = true → At0 e left right x) (h6 : At6 e left right x) {neg : Bool} {s : Ps} (hA : AtW e s.pos (operW x neg (x.wr left right))) (hF : Fol e (s.pos + (operW x neg (x.wr left right)).length) [[40], [46]]) :
    ∃ r, Got left right x (operW x neg (x.wr left right)).length s r ∧ ∀ f, 10 * x.flat.length + 2 ≤ f → parseP e f 1 s = r := by
  obtain ⟨g1, g2, -⟩ := oper_head hx hc hA
  obtain ⟨r, h1, h2⟩ := oper_got h0 h6 hA hF
  exact ⟨r, h1, lift0 h2 g1 g2⟩
end
end Go.Proofs.YtpnfbehbheddeaaGreatDoor
