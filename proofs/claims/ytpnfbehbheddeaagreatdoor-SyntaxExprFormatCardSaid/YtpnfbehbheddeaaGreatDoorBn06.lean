/- Contracts of the levels of the grammar of expressions, each from those that it calls. The numbers of the tokens are from 0 to 2^32. Comparing values with == and !=. No condition. Contracts of Arity and of the validity of a term, of the program and of the reference. No condition. -/
import Derived.Test.YtpnfbehbheddeaaGreatDoorBn05
import Derived.Test.YtpnfbehbheddeaaGreatDoorBn00
import Derived.Laws.StructEq
import Derived.Test.YtpnfbehbheddeaaGreatDoorBn03
namespace Go.Proofs.YtpnfbehbheddeaaGreatDoor
set_option maxRecDepth 100000
set_option maxHeartbeats 8000000
set_option linter.unusedVariables false
set_option linter.unusedSimpArgs false
open Go.RowKit
def Src.okN (e : Src) : Prop := ∀ t ∈ e.toks, t.kind = 2 → 0 ≤ t.int ∧ t.int ≤ 4294967296
theorem take_num {e : Src} (h : e.okN) (s : Ps) : 0 ≤ (takeP e s 2).1.int ∧ (takeP e s 2).1.int ≤ 4294967296 := by
  unfold takeP
  split
  · rename_i hk
    simp only [List.getD_eq_getElem?_getD]
    unfold isKindP at hk
    rw [Nat.add_zero] at hk
    cases ht : e.toks[s.pos]? with
    | none => exact ⟨by decide, by decide⟩
    | some t =>
      rw [ht] at hk
      exact h t (List.mem_of_getElem? ht) (by simpa using hk)
  · exact ⟨by show (0 : Int) ≤ 0; decide, by show (0 : Int) ≤ 4294967296; decide⟩
section
variable {p : Pp}
theorem expression_c (F : Nat) (IH : ∀ f, f ≤ F → OpC p 86 5 f) : OpC p 43 6 (F + 1) := fun w s rv h hm hf => by
  have h0 := fun w0 h0 g hg => chain_c (p := p) (w := w0) (s := s) (rv := rv) (g := g) (n := 1) (cs := #[.string ⟨#[111, 114]⟩]) 86 (enters_of Tryz.func86 (by kernel_rfl) rfl) 6 F (by omega) (by omega) IH h0 hm (by omega) hg rfl rfl (by decide) (by decide)
  rw [show parseP p.e (F + 1) 6 s = chainP p.e F 6 (parseP p.e F 5 s).1 (parseP p.e F 5 s).2 by rw [parseP] <;> (intro hh; omega)]
  generalize chainP p.e F 6 (parseP p.e F 5 s).1 (parseP p.e F 5 s).2 = q at h0 ⊢
  clear IH
  unfold NodePost ptrV at h0
  go_enter Tryz.func43, Tryz.ntmps43
  go_wp2_with (go_at_call 85; refine (h0 _ (h.alloc _) _ (heap_alloc_new w _)).mono ?_; rintro e w1 ⟨a, rv', rfl, S1, T1⟩)
  go_ret
  exact ⟨a, rv', rfl, ((St.refl h).alloc _).trans S1, T1.mono (by simp)⟩
theorem conjunction_c (F : Nat) (IH : ∀ f, f ≤ F → OpC p 133 4 f) : OpC p 86 5 (F + 1) := fun w s rv h hm hf => by
  have h0 := fun w0 h0 g hg => chain_c (p := p) (w := w0) (s := s) (rv := rv) (g := g) (n := 1) (cs := #[.string ⟨#[97, 110, 100]⟩]) 133 (enters_of Tryz.func133 (by kernel_rfl) rfl) 5 F (by omega) (by omega) IH h0 hm (by omega) hg rfl rfl (by decide) (by decide)
  rw [show parseP p.e (F + 1) 5 s = chainP p.e F 5 (parseP p.e F 4 s).1 (parseP p.e F 4 s).2 by rw [parseP] <;> (intro hh; omega)]
  generalize chainP p.e F 5 (parseP p.e F 4 s).1 (parseP p.e F 4 s).2 = q at h0 ⊢
  clear IH
  unfold NodePost ptrV at h0
  go_enter Tryz.func86, Tryz.ntmps86
  go_wp2_with (go_at_call 85; refine (h0 _ (h.alloc _) _ (heap_alloc_new w _)).mono ?_; rintro e w1 ⟨a, rv', rfl, S1, T1⟩)
  go_ret
  exact ⟨a, rv', rfl, ((St.refl h).alloc _).trans S1, T1.mono (by simp)⟩
theorem sum_c (F : Nat) (IH : ∀ f, f ≤ F → OpC p 239 2 f) : OpC p 188 3 (F + 1) := fun w s rv h hm hf => by
  have h0 := fun w0 h0 g hg => chain_c (p := p) (w := w0) (s := s) (rv := rv) (g := g) (n := 3) (cs := #[.string ⟨#[43]⟩, .string ⟨#[45]⟩, .string ⟨#[43, 43]⟩]) 239 (enters_of Tryz.func239 (by kernel_rfl) rfl) 3 F (by omega) (by omega) IH h0 hm (by omega) hg rfl rfl (by decide) (by decide)
  rw [show parseP p.e (F + 1) 3 s = chainP p.e F 3 (parseP p.e F 2 s).1 (parseP p.e F 2 s).2 by rw [parseP] <;> (intro hh; omega)]
  generalize chainP p.e F 3 (parseP p.e F 2 s).1 (parseP p.e F 2 s).2 = q at h0 ⊢
  clear IH
  unfold NodePost ptrV at h0
  go_enter Tryz.func188, Tryz.ntmps188
  go_wp2_with (go_at_call 85; refine (h0 _ (h.alloc _) _ (heap_alloc_new w _)).mono ?_; rintro e w1 ⟨a, rv', rfl, S1, T1⟩)
  go_ret
  exact ⟨a, rv', rfl, ((St.refl h).alloc _).trans S1, T1.mono (by simp)⟩
theorem pProduct_c (F : Nat) (IH : ∀ f, f ≤ F → OpC p 267 1 f) : OpC p 239 2 (F + 1) := fun w s rv h hm hf => by
  have h0 := fun w0 h0 g hg => chain_c (p := p) (w := w0) (s := s) (rv := rv) (g := g) (n := 2) (cs := #[.string ⟨#[42]⟩, .string ⟨#[47]⟩]) 267 (enters_of Tryz.func267 (by kernel_rfl) rfl) 2 F (by omega) (by omega) IH h0 hm (by omega) hg rfl rfl (by decide) (by decide)
  rw [show parseP p.e (F + 1) 2 s = chainP p.e F 2 (parseP p.e F 1 s).1 (parseP p.e F 1 s).2 by rw [parseP] <;> (intro hh; omega)]
  generalize chainP p.e F 2 (parseP p.e F 1 s).1 (parseP p.e F 1 s).2 = q at h0 ⊢
  clear IH
  unfold NodePost ptrV at h0
  go_enter Tryz.func239, Tryz.ntmps239
  go_wp2_with (go_at_call 85; refine (h0 _ (h.alloc _) _ (heap_alloc_new w _)).mono ?_; rintro e w1 ⟨a, rv', rfl, S1, T1⟩)
  go_ret
  exact ⟨a, rv', rfl, ((St.refl h).alloc _).trans S1, T1.mono (by simp)⟩
theorem new_row (w : World) (cs : Array Value) (ws : List Bs) (n : Nat) (hc : cs.toList = ws.map strV) (hn : ws.length = n) : RowB (w.alloc (.cells cs 9)) (w.alloc (.cells cs 9)).heap.size (some ⟨w.heap.size, 0, none⟩) n ws := words_row (heap_alloc_new w _) hc hn
theorem comparison_c (F : Nat) (IH : OpC p 188 3 F) : OpC p 133 4 (F + 1) := fun w s rv h hm hf => by
  have h0 := IH w s rv h hm (by omega)
  have hst := parse_step p.e F 3 s h.ok
  rw [parseP]
  generalize parseP p.e F 3 s = q at h0 hst ⊢
  obtain ⟨x, s1⟩ := q
  simp only at h0 hst ⊢
  have hle := hst.le
  have hme := hst.meas
  have hok := hst.ok
  unfold NodePost ptrV at h0
  have hI := fun w1 rv1 (P : PsAt p w1 s1 rv1) => is_c (c := 2) (B := (w1.alloc (.cells #[.string ⟨#[61]⟩, .string ⟨#[60]⟩] 9)).heap.size) (n := 2) (A := some ⟨w1.heap.size, 0, none⟩) (P.alloc (.cells #[.string ⟨#[61]⟩, .string ⟨#[60]⟩] 9)) 0 (by omega) [[61], [60]] (new_row w1 _ _ 2 rfl rfl) (by omega)
  unfold BPost at hI
  cases h1 : isP p.e s1 0 [[61], [60]]
  · rw [if_neg (by simp)]
    rw [h1] at hI
    have hA := fun w1 rv1 (P : PsAt p w1 s1 rv1) => accept_c (c := 1) (B := (w1.alloc (.cells #[.string ⟨#[60, 61]⟩] 9)).heap.size) (n := 1) (A := some ⟨w1.heap.size, 0, none⟩) (P.alloc (.cells #[.string ⟨#[60, 61]⟩] 9)) [[60, 61]] (new_row w1 _ _ 1 rfl rfl) (by omega)
    unfold GoPost at hA
    cases h2 : isP p.e s1 0 [[60, 61]]
    · rw [if_neg (by simp)]
      rw [acceptP_f h2] at hA
      clear h1 h2 IH
      go_enter Tryz.func133, Tryz.ntmps133
      go_wp2_with (first
        | (go_at_call 188; refine h0.mono ?_; rintro e w1 ⟨a, rv', rfl, S1, T1⟩)
        | (go_at_call 130; refine (hI _ _ S1.at_).mono ?_; rintro e w2 ⟨rfl, hb2⟩; have S2 := (S1.alloc _).below hb2; have T2 := T1.below (w' := w2) (by (exact belQ)))
        | (go_at_call 142; refine (hA _ _ S2.at_).mono ?_; rintro e w3 ⟨rfl, P3, F3⟩; have S3 := (S2.alloc _).go P3 F3; have T3 := (T2.below (w' := w2.alloc _) (by (exact belQ))).keep1 ((S2.alloc _).at_.keep_go F3)))
      go_ret
      exact ⟨a, rv', rfl, S3, T3⟩
    · rw [if_pos rfl]
      rw [acceptP_t h2] at hA
      have hlt := isP_lt h2
      have hmx := next_more (e := p.e) (s := s1) (by omega)
      have hB := fun w1 rv1 (P : PsAt p w1 { s1 with pos := s1.pos + 1 } rv1) => IH w1 _ rv1 P (by omega) (by simp only; omega)
      generalize parseP p.e F 3 { s1 with pos := s1.pos + 1 } = q at hB ⊢
      obtain ⟨y, s2⟩ := q
      unfold NodePost ptrV at hB
      simp only at hB hA ⊢
      clear h1 h2 IH hmx
      go_enter Tryz.func133, Tryz.ntmps133
      go_wp2_with (first
        | (go_at_call 188; with_reducible refine h0.mono ?_; rintro e w1 ⟨a, rv', rfl, S1, T1⟩)
        | (go_at_call 130; refine (hI _ _ S1.at_).mono ?_; rintro e w2 ⟨rfl, hb2⟩; have S2 := (S1.alloc _).below hb2; have T2 := T1.below (w' := w2) (by (exact belQ)))
        | (go_at_call 142; refine (hA _ _ S2.at_).mono ?_; rintro e w3 ⟨rfl, P3, F3⟩; have S3 := (S2.alloc _).go P3 F3; have T3 := (T2.below (w' := w2.alloc _) (by (exact belQ))).keep1 ((S2.alloc _).at_.keep_go F3))
        | (go_at_call 188; refine (hB _ _ S3.at_).mono ?_; rintro e w4 ⟨b, rv4, rfl, S4, T4⟩; have T3' := T3.keep1 (S4.keepO S3.at_); have S4' := S3.trans S4; have T4' := T4.mono S3.fr.size; have z4 := S4'.fr.size)
        | (go_at_call 132; with_reducible refine (op2_c (op := 12) z4 T4' T3').mono ?_; rintro e w5 ⟨d, rfl, hb5, T5⟩; have hz5 := hb5.size; (try simp at hz5))
        | (go_at_call 132; with_reducible refine (op1_c (op := 13) (by omega) T5).mono ?_; rintro e w6 ⟨d6, rfl, hb6, T6⟩))
      go_ret
      exact ⟨d6, rv4, rfl, S4'.below (by (exact belQ)), T6⟩
  · rw [if_pos rfl]
    rw [h1] at hI
    have hlt := isP_lt h1
    have hmx := expect_more (e := p.e) (s := s1) [[61], [60]] (by omega)
    have hpx : (expectP p.e s1 [[61], [60]]).2.pos = s1.pos + 1 := by unfold expectP; rw [if_pos h1]
    have hE := fun w1 rv1 (P : PsAt p w1 s1 rv1) => expect_c (c := 2) (B := (w1.alloc (.cells #[.string ⟨#[61]⟩, .string ⟨#[60]⟩] 9)).heap.size) (n := 2) (A := some ⟨w1.heap.size, 0, none⟩) (P.alloc (.cells #[.string ⟨#[61]⟩, .string ⟨#[60]⟩] 9)) [[61], [60]] (new_row w1 _ _ 2 rfl rfl) (by omega)
    generalize expectP p.e s1 [[61], [60]] = q at hE hmx hpx ⊢
    obtain ⟨wd, s2⟩ := q
    unfold GoPost at hE
    simp only at hE hmx hpx ⊢
    have hB := fun w1 rv1 (P : PsAt p w1 s2 rv1) => IH w1 _ rv1 P (by omega) (by omega)
    generalize parseP p.e F 3 s2 = q at hB ⊢
    obtain ⟨y, s3⟩ := q
    unfold NodePost ptrV at hB
    simp only at hB ⊢
    clear h1 IH
    go_enter Tryz.func133, Tryz.ntmps133
    go_wp2_with (first
      | (go_at_call 188; with_reducible refine h0.mono ?_; rintro e w1 ⟨a, rv', rfl, S1, T1⟩)
      | (go_at_call 130; refine (hI _ _ S1.at_).mono ?_; rintro e w2 ⟨rfl, hb2⟩; have S2 := (S1.alloc _).below hb2; have T2 := T1.below (w' := w2) (by (exact belQ)))
      | (go_at_call 88; refine (hE _ _ S2.at_).mono ?_; rintro e w3 ⟨rfl, P3, F3⟩; have S3 := (S2.alloc _).go P3 F3; have T3 := (T2.below (w' := w2.alloc _) (by (exact belQ))).keep1 ((S2.alloc _).at_.keep_go F3))
      | (go_at_call 131; refine (sOperatorOf_c wd _).mono ?_; rintro e w3' ⟨rfl, rfl⟩)
      | (go_at_call 188; refine (hB _ _ S3.at_).mono ?_; rintro e w4 ⟨b, rv4, rfl, S4, T4⟩; have T3' := T3.keep1 (S4.keepO S3.at_); have S4' := S3.trans S4; have T4' := T4.mono S3.fr.size; have z4 := S4'.fr.size)
      | (go_at_call 132; with_reducible refine (op2_c (op := opP wd) z4 T3' T4').mono ?_; rintro e w5 ⟨d, rfl, hb5, T5⟩; have hz5 := hb5.size; (try simp at hz5)))
    go_ret
    exact ⟨d, rv4, rfl, S4'.below (by (exact belQ)), T5⟩
theorem factor_c (hN : p.e.okN) (F : Nat) (IH1 : OpC p 267 1 F) (IH0 : OpC p 281 0 F) : OpC p 267 1 (F + 1) := fun w s rv h hm hf => by
  rw [parseP]
  have hA := fun w1 rv1 (P : PsAt p w1 s rv1) => accept_c (c := 1) (B := (w1.alloc (.cells #[.string ⟨#[45]⟩] 9)).heap.size) (n := 1) (A := some ⟨w1.heap.size, 0, none⟩) (P.alloc (.cells #[.string ⟨#[45]⟩] 9)) [[45]] (new_row w1 _ _ 1 rfl rfl) (by omega)
  unfold GoPost at hA
  cases h1 : isP p.e s 0 [[45]]
  · rw [if_neg (by simp)]
    rw [acceptP_f h1] at hA
    have hB := fun w1 rv1 (P : PsAt p w1 s rv1) => accept_c (c := 1) (B := (w1.alloc (.cells #[.string ⟨#[110, 111, 116]⟩] 9)).heap.size) (n := 1) (A := some ⟨w1.heap.size, 0, none⟩) (P.alloc (.cells #[.string ⟨#[110, 111, 116]⟩] 9)) [wNot] (new_row w1 _ _ 1 rfl rfl) (by omega)
    unfold GoPost at hB
    cases h2 : isP p.e s 0 [wNot]
    · rw [if_neg (by simp)]
      rw [acceptP_f h2] at hB
      have h0 := fun w1 rv1 (P : PsAt p w1 s rv1) => IH0 w1 _ rv1 P hm (by omega)
      generalize parseP p.e F 0 s = q at h0 ⊢
      obtain ⟨x, s1⟩ := q
      unfold NodePost ptrV at h0
      simp only at h0 hA hB ⊢
      clear h1 h2 IH1 IH0
      go_enter Tryz.func267, Tryz.ntmps267
      go_wp2_with (first
        | (go_at_call 142; with_reducible refine (hA _ _ h).mono ?_; rintro e w1 ⟨rfl, P1, F1⟩; have S1 := ((St.refl h).alloc _).go P1 F1)
        | (go_at_call 142; with_reducible refine (hB _ _ S1.at_).mono ?_; rintro e w2 ⟨rfl, P2, F2⟩; have S2 := (S1.alloc _).go P2 F2)
        | (go_at_call 281; refine (h0 _ _ S2.at_).mono ?_; rintro e w3 ⟨a, rv3, rfl, S3, T3⟩))
      go_ret
      exact ⟨a, rv3, rfl, S2.trans S3, T3.mono S2.fr.size⟩
    · rw [if_pos rfl]
      rw [acceptP_t h2] at hB
      have hlt := isP_lt h2
      have hmx := next_more (e := p.e) (s := s) (by omega)
      have h0 := fun w1 rv1 (P : PsAt p w1 { s with pos := s.pos + 1 } rv1) => IH1 w1 _ rv1 P (by omega) (by simp only; omega)
      generalize parseP p.e F 1 { s with pos := s.pos + 1 } = q at h0 ⊢
      obtain ⟨x, s1⟩ := q
      unfold NodePost ptrV at h0
      simp only at h0 hA hB ⊢
      clear h1 h2 IH1 IH0 hmx
      go_enter Tryz.func267, Tryz.ntmps267
      go_wp2_with (first
        | (go_at_call 142; with_reducible refine (hA _ _ h).mono ?_; rintro e w1 ⟨rfl, P1, F1⟩; have S1 := ((St.refl h).alloc _).go P1 F1)
        | (go_at_call 142; with_reducible refine (hB _ _ S1.at_).mono ?_; rintro e w2 ⟨rfl, P2, F2⟩; have S2 := (S1.alloc _).go P2 F2)
        | (go_at_call 267; refine (h0 _ _ S2.at_).mono ?_; rintro e w3 ⟨a, rv3, rfl, S3, T3⟩)
        | (go_at_call 132; with_reducible refine (op1_c (op := 13) (S2.trans S3).fr.size (T3.mono S2.fr.size)).mono ?_; rintro e w4 ⟨d, rfl, hb4, T4⟩))
      go_ret
      exact ⟨d, rv3, rfl, (S2.trans S3).below (by (exact belQ)), T4⟩
  · rw [if_pos rfl]
    rw [acceptP_t h1] at hA
    have hlt := isP_lt h1
    have hmx := next_more (e := p.e) (s := s) (by omega)
    have hK := fun w1 rv1 (P : PsAt p w1 { s with pos := s.pos + 1 } rv1) => isKind_c P 0 (by omega) 2
    cases h2 : isKindP p.e { s with pos := s.pos + 1 } 0 2
    · rw [if_neg (by simp)]
      rw [h2] at hK
      have h0 := fun w1 rv1 (P : PsAt p w1 { s with pos := s.pos + 1 } rv1) => IH1 w1 _ rv1 P (by omega) (by simp only; omega)
      generalize parseP p.e F 1 { s with pos := s.pos + 1 } = q at h0 ⊢
      obtain ⟨x, s1⟩ := q
      unfold NodePost ptrV at h0
      simp only at h0 hA ⊢
      clear h1 h2 IH1 IH0 hmx
      go_enter Tryz.func267, Tryz.ntmps267
      go_wp2_with (first
        | (go_at_call 142; with_reducible refine (hA _ _ h).mono ?_; rintro e w1 ⟨rfl, P1, F1⟩; have S1 := ((St.refl h).alloc _).go P1 F1)
        | (go_at_call 186; refine (hK _ _ S1.at_).mono ?_; rintro e w2 ⟨rfl, rfl⟩)
        | (go_at_call 267; refine (h0 _ _ S1.at_).mono ?_; rintro e w3 ⟨a, rv3, rfl, S3, T3⟩)
        | (go_at_call 132; with_reducible refine (op1_c (op := 3) (S1.trans S3).fr.size (T3.mono S1.fr.size)).mono ?_; rintro e w4 ⟨d, rfl, hb4, T4⟩))
      go_ret
      exact ⟨d, rv3, rfl, (S1.trans S3).below (by (exact belQ)), T4⟩
    · rw [if_pos rfl]
      rw [h2] at hK
      have hT := fun w1 rv1 (P : PsAt p w1 { s with pos := s.pos + 1 } rv1) => take_c P 2
      have hn := take_num hN { s with pos := s.pos + 1 }
      generalize takeP p.e { s with pos := s.pos + 1 } 2 = q at hT hn ⊢
      obtain ⟨t, s1⟩ := q
      unfold GoPost at hT
      simp only at hT hA hn ⊢
      have hw : IntKind.i64.wrap (-t.int) = -t.int := IntWalk.i64_in _ (by omega)
      have hfl := fld2
      clear h1 h2 IH1 IH0 hmx hn
      go_enter Tryz.func267, Tryz.ntmps267
      go_wp2_with (first
        | (go_at_call 142; with_reducible refine (hA _ _ h).mono ?_; rintro e w1 ⟨rfl, P1, F1⟩; have S1 := ((St.refl h).alloc _).go P1 F1)
        | (go_at_call 186; refine (hK _ _ S1.at_).mono ?_; rintro e w2 ⟨rfl, rfl⟩)
        | (go_at_call 241; refine (hT _ _ S1.at_).mono ?_; rintro e w3 ⟨rfl, P3, F3⟩; have S3 := S1.go P3 F3)
        | (go_at_call 280; refine (constant_c _ ⟨1, -t.int, ⟨#[]⟩⟩).mono ?_; rintro e w4 ⟨d, rfl, hb4, T4⟩))
      go_ret
      exact ⟨d, _, rfl, S3.below hb4, T4.mono S3.fr.size⟩
end
theorem standV : Tryz.prog.stoodInHeld 36 = false := by kernel_rfl
def eqB (k n : Int) (s : ByteArray) (k' n' : Int) (s' : ByteArray) : Bool := k == k' && (n == n' && s.data.toList == s'.data.toList)
theorem run_eqV (k n : Int) (s : ByteArray) (k' n' : Int) (s' : ByteArray) (w : World) : (binOp .eql 36 (.agg #[.int .i64 k, .int .i64 n, .string s]) (.agg #[.int .i64 k', .int .i64 n', .string s'])).run Tryz.prog w = .ok (.bool (eqB k n s k' n' s')) w := by
  have hu := Tryz.underlying36
  have := standV
  simp [go_sem, this, hu, Lib.toList_data]
  unfold eqB
  by_cases h1 : k = k' <;> by_cases h2 : n = n' <;> by_cases h3 : s.data = s'.data <;> simp [h1, h2, h3]
abbrev RowT := @RowOf T T.cells
theorem RowT.at5 {w : World} {B n : Nat} {A : Option Addr} {ts : List T} (h : RowT w B A n ts) {k : Nat} (hk : k < n) :
   ∃ b off t, A = some ⟨b, off, none⟩ ∧ b < B ∧ ts[k]? = some t ∧ w.cell? ⟨b, off + k * 5, none⟩ = some (.int .i64 t.op) ∧ w.cell? ⟨b, off + k * 5 + 1, none⟩ = some (.int .i64 t.v.k) ∧ w.cell? ⟨b, off + k * 5 + 2, none⟩ = some (.int .i64 t.v.n) ∧ w.cell? ⟨b, off + k * 5 + 3, none⟩ = some (.string t.v.s) ∧ w.cell? ⟨b, off + k * 5 + 4, none⟩ = some (.int .i64 t.c) := by
  obtain ⟨b, off, t, h1, h2, h3, h4⟩ := h.at_ 5 (fun _ => rfl) (by omega) hk
  exact ⟨b, off, t, h1, h2, h3, h4 0 _ rfl, h4 1 _ rfl, h4 2 _ rfl, h4 3 _ rfl, h4 4 _ rfl⟩
theorem stT : SliceTy Tryz.prog 27 40 5 48 := SliceTy.mk' Tryz.underlying27 (z := .agg #[.int .i64 0, .int .i64 0, .int .i64 0, .string ⟨#[]⟩, .int .i64 0]) (by kernel_rfl) rfl (by decide) (by decide)
theorem xarity (op : Int) (w : World) : Calls Tryz.prog 55 #[.int .i64 op] w fun e w' => e = .returned (.int .i64 (arity op)) ∧ w = w' := by
  go_enter Tryz.func55, Tryz.ntmps55
  go_wp2
  all_goals go_ret
  all_goals refine ⟨ret_int ?_, rfl⟩
  all_goals simp_all [arity]
  all_goals (first | done | omega)
theorem rarity (op : Int) (w : World) : Calls Tryz.prog 29 #[.int .i64 op] w fun e w' => e = .returned (.int .i64 (arity op)) ∧ w = w' := by
  go_enter Tryz.func29, Tryz.ntmps29
  go_wp2
  all_goals go_ret
  all_goals refine ⟨ret_int ?_, rfl⟩
  all_goals simp_all [arity]
  all_goals (first | done | omega)
end Go.Proofs.YtpnfbehbheddeaaGreatDoor
