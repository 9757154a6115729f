/- Contracts of function and atom, from those that they call. The numbers of the tokens are from 0 to 2^32. -/
import Derived.Test.YtpnfbehbheddeaaGreatDoorBn06
namespace Go.Proofs.YtpnfbehbheddeaaGreatDoor
set_option maxRecDepth 100000
set_option maxHeartbeats 8000000
set_option linter.unusedVariables false
set_option linter.unusedSimpArgs false
open Go.RowKit
theorem stN : SliceTy Tryz.prog 136 70 1 8 := SliceTy.mk' Tryz.underlying136 (z := .pointer none) (by kernel_rfl) rfl (by decide) (by decide)
theorem own_lit (w : World) (cs : Array Value) (te : TypeId) (base : Nat) (hb : base ≤ w.heap.size) (hm : cs.size ≤ maxLen) : (w.alloc (.cells cs te)).ownsRow base te 1 (.slice (some ⟨w.heap.size, 0, none⟩) cs.size cs.size) cs.size cs.toList := by
  refine ⟨by simp, .inr ⟨w.heap.size, cs.size, cs, rfl, hb, heap_alloc_new w _, Nat.le_refl _, hm, by simp, List.take_of_length_le (by simp)⟩⟩
theorem own_keepO {T : List TypeId} {w w' : World} {base : Nat} {e : TypeId} {size : Nat} {v : Value} {n : Nat} {xs : List Value} (h : w.ownsRow base e size v n xs) (hk : KeepO T w w') (he : e ∉ T) : w'.ownsRow base e size v n xs := by
  refine ⟨h.1, ?_⟩
  rcases h.2 with h2 | ⟨g, cap, cur, h3, h4, h5, h6⟩
  · exact .inl h2
  · exact .inr ⟨g, cap, cur, h3, h4, (hk g _ _ h5 he).trans h5, h6⟩
theorem slP_own {w : World} {base n : Nat} {v : Value} {l : List Nat} (h : w.ownsRow base 70 1 v n (l.map ptrV)) : SlP (From base) w v l := by
  have hl : l.length = n := by have := h.1; simpa using this
  rcases h.2 with ⟨rfl, h0⟩ | ⟨g, cap, cur, rfl, hb, h5, h6, h7, _, h8⟩
  · exact .inl ⟨List.eq_nil_of_length_eq_zero (by omega), _, _, rfl⟩
  · by_cases h0 : l = []
    · subst h0
      simp at hl
      subst hl
      exact .inl ⟨rfl, _, _, rfl⟩
    · subst hl
      refine .inr ⟨g, cap, cur, hb, rfl, h0, h5, h6, h7, fun i a hi => ?_⟩
      have h9 := congrArg (fun q => q[i]?) h8
      simp only [List.getElem?_map, hi, Option.map_some] at h9
      rw [List.getElem?_take_of_lt (by have := (List.getElem?_eq_some_iff.1 hi).1; omega)] at h9
      simpa using h9
def Av (lo : Nat) (v : Value) (k : Nat) : Prop := lo ≤ k ∧ v.ownBlock ≠ some k
theorem St.grow {p : Pp} {w0 w w' : World} {rv0 rv : Value} {s : Ps} (h : St p w0 rv0 w s rv) (hl : p.pb < w0.heap.size) {e : TypeId} {size n : Nat} {v : Value} {xs : List Value} (hown : w.ownsRow w0.heap.size e size v n xs) (he : e ≠ 105) (hg : w.grownBy w' v.ownBlock) : St p w0 rv0 w' s rv := by
  have hne : ∀ k, k ≤ p.pb → some k ≠ v.ownBlock := fun k hk e => by have := (hown.lt k e.symm).1; omega
  refine ⟨⟨(hg.block _ h.at_.lt (hne _ (Nat.le_refl _))).trans h.at_.blk, h.at_.toks.keep fun q hq => World.cell?_of_block (hg.block _ (by have := h.at_.lt; omega) (hne _ (by omega))), h.at_.ok, h.at_.few, h.at_.refs.1, ?_⟩, h.fr.grown hg fun k hk hlt => by have := (hown.lt k hk).1; omega, h.own⟩
  rcases h.at_.refs.2 with h2 | ⟨g, cap, cur, h3, h4, h5, h6⟩
  · exact .inl h2
  · refine .inr ⟨g, cap, cur, h3, h4, (hg.block _ (heap_lt h5) fun e0 => ?_).trans h5, h6⟩
    obtain ⟨cur2, hc⟩ := ref_blk hown e0.symm
    rw [hc] at h5
    injection h5 with h5
    injection h5 with _ h5
    exact he h5
theorem kids_one {B : Nat → Prop} {w : World} {x : X} {a : Nat} (h : TreeAt B w x a) : KidsAt B w [x] [a] := by
  unfold KidsAt
  exact ⟨a, [], rfl, h, by unfold KidsAt; rfl⟩
theorem kids_app {w4 w5 : World} {lo lo2 : Nat} {v4 v5 : Value} {l : List X} {m0 : List Nat} {y : X} {b : Nat} (hk : KidsAt (Av lo v4) w4 l m0) (hy : TreeAt (From lo2) w4 y b) (hlo : lo ≤ lo2) (hv : ∀ k, v4.ownBlock = some k → k < lo2) (hg : w4.grownBy w5 v4.ownBlock) (hat : v5.ownBlock = v4.ownBlock ∨ v5.ownBlock = some (w4.heap.size + 1)) : KidsAt (Av lo v5) w5 (l ++ [y]) (m0 ++ [b]) := by
  have hB : ∀ k, Av lo v4 k → k < w4.heap.size → Av lo v5 k := fun k hk hl => ⟨hk.1, fun e0 => by
    rcases hat with hat | hat
    · rw [hat] at e0; exact hk.2 e0
    · rw [hat] at e0; injection e0 with e0; omega⟩
  have hK : KeepB (Av lo v4) TX w4 w5 := fun k cs te hb hc _ => hg.block k (heap_lt hc) fun e0 => hb.2 e0.symm
  have hy2 : TreeAt (Av lo v4) w4 y b := TreeAt.keep kt_TX (fun k h _ => ⟨Nat.le_trans hlo h, fun e0 => by have := hv k e0; unfold From at h; omega⟩) (fun _ _ _ _ _ _ => rfl) y b hy
  exact KidsAt.keep kt_TX hB hK _ _ (kids_snoc hk hy2)
theorem pTake_lt {e : Src} {s : Ps} (k : Int) (h : s.pos < e.toks.length) : s.pos + 1 ≤ (takeP e s k).2.pos := by
  unfold takeP
  split
  · exact Nat.le_refl _
  · simp only [Ps.fail]; omega
theorem args_0 {e : Src} {f : Nat} {l : List X} {s : Ps} : argsP e (f + 1) 0 l s = (l, s) := by rw [argsP]
theorem args_s {e : Src} {f k : Nat} {l : List X} {s : Ps} : argsP e (f + 1) (k + 1) l s = argsP e f k (l ++ [(parseP e f 6 (expectP e s [[44]]).2).1]) (parseP e f 6 (expectP e s [[44]]).2).2 := by rw [argsP]
theorem fun_ar3 (w : Bs) : ∃ m : Nat, arity (funP w) = (m : Int) ∧ 1 ≤ m ∧ m ≤ 3 := by
  unfold funP
  (repeat' split) <;> first | exact ⟨1, by decide, by decide, by decide⟩ | exact ⟨2, by decide, by decide, by decide⟩ | exact ⟨3, by decide, by decide, by decide⟩
section
variable {p : Pp}
def FnRel (p : Pp) (w : World) (rv : Value) (F m : Nat) (R : List X × Ps) (v : Value) (wr : World) : Prop :=
  ∃ (f : Nat) (l : List X) (m0 : List Nat) (s : Ps) (rv' : Value), wr.ownsRow w.heap.size 70 1 v l.length (m0.map ptrV) ∧ 1 ≤ l.length ∧ l.length ≤ m ∧ St p w rv wr s rv' ∧ KidsAt (Av w.heap.size v) wr l m0 ∧ Hid (argsP p.e f (m - l.length) l s = R) ∧ f ≤ F ∧ 10 * (p.e.toks.length - s.pos) + 8 + (m - l.length) ≤ f ∧ p.e.meas s + (m - l.length) ≤ 400000
def lenOf : Value → Nat
  | .slice _ n _ => n
  | _ => 0
theorem function_c (F : Nat) (IH : ∀ f, f ≤ F → OpC p 43 6 f) {w : World} {s : Ps} {rv : Value} (h : PsAt p w s rv) (hl : s.pos < p.e.toks.length) (hm : p.e.meas s ≤ 400000) (hf : 10 * (p.e.toks.length - s.pos) ≤ F)
    {R : List X × Ps} (hR : argsP p.e F ((arity (funP (takeP p.e s 1).1.text)).toNat - 1) [(parseP p.e F 6 (expectP p.e (takeP p.e s 1).2 [[40]]).2).1] (parseP p.e F 6 (expectP p.e (takeP p.e s 1).2 [[40]]).2).2 = R) :
    Calls Tryz.prog 288 #[.pointer (some ⟨p.pb, 0, none⟩)] w (NodePost p w rv (opX (funP (takeP p.e s 1).1.text) R.1) (expectP p.e R.2 [[41]]).2) := by
  have hN := name_c h
  have hst := step_take (e := p.e) (s := s) 1 h.ok
  have hme := take_more (e := p.e) (s := s) 1 hl
  have htl := pTake_lt (e := p.e) (s := s) 1 hl
  generalize takeP p.e s 1 = q at hN hR hst hme htl ⊢
  obtain ⟨t, s1⟩ := q
  simp only at hN hR hst hme htl ⊢
  obtain ⟨m, hma, hm1, hm3⟩ := fun_ar3 t.text
  have hok := hst.ok
  have hE := fun w1 rv1 (P : PsAt p w1 s1 rv1) => expect_c (c := 1) (B := (w1.alloc (.cells #[.string ⟨#[40]⟩] 9)).heap.size) (n := 1) (A := some ⟨w1.heap.size, 0, none⟩) (P.alloc (.cells #[.string ⟨#[40]⟩] 9)) [[40]] (new_row w1 _ _ 1 rfl rfl) (by omega)
  have hst2 := step_expect (e := p.e) (s := s1) [[40]] hok
  generalize expectP p.e s1 [[40]] = q at hE hR hst2
  obtain ⟨wd, s2⟩ := q
  simp only at hE hR hst2
  have hle2 := hst2.le
  have hme2 := hst2.meas
  have hX := fun w1 rv1 (P : PsAt p w1 s2 rv1) => IH F (Nat.le_refl _) w1 s2 rv1 P (by omega) (by omega)
  have hst3 := parse_step p.e F 6 s2 hst2.ok
  generalize parseP p.e F 6 s2 = q at hX hR hst3
  obtain ⟨x, s3⟩ := q
  simp only at hX hR hst3
  have hle3 := hst3.le
  have hme3 := hst3.meas
  have hA := fun op w1 => xarity op w1
  obtain ⟨lR, sR⟩ := R
  rw [hma] at hR
  have HR := Lib.hid hR
  have HA := Lib.hid hma
  have HI := Lib.hid IH
  unfold GoPost at hN hE
  unfold NodePost ptrV at hX
  clear hR IH hst hst2 hst3
  go_enter Tryz.func288, Tryz.ntmps288
  go_wp2_with (first
    | (go_at_call 189; refine hN.mono ?_; rintro e w1 ⟨rfl, P1, F1⟩; have S1 := (St.refl h).go P1 F1)
    | (go_at_call 291; refine (functionOf_c t.text _).mono ?_; rintro e w1' ⟨rfl, rfl⟩)
    | (go_at_call 88; refine (hE _ _ S1.at_).mono ?_; rintro e w2 ⟨rfl, P2, F2⟩; have S2 := (S1.alloc _).go P2 F2)
    | (go_at_call 43; refine (hX _ _ S2.at_).mono ?_; rintro e w3 ⟨a, rv3, rfl, S3, T3⟩))
  have z3 := (S2.trans S3).fr.size
  have S4 := (S2.trans S3).alloc (.cells #[.pointer (some ⟨a, 0, none⟩)] 70)
  have hlo := h.lt
  go_loopw [4] (fun v4 wr => FnRel p w rv F m (lR, sR) v4 wr) (fun v4 wr => m - lenOf v4)
  case atStart =>
    refine ⟨F, [x], [a], s3, rv3, own_lit w3 #[ptrV a] _ _ z3 (by simp [maxLen]), by simp, hm1, S4, kids_one ?_, HR.out, Nat.le_refl _, ?_, ?_⟩
    · refine TreeAt.keep kt_TX (fun k h hl => ⟨Nat.le_trans S2.fr.size h, fun e0 => ?_⟩) (KeepO.of_below ((Below.refl w3.heap.size w3).alloc (Nat.le_refl _) _)).b x a T3
      simp only [Value.ownBlock] at e0
      injection e0 with e0
      omega
    · show _ + _ + (m - 1) ≤ F
      omega
    · show _ + (m - 1) ≤ _
      omega
  case round =>
    obtain ⟨f1, l, m0, s, rv', hown, hl1, hlm, S, K, HC, hfF, hfu, hmm⟩ := hrel
    obtain ⟨A4, c4, rfl, k1, k2⟩ := own_slice hown
    have hA2 : ∀ w1, Calls Tryz.prog 55 #[.int .i64 (funP t.text)] w1 fun e w' => e = .returned (.int .i64 (m : Int)) ∧ w1 = w' := fun w1 => by rw [← HA.out]; exact hA _ w1
    have hv := fun k hk => (hown.lt k hk).2
    clear S4 T3 S3 S2 S1 P1 P2 F1 F2 hX hE hN hA
    by_cases hlt : l.length < m
    · obtain ⟨f, rfl⟩ : ∃ f, f1 = f + 1 := ⟨f1 - 1, by omega⟩
      obtain ⟨k, hk⟩ : ∃ k, m - l.length = k + 1 := ⟨m - l.length - 1, by omega⟩
      have hC := HC.out
      rw [hk, args_s] at hC
      have hst := step_expect (e := p.e) (s := s) [[44]] S.at_.ok
      have hfl : 10 * (p.e.toks.length - (expectP p.e s [[44]]).2.pos) + 8 + k ≤ f := by
        unfold expectP
        split
        · rename_i hi; have := isP_lt hi; simp only; omega
        · simp only [Ps.fail]; omega
      have hE := fun w1 rv1 (P : PsAt p w1 s rv1) => expect_c (c := 1) (B := (w1.alloc (.cells #[.string ⟨#[44]⟩] 9)).heap.size) (n := 1) (A := some ⟨w1.heap.size, 0, none⟩) (P.alloc (.cells #[.string ⟨#[44]⟩] 9)) [[44]] (new_row w1 _ _ 1 rfl rfl) (by omega)
      generalize expectP p.e s [[44]] = q at hC hst hfl hE
      obtain ⟨wd2, s5⟩ := q
      simp only at hC hst hfl hE
      have hme5 := hst.meas
      have hX := fun w1 rv1 (P : PsAt p w1 s5 rv1) => HI.out f (by omega) w1 s5 rv1 P (by omega) (by omega)
      have hst6 := parse_step p.e f 6 s5 hst.ok
      generalize parseP p.e f 6 s5 = q at hX hC hst6
      obtain ⟨y, s6⟩ := q
      simp only at hX hC hst6
      have hle6 := hst6.le
      have hme6 := hst6.meas
      have HC2 := Lib.hid hC
      unfold GoPost at hE
      unfold NodePost ptrV at hX
      have t1 : (l.length : Int) < (m : Int) := by omega
      clear hC HC hst hst6
      go_wp2_with (first
        | (go_at_call 55; refine (hA2 _).mono ?_; rintro e w0' ⟨rfl, rfl⟩)
        | (go_at_call 88; refine (hE _ _ S.at_).mono ?_; rintro e w5 ⟨rfl, P5, F5⟩; have S5 := (S.alloc (.cells #[.string ⟨#[44]⟩] 9)).go P5 F5; have K5 := (KeepO.of_below (T := TX) (w := wr) ((Below.refl _ _).alloc (Nat.le_refl _) _)).trans ((S.alloc (.cells #[.string ⟨#[44]⟩] 9)).at_.keep_go F5); have z5 := F5.size; have z5' := S5.fr.size; simp at z5)
        | (go_at_call 43; refine (hX _ _ S5.at_).mono ?_; rintro e w6 ⟨b, rv6, rfl, S6, T6⟩; have K6 := K5.trans (S6.keepO S5.at_); have own6 := own_keepO hown K6 (by decide); have z6 := S6.fr.size)
        | (at_builtin; refine wpList_app (v := .slice A4 l.length c4) rfl _ _ stN rfl rfl (own6) rfl (by simp) rfl (by simp [Value.oneCell']) (by omega) (by omega) ?_; intro v7 w7 own7 g7 at7))
      have S7 := (S5.trans S6).grow hlo own6 (by decide) g7
      have K7 := kids_app (KidsAt.keep kt_TX (fun _ h _ => h) K6.b l m0 K) T6 z5' (fun k hk => by have := hv k hk; omega) g7 at7
      go_roundw
      case rel =>
        refine ⟨f, l ++ [y], m0 ++ [b], s6, rv6, ?_, by simp, by simp; omega, S7, K7, ?_, by omega, ?_, ?_⟩
        · rw [List.map_append, List.length_append]
          exact own7
        · have := HC2.out
          rw [show m - (l ++ [y]).length = k by simp; omega]
          exact this
        · simp; omega
        · simp; omega
      case measure =>
        obtain ⟨A7, c7, rfl, _, _⟩ := own_slice own7
        show m - (l.length + 1) < m - l.length
        omega
    · obtain rfl : l.length = m := by omega
      obtain ⟨f, rfl⟩ : ∃ f, f1 = f + 1 := ⟨f1 - 1, by omega⟩
      have hC := HC.out
      rw [Nat.sub_self, args_0] at hC
      obtain ⟨rfl, rfl⟩ : l = lR ∧ s = sR := ⟨congrArg Prod.fst hC, congrArg Prod.snd hC⟩
      have hE := fun w1 rv1 (P : PsAt p w1 s rv1) => expect_c (c := 1) (B := (w1.alloc (.cells #[.string ⟨#[41]⟩] 9)).heap.size) (n := 1) (A := some ⟨w1.heap.size, 0, none⟩) (P.alloc (.cells #[.string ⟨#[41]⟩] 9)) [[41]] (new_row w1 _ _ 1 rfl rfl) (by omega)
      unfold GoPost at hE
      have t1 : ¬ (l.length : Int) < (l.length : Int) := by omega
      have KF : KidsAt (From w.heap.size) wr l m0 := KidsAt.keep kt_TX (fun k h _ => h.1) (fun _ _ _ _ _ _ => rfl) l m0 K
      clear hC HC K
      go_wp2_with (first
        | (go_at_call 55; refine (hA2 _).mono ?_; rintro e w0' ⟨rfl, rfl⟩)
        | (go_at_call 88; refine (hE _ _ S.at_).mono ?_; rintro e w5 ⟨rfl, P5, F5⟩; have S5 := (S.alloc (.cells #[.string ⟨#[41]⟩] 9)).go P5 F5; have K5 := (KeepO.of_below (T := TX) (w := wr) ((Below.refl _ _).alloc (Nat.le_refl _) _)).trans ((S.alloc (.cells #[.string ⟨#[41]⟩] 9)).at_.keep_go F5); have z5 := S5.fr.size)
        | (go_at_call 132; refine (operation_c (B := From w.heap.size) z5 (slP_own (own_keepO hown K5 (by decide))) (KidsAt.keep kt_TX (fun _ h _ => h) K5.b l m0 KF)).mono ?_; rintro e w6 ⟨d, rfl, hb6, T6⟩))
      go_ret
      exact ⟨d, rv', rfl, S5.below hb6, T6⟩
theorem atom_c (hN : p.e.okN) (F : Nat) (IH : ∀ f, f ≤ F → OpC p 43 6 f) : OpC p 281 0 (F + 1) := fun w s rv h hm hf => by
  have hml : s.refs.length ≤ 400000 := by unfold Src.meas at hm; omega
  rw [parseP]
  have hK2 := isKind0_c h 2
  cases i2 : isKindP p.e s 0 2
  rotate_left
  · rw [if_pos rfl]
    rw [i2] at hK2
    have hT := take_c h 2
    generalize takeP p.e s 2 = q at hT ⊢
    obtain ⟨t, s1⟩ := q
    unfold GoPost at hT
    simp only at hT ⊢
    have hfl := fld2
    clear i2 IH
    go_enter Tryz.func281, Tryz.ntmps281
    go_wp2_with (first
      | (go_at_call 186; refine hK2.mono ?_; rintro e w1 ⟨rfl, rfl⟩)
      | (go_at_call 241; refine hT.mono ?_; rintro e w3 ⟨rfl, P3, F3⟩; have S3 := (St.refl h).go P3 F3)
      | (go_at_call 280; refine (constant_c _ ⟨1, t.int, ⟨#[]⟩⟩).mono ?_; rintro e w4 ⟨d, rfl, hb4, T4⟩))
    go_ret
    exact ⟨d, _, rfl, S3.below hb4, T4.mono S3.fr.size⟩
  rw [if_neg (by simp)]
  rw [i2] at hK2
  have hK3 := isKind0_c h 3
  cases i3 : isKindP p.e s 0 3
  rotate_left
  · rw [if_pos rfl]
    rw [i3] at hK3
    have hT := take_c h 3
    generalize takeP p.e s 3 = q at hT ⊢
    obtain ⟨t, s1⟩ := q
    unfold GoPost at hT
    simp only at hT ⊢
    have hfl := fld1
    clear i2 i3 IH
    go_enter Tryz.func281, Tryz.ntmps281
    go_wp2_with (first
      | (go_at_call 186; with_reducible refine hK2.mono ?_; rintro e w1 ⟨rfl, rfl⟩)
      | (go_at_call 186; with_reducible refine hK3.mono ?_; rintro e w1 ⟨rfl, rfl⟩)
      | (go_at_call 241; refine hT.mono ?_; rintro e w3 ⟨rfl, P3, F3⟩; have S3 := (St.refl h).go P3 F3)
      | (go_at_call 280; refine (constant_c _ ⟨2, 0, ⟨t.text.toArray⟩⟩).mono ?_; rintro e w4 ⟨d, rfl, hb4, T4⟩))
    go_ret
    exact ⟨d, _, rfl, S3.below hb4, T4.mono S3.fr.size⟩
  rw [if_neg (by simp)]
  rw [i3] at hK3
  have hA := accept_c (c := 1) (B := (w.alloc (.cells #[.string ⟨#[40]⟩] 9)).heap.size) (n := 1) (A := some ⟨w.heap.size, 0, none⟩) (h.alloc (.cells #[.string ⟨#[40]⟩] 9)) [[40]] (new_row w _ _ 1 rfl rfl) (by omega)
  unfold GoPost at hA
  cases i4 : isP p.e s 0 [[40]]
  rotate_left
  · rw [if_pos rfl]
    rw [acceptP_t i4] at hA
    have hlt := isP_lt i4
    have hmx := next_more (e := p.e) (s := s) (by omega)
    have h0 := fun w1 rv1 (P : PsAt p w1 { s with pos := s.pos + 1 } rv1) => IH F (Nat.le_refl _) w1 _ rv1 P (by omega) (by simp only; omega)
    generalize parseP p.e F 6 { s with pos := s.pos + 1 } = q at h0 ⊢
    obtain ⟨x, s1⟩ := q
    simp only at h0 hA ⊢
    have hE := fun w1 rv1 (P : PsAt p w1 s1 rv1) => expect_c (c := 1) (B := (w1.alloc (.cells #[.string ⟨#[41]⟩] 9)).heap.size) (n := 1) (A := some ⟨w1.heap.size, 0, none⟩) (P.alloc (.cells #[.string ⟨#[41]⟩] 9)) [[41]] (new_row w1 _ _ 1 rfl rfl) (by omega)
    generalize expectP p.e s1 [[41]] = q at hE ⊢
    obtain ⟨wd, s2⟩ := q
    unfold NodePost ptrV at h0
    unfold GoPost at hE
    simp only at hE ⊢
    clear i2 i3 i4 IH hmx
    go_enter Tryz.func281, Tryz.ntmps281
    go_wp2_with (first
      | (go_at_call 186; with_reducible refine hK2.mono ?_; rintro e w1 ⟨rfl, rfl⟩)
      | (go_at_call 186; with_reducible refine hK3.mono ?_; rintro e w1 ⟨rfl, rfl⟩)
      | (go_at_call 142; refine hA.mono ?_; rintro e w2 ⟨rfl, P2, F2⟩; have S2 := ((St.refl h).alloc _).go P2 F2)
      | (go_at_call 43; refine (h0 _ _ S2.at_).mono ?_; rintro e w3 ⟨a, rv3, rfl, S3, T3⟩; have S3' := S2.trans S3; have T3' := T3.mono S2.fr.size)
      | (go_at_call 88; refine (hE _ _ S3.at_).mono ?_; rintro e w4 ⟨rfl, P4, F4⟩; have S4 := (S3'.alloc _).go P4 F4; have T4 := (T3'.below (w' := w3.alloc _) (by (exact belQ))).keep1 ((S3'.alloc _).at_.keep_go F4)))
    go_ret
    exact ⟨a, rv3, rfl, S4, T4⟩
  rw [if_neg (by simp)]
  rw [acceptP_f i4] at hA
  have hF := fun w1 rv1 (P : PsAt p w1 s rv1) => is0_c (c := 5) (B := (w1.alloc (.cells #[.string ⟨#[108, 101, 110, 103, 116, 104]⟩, .string ⟨#[105, 115, 110, 117, 108, 108]⟩, .string ⟨#[112, 114, 101, 102, 105, 120]⟩, .string ⟨#[99, 111, 97, 108, 101, 115, 99, 101]⟩, .string ⟨#[105, 102]⟩] 9)).heap.size) (n := 5) (A := some ⟨w1.heap.size, 0, none⟩) (P.alloc (.cells #[.string ⟨#[108, 101, 110, 103, 116, 104]⟩, .string ⟨#[105, 115, 110, 117, 108, 108]⟩, .string ⟨#[112, 114, 101, 102, 105, 120]⟩, .string ⟨#[99, 111, 97, 108, 101, 115, 99, 101]⟩, .string ⟨#[105, 102]⟩] 9)) wFuncs (new_row w1 _ _ 5 rfl rfl) (by omega)
  have hB := fun w1 rv1 (P : PsAt p w1 s rv1) => is1_c (c := 1) (B := (w1.alloc (.cells #[.string ⟨#[40]⟩] 9)).heap.size) (n := 1) (A := some ⟨w1.heap.size, 0, none⟩) (P.alloc (.cells #[.string ⟨#[40]⟩] 9)) [[40]] (new_row w1 _ _ 1 rfl rfl) (by omega)
  unfold BPost at hF hB
  by_cases i5 : isP p.e s 0 wFuncs = true ∧ isP p.e s 1 [[40]] = true
  · rw [if_pos i5]
    rw [i5.1] at hF
    rw [i5.2] at hB
    have hlt := isP_lt i5.1
    simp only
    have hX := fun w1 (P : PsAt p w1 s rv) => function_c F IH P (by omega) hm (by omega) rfl
    generalize argsP p.e F _ _ _ = R at hX ⊢
    generalize expectP p.e R.2 [[41]] = q at hX ⊢
    obtain ⟨wd, s2⟩ := q
    generalize opX _ R.1 = x at hX ⊢
    unfold NodePost ptrV at hX
    simp only at hX ⊢
    clear i2 i3 i4 i5 IH
    go_enter Tryz.func281, Tryz.ntmps281
    go_wp2_with (first
      | (go_at_call 186; with_reducible refine hK2.mono ?_; rintro e w1 ⟨rfl, rfl⟩)
      | (go_at_call 186; with_reducible refine hK3.mono ?_; rintro e w1 ⟨rfl, rfl⟩)
      | (go_at_call 142; refine hA.mono ?_; rintro e w2 ⟨rfl, P2, F2⟩; have S2 := ((St.refl h).alloc _).go P2 F2)
      | (go_at_call 130; with_reducible refine (hF _ _ S2.at_).mono ?_; rintro e w3 ⟨rfl, hb3⟩; have S3 := (S2.alloc _).below hb3)
      | (go_at_call 130; with_reducible refine (hB _ _ S3.at_).mono ?_; rintro e w4 ⟨rfl, hb4⟩; have S4 := (S3.alloc _).below hb4)
      | (go_at_call 288; refine (hX _ S4.at_).mono ?_; rintro e w5 ⟨a, rv5, rfl, S5, T5⟩))
    go_ret
    exact ⟨a, rv5, rfl, S4.trans S5, T5.mono S4.fr.size⟩
  rw [if_neg i5]
  have hL := fun w1 rv1 (P : PsAt p w1 s rv1) => is0_c (c := 2) (B := (w1.alloc (.cells #[.string ⟨#[108, 101, 102, 116]⟩, .string ⟨#[114, 105, 103, 104, 116]⟩] 9)).heap.size) (n := 2) (A := some ⟨w1.heap.size, 0, none⟩) (P.alloc (.cells #[.string ⟨#[108, 101, 102, 116]⟩, .string ⟨#[114, 105, 103, 104, 116]⟩] 9)) [wLeft, wRight] (new_row w1 _ _ 2 rfl rfl) (by omega)
  have hD := fun w1 rv1 (P : PsAt p w1 s rv1) => is1_c (c := 1) (B := (w1.alloc (.cells #[.string ⟨#[46]⟩] 9)).heap.size) (n := 1) (A := some ⟨w1.heap.size, 0, none⟩) (P.alloc (.cells #[.string ⟨#[46]⟩] 9)) [[46]] (new_row w1 _ _ 1 rfl rfl) (by omega)
  unfold BPost at hL hD
  have i5' : isP p.e s 0 wFuncs = true → isP p.e s 1 [[40]] = false := fun e => by
    cases e2 : isP p.e s 1 [[40]]
    · rfl
    · exact absurd ⟨e, e2⟩ i5
  clear i2 i3 i4 i5 IH hm hf
  by_cases i6 : isP p.e s 0 [wLeft, wRight] = true ∧ isP p.e s 1 [[46]] = true
  · rw [if_pos i6]
    rw [i6.1] at hL
    rw [i6.2] at hD
    have hE := fun w1 rv1 (P : PsAt p w1 s rv1) => expect_c (c := 2) (B := (w1.alloc (.cells #[.string ⟨#[108, 101, 102, 116]⟩, .string ⟨#[114, 105, 103, 104, 116]⟩] 9)).heap.size) (n := 2) (A := some ⟨w1.heap.size, 0, none⟩) (P.alloc (.cells #[.string ⟨#[108, 101, 102, 116]⟩, .string ⟨#[114, 105, 103, 104, 116]⟩] 9)) [wLeft, wRight] (new_row w1 _ _ 2 rfl rfl) (by omega)
    have hrf := expect_refs (e := p.e) (s := s) [wLeft, wRight]
    clear i6
    simp only
    generalize expectP p.e s [wLeft, wRight] = q at hE hrf ⊢
    obtain ⟨wd, s1⟩ := q
    simp only at hE hrf ⊢
    have hE2 := fun w1 rv1 (P : PsAt p w1 s1 rv1) => expect_c (c := 1) (B := (w1.alloc (.cells #[.string ⟨#[46]⟩] 9)).heap.size) (n := 1) (A := some ⟨w1.heap.size, 0, none⟩) (P.alloc (.cells #[.string ⟨#[46]⟩] 9)) [[46]] (new_row w1 _ _ 1 rfl rfl) (by omega)
    have hrf2 := expect_refs (e := p.e) (s := s1) [[46]]
    generalize expectP p.e s1 [[46]] = q at hE2 hrf2 ⊢
    obtain ⟨wd2, s2⟩ := q
    simp only at hE2 hrf2 ⊢
    have hR := fun w1 rv1 (P : PsAt p w1 s2 rv1) => reference_c P (by rw [hrf2, hrf]; omega) (wd == wRight)
    generalize refP p.e (wd == wRight) s2 = q at hR ⊢
    obtain ⟨x, s3⟩ := q
    unfold GoPost at hE hE2
    unfold NodePost ptrV at hR
    simp only at hR ⊢
    clear hrf hrf2
    unfold wRight at hR
    cases e5 : isP p.e s 0 wFuncs
    · rw [e5] at hF
      clear i5' e5
      go_enter Tryz.func281, Tryz.ntmps281
      go_wp2_with (first
        | (go_at_call 186; with_reducible refine hK2.mono ?_; rintro e w1 ⟨rfl, rfl⟩)
        | (go_at_call 186; with_reducible refine hK3.mono ?_; rintro e w1 ⟨rfl, rfl⟩)
        | (go_at_call 142; refine hA.mono ?_; rintro e w2 ⟨rfl, P2, F2⟩; have S2 := ((St.refl h).alloc _).go P2 F2; have SQ := S2)
        | (go_at_call 130; with_reducible refine (hF _ _ SQ.at_).mono ?_; rintro e w3 ⟨rfl, hb3⟩; replace SQ := (SQ.alloc _).below hb3)
        | (go_at_call 130; with_reducible refine (hB _ _ SQ.at_).mono ?_; rintro e w4 ⟨rfl, hb4⟩; replace SQ := (SQ.alloc _).below hb4)
        | (go_at_call 130; with_reducible refine (hL _ _ SQ.at_).mono ?_; rintro e w5 ⟨rfl, hb5⟩; replace SQ := (SQ.alloc _).below hb5)
        | (go_at_call 130; with_reducible refine (hD _ _ SQ.at_).mono ?_; rintro e w6 ⟨rfl, hb6⟩; replace SQ := (SQ.alloc _).below hb6)
        | (go_at_call 88; with_reducible refine (hE _ _ SQ.at_).mono ?_; rintro e w7 ⟨rfl, P7, F7⟩; have S7 := (SQ.alloc _).go P7 F7)
        | (go_at_call 88; with_reducible refine (hE2 _ _ S7.at_).mono ?_; rintro e w8 ⟨rfl, P8, F8⟩; have S8 := (S7.alloc _).go P8 F8)
        | (go_at_call 289; refine (hR _ _ S8.at_).mono ?_; rintro e w9 ⟨a, rv9, rfl, S9, T9⟩))
      go_ret
      exact ⟨a, rv9, rfl, S8.trans S9, T9.mono S8.fr.size⟩
    · rw [i5' e5] at hB
      rw [e5] at hF
      clear i5' e5
      go_enter Tryz.func281, Tryz.ntmps281
      go_wp2_with (first
        | (go_at_call 186; with_reducible refine hK2.mono ?_; rintro e w1 ⟨rfl, rfl⟩)
        | (go_at_call 186; with_reducible refine hK3.mono ?_; rintro e w1 ⟨rfl, rfl⟩)
        | (go_at_call 142; refine hA.mono ?_; rintro e w2 ⟨rfl, P2, F2⟩; have S2 := ((St.refl h).alloc _).go P2 F2; have SQ := S2)
        | (go_at_call 130; with_reducible refine (hF _ _ SQ.at_).mono ?_; rintro e w3 ⟨rfl, hb3⟩; replace SQ := (SQ.alloc _).below hb3)
        | (go_at_call 130; with_reducible refine (hB _ _ SQ.at_).mono ?_; rintro e w4 ⟨rfl, hb4⟩; replace SQ := (SQ.alloc _).below hb4)
        | (go_at_call 130; with_reducible refine (hL _ _ SQ.at_).mono ?_; rintro e w5 ⟨rfl, hb5⟩; replace SQ := (SQ.alloc _).below hb5)
        | (go_at_call 130; with_reducible refine (hD _ _ SQ.at_).mono ?_; rintro e w6 ⟨rfl, hb6⟩; replace SQ := (SQ.alloc _).below hb6)
        | (go_at_call 88; with_reducible refine (hE _ _ SQ.at_).mono ?_; rintro e w7 ⟨rfl, P7, F7⟩; have S7 := (SQ.alloc _).go P7 F7)
        | (go_at_call 88; with_reducible refine (hE2 _ _ S7.at_).mono ?_; rintro e w8 ⟨rfl, P8, F8⟩; have S8 := (S7.alloc _).go P8 F8)
        | (go_at_call 289; refine (hR _ _ S8.at_).mono ?_; rintro e w9 ⟨a, rv9, rfl, S9, T9⟩))
      go_ret
      exact ⟨a, rv9, rfl, S8.trans S9, T9.mono S8.fr.size⟩
  rw [if_neg i6]
  have i6' : isP p.e s 0 [wLeft, wRight] = true → isP p.e s 1 [[46]] = false := fun e => by
    cases e2 : isP p.e s 1 [[46]]
    · rfl
    · exact absurd ⟨e, e2⟩ i6
  have hR := fun w1 rv1 (P : PsAt p w1 s rv1) => reference_c P (by omega) false
  generalize refP p.e false s = q at hR ⊢
  obtain ⟨x, s3⟩ := q
  unfold NodePost ptrV at hR
  simp only at hR ⊢
  cases e5 : isP p.e s 0 wFuncs
  · rw [e5] at hF
    cases e6 : isP p.e s 0 [wLeft, wRight]
    · rw [e6] at hL
      clear i5' i6' e5 e6 i6
      go_enter Tryz.func281, Tryz.ntmps281
      go_wp2_with (first
        | (go_at_call 186; with_reducible refine hK2.mono ?_; rintro e w1 ⟨rfl, rfl⟩)
        | (go_at_call 186; with_reducible refine hK3.mono ?_; rintro e w1 ⟨rfl, rfl⟩)
        | (go_at_call 142; refine hA.mono ?_; rintro e w2 ⟨rfl, P2, F2⟩; have S2 := ((St.refl h).alloc _).go P2 F2; have SQ := S2)
        | (go_at_call 130; with_reducible refine (hF _ _ SQ.at_).mono ?_; rintro e w3 ⟨rfl, hb3⟩; replace SQ := (SQ.alloc _).below hb3)
        | (go_at_call 130; with_reducible refine (hB _ _ SQ.at_).mono ?_; rintro e w4 ⟨rfl, hb4⟩; replace SQ := (SQ.alloc _).below hb4)
        | (go_at_call 130; with_reducible refine (hL _ _ SQ.at_).mono ?_; rintro e w5 ⟨rfl, hb5⟩; replace SQ := (SQ.alloc _).below hb5)
        | (go_at_call 130; with_reducible refine (hD _ _ SQ.at_).mono ?_; rintro e w6 ⟨rfl, hb6⟩; replace SQ := (SQ.alloc _).below hb6)
        | (go_at_call 289; refine (hR _ _ SQ.at_).mono ?_; rintro e w9 ⟨a, rv9, rfl, S9, T9⟩))
      go_ret
      exact ⟨a, rv9, rfl, SQ.trans S9, T9.mono SQ.fr.size⟩
    · rw [i6' e6] at hD
      rw [e6] at hL
      clear i5' i6' e5 e6 i6
      go_enter Tryz.func281, Tryz.ntmps281
      go_wp2_with (first
        | (go_at_call 186; with_reducible refine hK2.mono ?_; rintro e w1 ⟨rfl, rfl⟩)
        | (go_at_call 186; with_reducible refine hK3.mono ?_; rintro e w1 ⟨rfl, rfl⟩)
        | (go_at_call 142; refine hA.mono ?_; rintro e w2 ⟨rfl, P2, F2⟩; have S2 := ((St.refl h).alloc _).go P2 F2; have SQ := S2)
        | (go_at_call 130; with_reducible refine (hF _ _ SQ.at_).mono ?_; rintro e w3 ⟨rfl, hb3⟩; replace SQ := (SQ.alloc _).below hb3)
        | (go_at_call 130; with_reducible refine (hB _ _ SQ.at_).mono ?_; rintro e w4 ⟨rfl, hb4⟩; replace SQ := (SQ.alloc _).below hb4)
        | (go_at_call 130; with_reducible refine (hL _ _ SQ.at_).mono ?_; rintro e w5 ⟨rfl, hb5⟩; replace SQ := (SQ.alloc _).below hb5)
        | (go_at_call 130; with_reducible refine (hD _ _ SQ.at_).mono ?_; rintro e w6 ⟨rfl, hb6⟩; replace SQ := (SQ.alloc _).below hb6)
        | (go_at_call 289; refine (hR _ _ SQ.at_).mono ?_; rintro e w9 ⟨a, rv9, rfl, S9, T9⟩))
      go_ret
      exact ⟨a, rv9, rfl, SQ.trans S9, T9.mono SQ.fr.size⟩
  · rw [i5' e5] at hB
    rw [e5] at hF
    cases e6 : isP p.e s 0 [wLeft, wRight]
    · rw [e6] at hL
      clear i5' i6' e5 e6 i6
      go_enter Tryz.func281, Tryz.ntmps281
      go_wp2_with (first
        | (go_at_call 186; with_reducible refine hK2.mono ?_; rintro e w1 ⟨rfl, rfl⟩)
        | (go_at_call 186; with_reducible refine hK3.mono ?_; rintro e w1 ⟨rfl, rfl⟩)
        | (go_at_call 142; refine hA.mono ?_; rintro e w2 ⟨rfl, P2, F2⟩; have S2 := ((St.refl h).alloc _).go P2 F2; have SQ := S2)
        | (go_at_call 130; with_reducible refine (hF _ _ SQ.at_).mono ?_; rintro e w3 ⟨rfl, hb3⟩; replace SQ := (SQ.alloc _).below hb3)
        | (go_at_call 130; with_reducible refine (hB _ _ SQ.at_).mono ?_; rintro e w4 ⟨rfl, hb4⟩; replace SQ := (SQ.alloc _).below hb4)
        | (go_at_call 130; with_reducible refine (hL _ _ SQ.at_).mono ?_; rintro e w5 ⟨rfl, hb5⟩; replace SQ := (SQ.alloc _).below hb5)
        | (go_at_call 130; with_reducible refine (hD _ _ SQ.at_).mono ?_; rintro e w6 ⟨rfl, hb6⟩; replace SQ := (SQ.alloc _).below hb6)
        | (go_at_call 289; refine (hR _ _ SQ.at_).mono ?_; rintro e w9 ⟨a, rv9, rfl, S9, T9⟩))
      go_ret
      exact ⟨a, rv9, rfl, SQ.trans S9, T9.mono SQ.fr.size⟩
    · rw [i6' e6] at hD
      rw [e6] at hL
      clear i5' i6' e5 e6 i6
      go_enter Tryz.func281, Tryz.ntmps281
      go_wp2_with (first
        | (go_at_call 186; with_reducible refine hK2.mono ?_; rintro e w1 ⟨rfl, rfl⟩)
        | (go_at_call 186; with_reducible refine hK3.mono ?_; rintro e w1 ⟨rfl, rfl⟩)
        | (go_at_call 142; refine hA.mono ?_; rintro e w2 ⟨rfl, P2, F2⟩; have S2 := ((St.refl h).alloc _).go P2 F2; have SQ := S2)
        | (go_at_call 130; with_reducible refine (hF _ _ SQ.at_).mono ?_; rintro e w3 ⟨rfl, hb3⟩; replace SQ := (SQ.alloc _).below hb3)
        | (go_at_call 130; with_reducible refine (hB _ _ SQ.at_).mono ?_; rintro e w4 ⟨rfl, hb4⟩; replace SQ := (SQ.alloc _).below hb4)
        | (go_at_call 130; with_reducible refine (hL _ _ SQ.at_).mono ?_; rintro e w5 ⟨rfl, hb5⟩; replace SQ := (SQ.alloc _).below hb5)
        | (go_at_call 130; with_reducible refine (hD _ _ SQ.at_).mono ?_; rintro e w6 ⟨rfl, hb6⟩; replace SQ := (SQ.alloc _).below hb6)
        | (go_at_call 289; refine (hR _ _ SQ.at_).mono ?_; rintro e w9 ⟨a, rv9, rfl, S9, T9⟩))
      go_ret
      exact ⟨a, rv9, rfl, SQ.trans S9, T9.mono SQ.fr.size⟩
end
end Go.Proofs.YtpnfbehbheddeaaGreatDoor
