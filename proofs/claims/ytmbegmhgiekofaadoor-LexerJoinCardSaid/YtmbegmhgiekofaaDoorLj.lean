/- The walks of the laws LexerBack, LexerCover and LexerJoin; where the table of powers of ten is as it is laid and ErrRange can be read. -/
import Derived.Test.YtmbegmhgiekofaaDoorLi
import Derived.Test.YtmbegmhgiekofaaDoorLCov
namespace Go.Proofs.YtmbegmhgiekofaaDoor
open Go.RowKit

set_option maxRecDepth 100000 in
set_option maxHeartbeats 2000000 in
theorem lexerBack_w (A : Option Addr) (n c : Nat) (zs : List Int) (w : World) (h : IntsR w A n c zs) (hG : G w) (hE : GE w) : Calls Tryd.prog 8 #[.slice A n c] w fun e w' => e = .returned (.bool true) ∧ Below w.heap.size w w' := by
  go_enter Tryd.func8, Tryd.ntmps8
  go_wp2_with fail
  refine (new_c A n c zs _ h).mono ?_
  rintro e w1 ⟨b, g, rfl, tp1, hb, hg, bel1⟩
  go_wp2_with fail
  refine (tpieces b g 14 _ (by omega) tp1).mono ?_
  rintro e w2 ⟨s, rfl, hs, tp2, g2⟩
  have bel2 := tape_below bel1 g2 hb
  clear g2 tp2 tp1 h
  have hz2 := bel2.size
  have hP := xscan s w2 (by omega) (hE.below bel2)
  obtain ⟨⟨l, i, ec⟩, hX⟩ : ∃ X, scanO s.data.toList = X := ⟨_, rfl⟩
  rw [hX] at hP
  have hlen := scanO_len s.data.toList
  rw [hX] at hlen
  simp only at hlen
  unfold KPost at hP
  simp only at hP
  by_cases he : ec = 0
  · subst he
    obtain ⟨m, hm, hsame⟩ := back_law (by rw [← Lib.size_eq]; omega) hX
    have hall := cov_all l _ 0 (scanO_cov hX).1
    have hjl := joinK_len l
    have HM := Lib.hid hm
    have HS := Lib.hid hsame
    have HL := Lib.hid (sameTk_len hsame)
    have HA := Lib.hid hall
    clear hX hm hsame hall
    go_wp2_with fail
    refine hP.mono ?_
    rintro e w3 ⟨A3, c3, rfl, own3, hb3⟩
    have bel3 := below_step hb3 bel2 (Nat.le_refl _)
    have hz3 := hb3.size
    have R3 : RowK w3 w3.heap.size A3 l.length l := RowOf.of_own own3 rfl
    clear own3 hP
    have hJ := fun w hr hG => xjoin A3 l.length c3 l w (by omega) hr (fun t ht => by have := (HA.out t ht).2; omega) hG
    have hjz : (⟨(joinK l).toArray⟩ : ByteArray).size ≤ 1000000 := by rw [Lib.size_eq]; show (joinK l).length ≤ _; omega
    have hN := fun w hE => xscan ⟨(joinK l).toArray⟩ w (by omega) hE
    rw [show (⟨(joinK l).toArray⟩ : ByteArray).data.toList = joinK l from rfl, HM.out] at hN
    unfold SPost at hJ
    unfold KPost at hN
    simp only at hN
    generalize (⟨(joinK l).toArray⟩ : ByteArray) = js at hJ hN
    rw [HL.out] at hN
    clear hjl
    go_wp2_with fail
    refine (hJ _ R3 (hG.below bel3)).mono ?_
    rintro e w4 ⟨rfl, hb4⟩
    have bel4 := below_step hb4 bel3 (Nat.le_refl _)
    have R4 := R3.later hb4
    have hz4 := hb4.size
    clear hJ R3
    go_wp2_with fail
    refine (hN _ (hE.below bel4)).mono ?_
    rintro e w5 ⟨A5, c5, rfl, own5, hb5⟩
    have bel5 := below_step hb5 bel4 (Nat.le_refl _)
    have R5 : RowK w5 w5.heap.size A5 l.length m := RowOf.of_own own5 HL.out
    have R5' := R4.later hb5
    have hz5 := hb5.size
    clear own5 hN R4
    go_wp2_with fail
    refine (rsameK A3 A5 l.length c3 c5 l m false _ (by omega) R5' R5 HS.out.symm (fun h => by cases h)).mono ?_
    rintro e w6 ⟨rfl, hb6⟩
    have bel6 := below_step hb6 bel5 (Nat.le_refl _)
    go_wp2_with (go_at_call 10; refine (awake_c _ (by exact hE.below bel6)).mono ?_; rintro e w7 ⟨rfl, hb7⟩)
    go_ret
    exact ⟨rfl, below_step hb7 bel6 (Nat.le_refl _)⟩
  · have te : (ec != 0) = true := by rw [bne_iff_ne]; exact he
    clear he hX
    go_wp2_with (first
      | (go_at_call 15; refine hP.mono ?_; rintro e w3 ⟨A3, c3, rfl, own3, hb3⟩; clear own3; have hz3 := hb3.size)
      | (go_at_call 10; refine (awake_c _ (by exact hE.below (by (repeat (first | (with_reducible exact Below.refl _ _) | (with_reducible assumption) | (with_reducible refine Below.drew ?_) | (with_reducible refine below_drewN ?_ _) | ((with_reducible refine Below.setCell ?_ ?_ _); rotate_left; (focus (first | (simp; done) | (simp; omega) | omega))) | ((with_reducible refine Below.alloc ?_ ?_ _); rotate_left; (focus (first | (simp; done) | (simp; omega) | omega))) | ((with_reducible apply below_step1); (focus (with_reducible assumption)))))))).mono ?_; rintro e w4 ⟨rfl, hb4⟩))
    go_ret
    exact ⟨rfl, by (repeat (first | (with_reducible exact Below.refl _ _) | (with_reducible assumption) | (with_reducible refine Below.drew ?_) | (with_reducible refine below_drewN ?_ _) | ((with_reducible refine Below.setCell ?_ ?_ _); rotate_left; (focus (first | (simp; done) | (simp; omega) | omega))) | ((with_reducible refine Below.alloc ?_ ?_ _); rotate_left; (focus (first | (simp; done) | (simp; omega) | omega))) | ((with_reducible apply below_step1); (focus (with_reducible assumption)))))⟩

theorem kstr_eq (s : ByteArray) (w : World) : (binOp .eql 9 (.string s) (.string s)).run Tryd.prog w = .ok (.bool true) w := by
  simp [go_sem]
def shortT (t : Tk) : Bool := decide (t.text.length ≤ 200)
set_option maxRecDepth 100000 in
set_option maxHeartbeats 2000000 in
theorem lexerJoin_w (A : Option Addr) (n c : Nat) (ts : List Tk) (w : World) (hr : RowK w w.heap.size A n ts) (hm : n ≤ maxLen) (hG : G w) (hE : GE w) : Calls Tryd.prog 9 #[.slice A n c] w fun e w' => e = .returned (.bool true) ∧ Below w.heap.size w w' := by
  unfold maxLen at hm
  by_cases h60 : 60 < n
  · have t60 : (60 : Int) < (n : Int) := by omega
    go_enter Tryd.func9, Tryd.ntmps9
    go_wp2_with (go_at_call 10; refine (awake_c _ (by exact hE.below (by (repeat (first | (with_reducible exact Below.refl _ _) | (with_reducible assumption) | (with_reducible refine Below.drew ?_) | (with_reducible refine below_drewN ?_ _) | ((with_reducible refine Below.setCell ?_ ?_ _); rotate_left; (focus (first | (simp; done) | (simp; omega) | omega))) | ((with_reducible refine Below.alloc ?_ ?_ _); rotate_left; (focus (first | (simp; done) | (simp; omega) | omega))) | ((with_reducible apply below_step1); (focus (with_reducible assumption)))))))).mono ?_; rintro e w1 ⟨rfl, hb1⟩)
    go_ret
    exact ⟨rfl, by (repeat (first | (with_reducible exact Below.refl _ _) | (with_reducible assumption) | (with_reducible refine Below.drew ?_) | (with_reducible refine below_drewN ?_ _) | ((with_reducible refine Below.setCell ?_ ?_ _); rotate_left; (focus (first | (simp; done) | (simp; omega) | omega))) | ((with_reducible refine Below.alloc ?_ ?_ _); rotate_left; (focus (first | (simp; done) | (simp; omega) | omega))) | ((with_reducible apply below_step1); (focus (with_reducible assumption)))))⟩
  have t60 : ¬ (60 : Int) < (n : Int) := by omega
  have HN := Lib.hid hr.len
  go_enter Tryd.func9, Tryd.ntmps9
  go_wp2_with fail
  go_loop [3] (fun v3 => ∃ k : Nat, v3 = .int .i64 (k : Int) ∧ k ≤ n ∧ Hid ((ts.take k).all shortT = true)) (fun v3 => n - (intOf v3).toNat)
  case atStart => exact ⟨0, rfl, by omega, rfl⟩
  case round =>
    obtain ⟨k, rfl, hk, hH⟩ := hrel
    by_cases hlt : k < n
    · obtain ⟨b, off, t, rfl, hb, hts, q0, q1, q2, q3⟩ := RowK.at4 hr hlt
      have HTS := Lib.hid hts
      have h0 : (0 : Int) ≤ (k : Int) := by omega
      have h1 : (k : Int) < (n : Int) := by omega
      have hkw : IntKind.i64.wrap ((k : Int) + 1) = (k : Int) + 1 := IntWalk.i64_in _ (by omega)
      obtain ⟨ss, hss⟩ : ∃ ss : ByteArray, (⟨t.text.toArray⟩ : ByteArray) = ss := ⟨_, rfl⟩
      have hsz : ss.size = t.text.length := by rw [← hss, Lib.size_eq]
      rw [hss] at q1
      have HSZ := Lib.hid hsz
      clear hts hss hsz
      by_cases h200 : 200 < ss.size
      · have t200 : (200 : Int) < (ss.size : Int) := by omega
        go_wp2_with (go_at_call 10; refine (awake_c _ (by exact hE.below (by (repeat (first | (with_reducible exact Below.refl _ _) | (with_reducible assumption) | (with_reducible refine Below.drew ?_) | (with_reducible refine below_drewN ?_ _) | ((with_reducible refine Below.setCell ?_ ?_ _); rotate_left; (focus (first | (simp; done) | (simp; omega) | omega))) | ((with_reducible refine Below.alloc ?_ ?_ _); rotate_left; (focus (first | (simp; done) | (simp; omega) | omega))) | ((with_reducible apply below_step1); (focus (with_reducible assumption)))))))).mono ?_; rintro e w1 ⟨rfl, hb1⟩)
        go_ret
        exact ⟨rfl, by (repeat (first | (with_reducible exact Below.refl _ _) | (with_reducible assumption) | (with_reducible refine Below.drew ?_) | (with_reducible refine below_drewN ?_ _) | ((with_reducible refine Below.setCell ?_ ?_ _); rotate_left; (focus (first | (simp; done) | (simp; omega) | omega))) | ((with_reducible refine Below.alloc ?_ ?_ _); rotate_left; (focus (first | (simp; done) | (simp; omega) | omega))) | ((with_reducible apply below_step1); (focus (with_reducible assumption)))))⟩
      · have t200 : ¬ (200 : Int) < (ss.size : Int) := by omega
        go_wp2_with fail
        go_round
        case rel => exact ⟨k + 1, by go_num, by omega, by show _ = true; rw [take_all_succ _ _ _ _ HTS.out, hH.out]; have := HSZ.out; simp [shortT]; omega⟩
        case measure => simp [intOf]; omega
    · have h1 : ¬ (k : Int) < (n : Int) := by omega
      have hT : ∀ t ∈ ts, t.text.length ≤ 100000 := by
        have h1 := hH.out
        rw [List.take_of_length_le (by rw [HN.out]; omega)] at h1
        intro t ht
        have := List.all_eq_true.1 h1 t ht
        simp [shortT] at this
        omega
      have HT := Lib.hid hT
      clear hT hH
      have hjl := joinK_len ts
      rw [HN.out] at hjl
      have hJ := fun w hr hG => xjoin A n c ts w (by omega) hr HT.out hG
      have hQ := fun w hr => rjoin A n c ts w (by omega) hr HT.out
      have hjz : (⟨(joinK ts).toArray⟩ : ByteArray).size ≤ 1000000 := by rw [Lib.size_eq]; show (joinK ts).length ≤ _; omega
      unfold SPost at hJ hQ
      generalize (⟨(joinK ts).toArray⟩ : ByteArray) = js at hJ hQ hjz
      clear hjl
      go_wp2_with fail
      refine (hJ _ hr hG).mono ?_
      rintro e w1 ⟨rfl, hb1⟩
      have R1 := hr.later hb1
      have hz1 := hb1.size
      go_wp2_with fail
      refine (hQ _ R1).mono ?_
      rintro e w2 ⟨rfl, hb2⟩
      have bel2 := below_step hb2 hb1 (Nat.le_refl _)
      have R2 := R1.later hb2
      have hz2 := hb2.size
      go_wp2_with fail
      refine (hJ _ R2 (hG.below bel2)).mono ?_
      rintro e w3 ⟨rfl, hb3⟩
      have bel3 := below_step hb3 bel2 (Nat.le_refl _)
      have hz3 := hb3.size
      clear hJ hQ
      go_wp2_with fail
      refine (scans_c js _ (by omega) (by exact hE.below bel3)).mono ?_
      rintro e w4 ⟨rfl, hb4⟩
      have bel4 := below_step hb4 bel3 (Nat.le_refl _)
      go_wp2_with (go_at_call 10; refine (awake_c _ (by exact hE.below bel4)).mono ?_; rintro e w5 ⟨rfl, hb5⟩)
      go_ret
      exact ⟨rfl, below_step hb5 bel4 (Nat.le_refl _)⟩

/-- A part of a row of tokens: one. -/
theorem RowK.one {w : World} {B b off n : Nat} {ts : List Tk} {k : Nat} {t : Tk} (h : RowK w B (some ⟨b, off, none⟩) n ts) (hk : k < n) (ht : ts[k]? = some t) : RowK w B (some ⟨b, off + k * 4, none⟩) 1 [t] := by
  obtain ⟨b', off', t', e, hb, h1, q0, q1, q2, q3⟩ := RowK.at4 h hk
  injection e with e
  injection e with e1 e2 _
  subst e1 e2
  obtain rfl := Option.some.inj (ht.symm.trans h1)
  refine ⟨rfl, fun _ => ⟨b, off + k * 4, rfl, hb, fun j u hu => ?_⟩⟩
  match j, hu with
  | 0, hu => simp [Tk.cells] at hu; subst hu; exact q0
  | 1, hu => simp [Tk.cells] at hu; subst hu; exact q1
  | 2, hu => simp [Tk.cells] at hu; subst hu; exact q2
  | 3, hu => simp [Tk.cells] at hu; subst hu; exact q3
  | j + 4, hu => simp [Tk.cells] at hu
theorem joinK_one {t : Tk} (h : tokOk t = true) : joinK [t] = wordTk t := by
  unfold joinK wordsK
  simp [h, spJoin]
set_option maxRecDepth 100000 in
set_option maxHeartbeats 4000000 in
theorem lexerCover_w (A : Option Addr) (n c : Nat) (zs : List Int) (w : World) (h : IntsR w A n c zs) (hE : GE w) : Calls Tryd.prog 6 #[.slice A n c] w fun e w' => e = .returned (.bool true) ∧ Below w.heap.size w w' := by
  go_enter Tryd.func6, Tryd.ntmps6
  go_wp2_with fail
  refine (new_c A n c zs _ h).mono ?_
  rintro e w1 ⟨b, g, rfl, tp1, hb, hg, bel1⟩
  go_wp2_with fail
  refine (tpieces b g 14 _ (by omega) tp1).mono ?_
  rintro e w2 ⟨s, rfl, hs, tp2, g2⟩
  have bel2 := tape_below bel1 g2 hb
  clear g2 tp2 tp1 h
  have hz2 := bel2.size
  have hP := xscan s w2 (by omega) (hE.below bel2)
  obtain ⟨⟨l, i, ec⟩, hX⟩ : ∃ X, scanO s.data.toList = X := ⟨_, rfl⟩
  rw [hX] at hP
  have hlen := scanO_len s.data.toList
  rw [hX] at hlen
  simp only at hlen
  unfold KPost at hP
  simp only at hP
  by_cases he : ec = 0
  · subst he
    obtain ⟨hcov, hbnd⟩ := scanO_cov hX
    have HC0 := Lib.hid hcov
    have HBD := Lib.hid hbnd
    have HZ := Lib.hid (Lib.size_eq s)
    clear hX hcov hbnd
    go_wp2_with fail
    refine hP.mono ?_
    rintro e w3 ⟨A3, c3, rfl, own3, hb3⟩
    have bel3 := below_step hb3 bel2 (Nat.le_refl _)
    have hz3 := hb3.size
    obtain ⟨A3', c3', hsl, h31, h32⟩ := own_slice own3
    injection hsl with e1 e2 e3
    subst e1 e3
    have R3 : RowK w3 w3.heap.size A3 l.length l := RowOf.of_own own3 rfl
    clear own3 hP e2
    go_wp2_with fail
    go_loopw [7, 8] (fun v7 v8 wr => ∃ (i p : Nat), v8 = .int .i64 (i : Int) ∧ v7 = .int .i64 (p : Int) ∧ i ≤ l.length ∧ p ≤ s.size ∧ Hid (Cov s.data.toList p (l.drop i)) ∧ Below w3.heap.size w3 wr) (fun _ v8 _ => l.length - (intOf v8).toNat)
    case atStart => exact ⟨0, 0, rfl, rfl, by omega, by omega, HC0.out, Below.refl _ _⟩
    case round =>
      obtain ⟨i, p, rfl, rfl, hi, hp, hC, hbel⟩ := hrel
      have hzz := hbel.size
      by_cases hlt : i < l.length
      · obtain ⟨b3, off, t, rfl, hb3', ht, q0, q1, q2, q3⟩ := RowK.at4 (R3.later hbel) hlt
        have hdr : l.drop i = t :: l.drop (i + 1) := by
          obtain ⟨_, e⟩ := List.getElem?_eq_some_iff.1 ht
          rw [List.drop_eq_getElem_cons hlt, e]
        have hC2 := hC.out
        rw [hdr] at hC2
        obtain ⟨q, hq1, hq2, hok, htx, hw1, hw2, hw3, hC3⟩ := hC2
        rw [hq1] at q3
        have hgap := gap_blank HBD.out hq2
        have hkle := skipN_le (s.data.toList.drop p) false
        rw [List.length_drop] at hkle
        have hpq : p ≤ q := by omega
        rw [← HZ.out] at hw2
        have hRj := fun w1 hb1 => rjoin (some ⟨b3, off + i * 4, none⟩) 1 (c3 - i) [t] w1 (by omega) (RowK.one (R3.later (hb1 : Below w3.heap.size w3 w1)) hlt ht) (by intro u hu; simp at hu; subst hu; omega)
        rw [joinK_one hok] at hRj
        have hSc := fun w1 => rscan (s.extract p q) w1 (by rw [Lib.size_eq, Lib.extract_data, List.length_take, List.length_drop]; have := HZ.out; omega)
        rw [show (s.extract p q).data.toList = (s.data.toList.drop p).take (q - p) from Lib.extract_data _ _ _, hgap] at hSc
        obtain ⟨W, hW⟩ : ∃ W : ByteArray, (⟨(wordTk t).toArray⟩ : ByteArray) = W := ⟨_, rfl⟩
        have hWz : W.size = (wordTk t).length := by rw [← hW, Lib.size_eq]
        have hWe : W.toList.isEmpty = false := by
          rw [← hW, isEmpty_mk, decide_eq_false_iff_not]
          intro h0
          rw [h0] at hw1
          simp at hw1
        have hWs : s.extract q (q + W.size) = W := by
          apply bytes_ext
          rw [Lib.extract_data, Nat.add_sub_cancel_left, hWz, hw3, ← hW]
        unfold SPost at hRj
        unfold KPost at hSc
        simp only [List.length_nil] at hSc
        rw [hW] at hRj
        rw [← hWz] at hw1 hw2 hC3
        have HC3 := Lib.hid hC3
        have HWS := Lib.hid hWs
        clear hC hC3 hdr ht hgap hq1 hq2 hok htx hw3 hW hWz hWs hkle
        have k0 : (0 : Int) ≤ (i : Int) := by omega
        have k1 : (i : Int) < (l.length : Int) := by omega
        have k2 : IntKind.i64.wrap ((i : Int) + 1) = (i : Int) + 1 := IntWalk.i64_in _ (by omega)
        have k3 : ¬ (q : Int) < (p : Int) := by omega
        have k4 : ¬ (s.size : Int) ≤ (q : Int) := by omega
        have k5 : (0 : Int) ≤ (p : Int) := by omega
        have k6 : (p : Int) ≤ (q : Int) := by omega
        have k7 : (q : Int) ≤ (s.size : Int) := by omega
        go_wp2_with fail
        refine (hSc _).mono ?_
        rintro e w4 ⟨A4, c4, rfl, own4, hb4⟩
        have hz4 := hb4.size
        have bel4 := below_step hb4 hbel (Nat.le_refl _)
        have q3' := (hb4.cell (p := ⟨b3, off + i * 4 + 3, none⟩) hb3').trans q3
        have hRj4 := hRj w4 bel4
        have k8 : (i : Int) + 1 ≤ (c3 : Int) := by omega
        have k9 : (i : Int) ≤ (i : Int) + 1 := by omega
        have k10 : ((i : Int) + 1).toNat = i + 1 := by omega
        have k11 : ((i : Int) + 1 - (i : Int)).toNat = 1 := by omega
        have k12 : (0 : Int) ≤ (i : Int) + 1 := by omega
        have k13 : i + 1 - i = 1 := by omega
        have k14 : (i : Int) ≤ (c3 : Int) := by omega
        have k15 : ¬ c3 = i := by omega
        clear hSc own4 hRj
        go_wp2_with fail
        refine hRj4.mono ?_
        rintro e w5 ⟨rfl, hb5⟩
        have hz5 := hb5.size
        have bel5 := below_step hb5 bel4 (Nat.le_refl _)
        have q3'' := (hb5.cell (p := ⟨b3, off + i * 4 + 3, none⟩) (by show b3 < _; omega)).trans q3'
        have hws := HWS.out
        have m1 : IntKind.i64.wrap ((q : Int) + (W.size : Int)) = (q : Int) + (W.size : Int) := IntWalk.i64_in _ (by omega)
        have m2 : ¬ (s.size : Int) < (q : Int) + (W.size : Int) := by omega
        have m3 : (q : Int) ≤ (q : Int) + (W.size : Int) := by omega
        have m4 : (q : Int) + (W.size : Int) ≤ (s.size : Int) := by omega
        have m5 : ((q : Int) + (W.size : Int)).toNat = q + W.size := by omega
        have m6 : (0 : Int) ≤ (q : Int) := by omega
        clear hRj4 q3 q3' k6 k9 k10 k11 k12 k13 k14 k15 k8
        go_wp2_with fail
        go_roundw
        case rel =>
          clear m1 m5 hws
          exact ⟨i + 1, q + W.size, by go_num, by go_num, by omega, by omega, HC3.out, bel5⟩
        case measure => simp [intOf]; omega
      · have hdr : l.drop i = [] := List.drop_of_length_le (by omega)
        have hC2 := hC.out
        rw [hdr] at hC2
        have hnil := (hC2.nil HBD.out).2
        have hSc := fun w1 => rscan (s.extract p s.size) w1 (by rw [Lib.size_eq, sub_extract, List.length_drop]; have := HZ.out; omega)
        rw [sub_extract, hnil] at hSc
        unfold KPost at hSc
        simp only [List.length_nil] at hSc
        have k1 : ¬ (i : Int) < (l.length : Int) := by omega
        have k5 : (0 : Int) ≤ (p : Int) := by omega
        have k7 : (p : Int) ≤ (s.size : Int) := by omega
        clear hC hC2 hdr hnil
        go_wp2_with fail
        refine (hSc _).mono ?_
        rintro e w4 ⟨A4, c4, rfl, own4, hb4⟩
        have hz4 := hb4.size
        have bel4 := below_step hb4 (below_up hbel bel3 (Nat.le_trans hz2 hz3)) (by omega)
        clear own4 hSc
        go_wp2_with (go_at_call 10; refine (awake_c _ (by exact hE.below bel4)).mono ?_; rintro e w5 ⟨rfl, hb5⟩)
        go_ret
        exact ⟨rfl, below_step hb5 bel4 (Nat.le_refl _)⟩
  · have te : (ec != 0) = true := by rw [bne_iff_ne]; exact he
    clear he hX
    go_wp2_with (first
      | (go_at_call 15; refine hP.mono ?_; rintro e w3 ⟨A3, c3, rfl, own3, hb3⟩; clear own3; have hz3 := hb3.size)
      | (go_at_call 10; refine (awake_c _ (by exact hE.below (by (repeat (first | (with_reducible exact Below.refl _ _) | (with_reducible assumption) | (with_reducible refine Below.drew ?_) | (with_reducible refine below_drewN ?_ _) | ((with_reducible refine Below.setCell ?_ ?_ _); rotate_left; (focus (first | (simp; done) | (simp; omega) | omega))) | ((with_reducible refine Below.alloc ?_ ?_ _); rotate_left; (focus (first | (simp; done) | (simp; omega) | omega))) | ((with_reducible apply below_step1); (focus (with_reducible assumption)))))))).mono ?_; rintro e w4 ⟨rfl, hb4⟩))
    go_ret
    exact ⟨rfl, by (repeat (first | (with_reducible exact Below.refl _ _) | (with_reducible assumption) | (with_reducible refine Below.drew ?_) | (with_reducible refine below_drewN ?_ _) | ((with_reducible refine Below.setCell ?_ ?_ _); rotate_left; (focus (first | (simp; done) | (simp; omega) | omega))) | ((with_reducible refine Below.alloc ?_ ?_ _); rotate_left; (focus (first | (simp; done) | (simp; omega) | omega))) | ((with_reducible apply below_step1); (focus (with_reducible assumption)))))⟩
end Go.Proofs.YtmbegmhgiekofaaDoor
