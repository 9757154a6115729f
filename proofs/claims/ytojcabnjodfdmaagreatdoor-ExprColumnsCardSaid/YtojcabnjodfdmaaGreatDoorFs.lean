/- The law ExprColumns, the walk; the table of powers of ten is as it is laid. -/
import Derived.Test.YtojcabnjodfdmaaGreatDoorFr
import Derived.Test.YtojcabnjodfdmaaGreatDoorBc
import Derived.Test.YtojcabnjodfdmaaGreatDoorBd
import Derived.Test.YtojcabnjodfdmaaGreatDoorTm
import Derived.Test.YtojcabnjodfdmaaGreatDoorFc
import Derived.Test.YtojcabnjodfdmaaGreatDoorXComp
import Derived.Deep.DeepCutAuto
namespace Go.Proofs.YtojcabnjodfdmaaGreatDoor
open Go.RowKit

theorem cols_law {x : X} (hw : x.wf = true) (hd : x.depth ≤ 4) (hc : colsIn 4 x.flat) : (∀ z ∈ colsV x.flat, 0 ≤ z ∧ z ≤ 3) ∧ (colsV x.flat).length ≤ 100 ∧ ∀ av bs : List V, av.length = 4 → bs.length = 4 → (∀ z ∈ colsV x.flat, bs[z.toNat]? = av[z.toNat]?) → evalE x.flat av = evalE x.flat bs := by
  have hv := valid4 hw hd
  have hs := X.size4 hw hd
  have hm : ∀ z, z ∈ colsV x.flat ↔ z ∈ colsL x.flat := by
    intro z
    unfold colsV colsA
    rw [if_pos hv, (foldl_add (colsL x.flat) [] trivial).2]
    simp
  have hL : ∀ t ∈ x.flat, t.op = 2 → t.c ∈ colsL x.flat := by
    intro t ht h2
    unfold colsL
    exact List.mem_map.2 ⟨t, List.mem_filter.2 ⟨ht, by simp [h2]⟩, rfl⟩
  refine ⟨fun z hz => ?_, ?_, fun av bs ha hb h => ?_⟩
  · rw [hm] at hz
    unfold colsL at hz
    obtain ⟨t, ht, rfl⟩ := List.mem_map.1 hz
    obtain ⟨ht, h2⟩ := List.mem_filter.1 ht
    have h2 : t.op = 2 := by simpa using h2
    have h1 := (term_col (validE_terms hv t ht) h2).1
    have h3 := hc t ht h2
    omega
  · unfold colsV colsA
    rw [if_pos hv]
    have h1 := foldl_len (colsL x.flat) []
    have h2 := colsL_le x.flat x.flat.length
    rw [List.take_length] at h2
    simp at h1
    omega
  · rw [evalE_flat hw hv, evalE_flat hw hv]
    refine X.ev_cols av bs x (fun t ht h2 => ?_)
    have := h t.c ((hm _).2 (hL t ht h2))
    unfold cellV
    rw [ha, hb, this]
theorem rowOf_tape {α : Type} {cells : α → List Value} {w w' : World} {b n : Nat} {A : Option Addr} {xs : List α} (h : RowOf cells w w.heap.size A n xs) (far : n = 0 ∨ ∃ k off, A = some ⟨k, off, none⟩ ∧ k ≠ b) (hg : w.grownBy w' (some b)) : RowOf cells w' w'.heap.size A n xs := by
  refine ⟨h.len, fun hne => ?_⟩
  obtain ⟨k, off, e, hk, hc⟩ := h.rd hne
  have hkb : k ≠ b := by
    rcases far with h0 | ⟨k', off', e', hk'⟩
    · have := h.len
      rw [h0] at this
      rw [List.eq_nil_of_length_eq_zero this] at hne
      exact absurd rfl hne
    · rw [e] at e'
      injection e' with e'
      injection e' with e1 _
      subst e1
      exact hk'
  exact ⟨k, off, e, Nat.lt_of_lt_of_le hk hg.size, fun j u hu => (World.cell?_of_block (hg.block k hk (fun e => hkb (by injection e)))).trans (hc j u hu)⟩
/-- A block that holds four values. -/
structure B4 (w : World) (bb : Nat) (bs : List V) : Prop where
  len : bs.length = 4
  lt : bb < w.heap.size
  fr : ∀ j, w.frozen? ⟨bb, j, none⟩ = false
  at_ : ∀ (k : Nat) v, bs[k]? = some v → w.cell? ⟨bb, k * 3, none⟩ = some (.int .i64 v.k) ∧ w.cell? ⟨bb, k * 3 + 1, none⟩ = some (.int .i64 v.n) ∧ w.cell? ⟨bb, k * 3 + 2, none⟩ = some (.string v.s)
theorem B4.row {w : World} {bb : Nat} {bs : List V} (h : B4 w bb bs) : Row w w.heap.size (some ⟨bb, 0, none⟩) 4 bs := by
  refine ⟨h.len, fun _ => ⟨bb, 0, rfl, h.lt, fun j u hu => ?_⟩⟩
  have hj : j < bs.length * 3 := by
    have := (List.getElem?_eq_some_iff.1 hu).1
    rwa [flatMap_len 3 (fun _ => rfl)] at this
  have hq : j / 3 < bs.length := by omega
  obtain ⟨v, hv⟩ : ∃ v, bs[j / 3]? = some v := ⟨_, List.getElem?_eq_getElem hq⟩
  obtain ⟨h1, h2, h3⟩ := h.at_ (j / 3) v hv
  rw [Nat.zero_add]
  have h4 : j % 3 < 3 := Nat.mod_lt _ (by omega)
  have he : j / 3 * 3 + j % 3 = j := by omega
  obtain ⟨u', hu'⟩ : ∃ u', v.cells[j % 3]? = some u' := ⟨_, List.getElem?_eq_getElem (by simpa [V.cells] using h4)⟩
  have hx := flatMap_at (cells := V.cells) 3 (fun _ => rfl) bs (j / 3) (j % 3) v u' hv hu'
  rw [he, hu] at hx
  obtain rfl := Option.some.inj hx
  clear hx hu
  generalize j / 3 = q at h1 h2 h3 he
  obtain h5 | h5 | h5 : j % 3 = 0 ∨ j % 3 = 1 ∨ j % 3 = 2 := by omega
  · rw [h5] at he hu'
    rw [← he, Nat.add_zero, h1]
    simpa [V.cells] using hu'
  · rw [h5] at he hu'
    rw [← he, h2]
    simpa [V.cells] using hu'
  · rw [h5] at he hu'
    rw [← he, h3]
    simpa [V.cells] using hu'
theorem B4.drew {w : World} {bb : Nat} {bs : List V} (h : B4 w bb bs) : B4 w.drew bb bs := ⟨h.len, h.lt, h.fr, h.at_⟩
theorem B4.set {w : World} {bb q : Nat} {bs : List V} (h : B4 w bb bs) (hq : q < 4) (v : V) : B4 (((w.setCell ⟨bb, q * 3, none⟩ (.int .i64 v.k)).setCell ⟨bb, q * 3 + 1, none⟩ (.int .i64 v.n)).setCell ⟨bb, q * 3 + 2, none⟩ (.string v.s)) bb (bs.set q v) := by
  obtain ⟨vb, hvb⟩ : ∃ vb, bs[q]? = some vb := ⟨_, List.getElem?_eq_getElem (by rw [h.len]; exact hq)⟩
  obtain ⟨o0, o1, o2⟩ := h.at_ q vb hvb
  have ne : ∀ i j : Nat, i ≠ j → (⟨bb, i, none⟩ : Addr) ≠ ⟨bb, j, none⟩ := fun i j hij e => hij (by injection e)
  refine ⟨by rw [List.length_set]; exact h.len, by simpa using h.lt, fun j => by simpa [World.frozen?_setCell] using h.fr j, fun k v' hk => ?_⟩
  by_cases hkq : k = q
  · subst hkq
    rw [List.getElem?_set_self (by rw [h.len]; exact hq)] at hk
    obtain rfl := Option.some.inj hk
    refine ⟨?_, ?_, ?_⟩
    · rw [World.cell?_setCell_other _ _ _ _ (ne _ _ (by omega)), World.cell?_setCell_other _ _ _ _ (ne _ _ (by omega)), World.cell?_setCell_same _ _ _ o0]
    · rw [World.cell?_setCell_other _ _ _ _ (ne _ _ (by omega)), World.cell?_setCell_same _ _ _ ((World.cell?_setCell_other _ _ _ _ (ne _ _ (by omega))).trans o1)]
    · rw [World.cell?_setCell_same _ _ _ ((World.cell?_setCell_other _ _ _ _ (ne _ _ (by omega))).trans ((World.cell?_setCell_other _ _ _ _ (ne _ _ (by omega))).trans o2))]
  · rw [List.getElem?_set_ne (Ne.symm hkq)] at hk
    obtain ⟨p0, p1, p2⟩ := h.at_ k v' hk
    have oth : ∀ j, j ≠ q * 3 → j ≠ q * 3 + 1 → j ≠ q * 3 + 2 → (((w.setCell ⟨bb, q * 3, none⟩ (.int .i64 v.k)).setCell ⟨bb, q * 3 + 1, none⟩ (.int .i64 v.n)).setCell ⟨bb, q * 3 + 2, none⟩ (.string v.s)).cell? ⟨bb, j, none⟩ = w.cell? ⟨bb, j, none⟩ := by
      intro j e1 e2 e3
      rw [World.cell?_setCell_other _ _ _ _ (ne _ _ (Ne.symm e3)), World.cell?_setCell_other _ _ _ _ (ne _ _ (Ne.symm e2)), World.cell?_setCell_other _ _ _ _ (ne _ _ (Ne.symm e1))]
    exact ⟨(oth _ (by omega) (by omega) (by omega)).trans p0, (oth _ (by omega) (by omega) (by omega)).trans p1, (oth _ (by omega) (by omega) (by omega)).trans p2⟩
theorem cols_step {L : List Int} {av bs : List V} {i q : Nat} {va : V} (h : ∀ (j : Nat) z, j < i → L[j]? = some z → bs[z.toNat]? = av[z.toNat]?) (hq : q < bs.length) (hz : L[i]? = some (q : Int)) (hv : av[q]? = some va) : ∀ (j : Nat) z, j < i + 1 → L[j]? = some z → (bs.set q va)[z.toNat]? = av[z.toNat]? := by
  intro j z hj hjz
  by_cases hzq : z.toNat = q
  · rw [hzq, List.getElem?_set_self hq, hv]
  · rw [List.getElem?_set_ne (Ne.symm hzq)]
    refine h j z ?_ hjz
    rcases Nat.lt_or_ge j i with h1 | h1
    · exact h1
    · obtain rfl : j = i := by omega
      rw [hz] at hjz
      injection hjz with hjz
      exact absurd (by omega) hzq
def SelH (w w1 : World) (v1 : Value) (wx : World) : Prop := ∃ A n c es, v1 = .slice A n c ∧ n ≤ 80 ∧ n ≤ c ∧ c ≤ maxLen ∧ RowT w w.heap.size A n es ∧ w1 = wx
theorem eqW_self (v : V) (w : World) : (binOp .eql 38 (.agg #[.int .i64 v.k, .int .i64 v.n, .string v.s]) (.agg #[.int .i64 v.k, .int .i64 v.n, .string v.s])).run Tryz.prog w = .ok (.bool true) w := by
  rw [run_eqV, show eqB v.k v.n v.s v.k v.n v.s = v.beq v from rfl, (V.beq_iff v v).2 rfl]
set_option maxRecDepth 100000 in
set_option maxHeartbeats 4000000 in
theorem exprColumns_w (Z A : Option Addr) (zn zc n c : Nat) (zs : List Int) (es : List T) (w : World) (hz : IntsR w Z zn zc zs) (hn : n ≤ c) (hc : c ≤ maxLen) (hr : RowT w w.heap.size A n es) (hG : G w) :
    Calls Tryz.prog 4 #[.slice Z zn zc, .slice A n c] w fun e w' => e = .returned (.bool true) ∧ Below w.heap.size w w' := by
  have hnew := new_c Z zn zc zs w hz
  clear hz
  go_enter Tryz.func4, Tryz.ntmps4
  go_wp2_with fail
  refine hnew.mono ?_
  rintro e w1 ⟨b, g, rfl, htp, hb0, hg0, hb1⟩
  have hz1 := hb1.size
  have hr1 := hr.to hb1
  have hli := light_c A none n c 0 0 es [] w1 (by omega) (by decide) hr1 RowOf.nil_
  have HL := Lib.hid (fun h => (light_len (es := es) (row := []) h).1)
  have hlen := hr.len
  obtain ⟨lb, hlb⟩ : ∃ lb, lightB es [] = lb := ⟨_, rfl⟩
  rw [hlb] at hli HL
  clear hlb hnew
  go_upto_if 15 with (go_at_call 6; refine hli.mono ?_; rintro e w2 ⟨rfl, rfl⟩)
  go_cut [1] (fun v1 wx => SelH w w1 v1 wx)
  case first =>
    cases lb
    · go_wp2_with fail
      go_meet
      exact ⟨none, 0, 0, [], rfl, by omega, by omega, by decide, RowOf.nil_, rfl⟩
    · go_wp2_with fail
      go_meet
      exact ⟨A, n, c, es, rfl, by have := HL.out (by simp); omega, hn, hc, hr, rfl⟩
  case rest =>
    clear hli hn hc hr1 hr HL hlen
    obtain ⟨A, n, c, es, rfl, hn80, hn, hc, hr, rfl⟩ := hcut
    go_wp2_with fail
    refine (texpr b g 4 (by omega) (by omega) 3 _ (by omega) (by omega) htp).mono ?_
    rintro e w4 ⟨A4, c4, x4, rfl, o4, f4, d4, cl4, ht4, hg4⟩
    have hz4 := hg4.size
    have hb4 : Below w.heap.size w w4 := hb1.grown hg4 hz1 (fun k hk => by injection hk with hk; omega)
    have S4 := X.size4 f4 (by omega)
    have K4 := RowX.of_own (b := b) o4 rfl (by have := htp.lt; omega)
    obtain ⟨hy1, hyl, hy2⟩ := cols_law f4 (by omega) cl4
    generalize x4.flat = xl at S4 K4 hy1 hyl hy2
    have HY1 := Lib.hid hy1
    have HY2 := Lib.hid hy2
    clear o4 f4 d4 cl4 hg4 htp hy1 hy2
    have hcx := xcolumns A4 xl.length c4 xl w4 (by unfold maxLen; omega) K4.row
    have hdx := fun w h => rcolumns A4 xl.length c4 xl w (by unfold maxLen; omega) h
    have hce := fun w h => xcolumns A n c es w (by omega) h
    have hde := fun w h => rcolumns A n c es w (by omega) h
    obtain ⟨M, hM⟩ : ∃ M, colsV es = M := ⟨_, rfl⟩
    have hMl : M.length ≤ 1000 := by
      rw [← hM]
      unfold colsV colsA
      split
      · have h1 := foldl_len (colsL es) []
        have h2 := colsL_le es es.length
        rw [List.take_length, hr.len] at h2
        simp at h1
        omega
      · simp
    rw [hM] at hce hde
    obtain ⟨L, hL⟩ : ∃ L, colsV xl = L := ⟨_, rfl⟩
    rw [hL] at hcx hdx hyl HY1 HY2
    clear hM hL
    unfold ClPost at hcx hdx hce hde
    go_wp2_with fail
    refine hcx.mono ?_
    rintro e w5 ⟨A5, c5, rfl, r5, f5, hb5⟩
    have hz5 := hb5.size
    have ht5 := ht4.step hb5
    have L4 := K4.step hb5
    have F5 : Hid (L.length = 0 ∨ ∃ k off, A5 = some ⟨k, off, none⟩ ∧ k ≠ b) := by
      rcases f5 with h0 | ⟨k, off, h1, h2⟩
      · exact .inl h0
      · exact .inr ⟨k, off, h1, by have := ht4.lt; omega⟩
    have hb15 := below_step1 hb5 hb4
    have re := hr.to hb15
    clear hcx K4 ht4 hr f5 hb5 hb4
    have e5 : Below w5.heap.size w5 w5 := Below.refl _ _
    go_wp2_with fail
    refine (hdx _ L4.row).mono ?_
    rintro e w6 ⟨A6, c6, rfl, r6, _, hb6⟩
    have hz6 := hb6.size
    ((go_wp2_with fail); refine (sameInts_c A5 A6 L.length c5 c6 L _ (by omega) (by exact r5.to hb6) r6).mono ?_; rintro e w7 ⟨rfl, hb7⟩; have hz7 := hb7.size; (try simp at hz7))
    go_wp2_with fail
    refine (hce _ (by exact re.to (by (repeat (first | (with_reducible exact Below.refl _ _) | (with_reducible assumption) | (with_reducible refine Below.drew ?_) | (with_reducible refine below_drewN ?_ _) | ((with_reducible refine Below.setCell ?_ ?_ _); rotate_left; (focus (first | (simp; done) | (simp; omega) | omega))) | ((with_reducible refine Below.alloc ?_ ?_ _); rotate_left; (focus (first | (simp; done) | (simp; omega) | omega))) | ((with_reducible apply below_step1); (focus (with_reducible assumption)))))))).mono ?_
    rintro e w8 ⟨A8, c8, rfl, r8, _, hb8⟩
    have hz8 := hb8.size
    go_wp2_with fail
    refine (hde _ (by exact re.to (by (repeat (first | (with_reducible exact Below.refl _ _) | (with_reducible assumption) | (with_reducible refine Below.drew ?_) | (with_reducible refine below_drewN ?_ _) | ((with_reducible refine Below.setCell ?_ ?_ _); rotate_left; (focus (first | (simp; done) | (simp; omega) | omega))) | ((with_reducible refine Below.alloc ?_ ?_ _); rotate_left; (focus (first | (simp; done) | (simp; omega) | omega))) | ((with_reducible apply below_step1); (focus (with_reducible assumption)))))))).mono ?_
    rintro e w9 ⟨A9, c9, rfl, r9, _, hb9⟩
    have hz9 := hb9.size
    ((go_wp2_with fail); refine (sameInts_c A8 A9 M.length c8 c9 M _ hMl (by exact r8.to hb9) r9).mono ?_; rintro e w10 ⟨rfl, hb10⟩; have hz10 := hb10.size; (try simp at hz10))
    have e10 : Below w5.heap.size w5 w10 := by (repeat (first | (with_reducible exact Below.refl _ _) | (with_reducible assumption) | (with_reducible refine Below.drew ?_) | (with_reducible refine below_drewN ?_ _) | ((with_reducible refine Below.setCell ?_ ?_ _); rotate_left; (focus (first | (simp; done) | (simp; omega) | omega))) | ((with_reducible refine Below.alloc ?_ ?_ _); rotate_left; (focus (first | (simp; done) | (simp; omega) | omega))) | ((with_reducible apply below_step1); (focus (with_reducible assumption)))))
    have M4 := L4.step e10
    have R5 := r5.to e10
    have ht10 := ht5.step e10
    have hb110 : Below w.heap.size w w10 := by (repeat (first | (with_reducible exact Below.refl _ _) | (with_reducible assumption) | (with_reducible refine Below.drew ?_) | (with_reducible refine below_drewN ?_ _) | ((with_reducible refine Below.setCell ?_ ?_ _); rotate_left; (focus (first | (simp; done) | (simp; omega) | omega))) | ((with_reducible refine Below.alloc ?_ ?_ _); rotate_left; (focus (first | (simp; done) | (simp; omega) | omega))) | ((with_reducible apply below_step1); (focus (with_reducible assumption)))))
    have hz10w := hb110.size
    clear r5 r6 r8 r9 re L4 ht5 hb15 e5 e10 hb6 hb7 hb8 hb9 hb10 hdx hce hde hMl
    go_wp2_with fail
    refine (tvalue b g _ ht10).mono ?_
    rintro e w11 ⟨a0, rfl, _, ht11, hg11⟩
    have hz11 := hg11.size
    go_wp2_with fail
    refine (tvalue b g _ ht11).mono ?_
    rintro e w12 ⟨a1, rfl, _, ht12, hg12⟩
    have hz12 := hg12.size
    go_wp2_with fail
    refine (tvalue b g _ ht12).mono ?_
    rintro e w13 ⟨a2, rfl, _, ht13, hg13⟩
    have hz13 := hg13.size
    go_wp2_with fail
    refine (tvalue b g _ ht13).mono ?_
    rintro e w14 ⟨a3, rfl, _, ht14, hg14⟩
    have hz14 := hg14.size
    have g14 := grown_trans (grown_trans (grown_trans hg11 hg12) hg13) hg14
    have N4 := M4.tape g14
    have Q5 := rowOf_tape R5 F5.out g14
    have hb14 : Below w.heap.size w w14 := hb110.grown g14 hz10w (fun k hk => by injection hk with hk; omega)
    have hal := (Below.refl w14.heap.size w14).alloc (Nat.le_refl _) (.cells #[.int .i64 a0.k, .int .i64 a0.n, .string a0.s, .int .i64 a1.k, .int .i64 a1.n, .string a1.s, .int .i64 a2.k, .int .i64 a2.n, .string a2.s, .int .i64 a3.k, .int .i64 a3.n, .string a3.s] 38)
    have hA := rowOf_new (cells := V.cells) w14 #[.int .i64 a0.k, .int .i64 a0.n, .string a0.s, .int .i64 a1.k, .int .i64 a1.n, .string a1.s, .int .i64 a2.k, .int .i64 a2.n, .string a2.s, .int .i64 a3.k, .int .i64 a3.n, .string a3.s] 38 4 [a0, a1, a2, a3] rfl rfl
    have htW := ht14.alloc (.cells #[.int .i64 a0.k, .int .i64 a0.n, .string a0.s, .int .i64 a1.k, .int .i64 a1.n, .string a1.s, .int .i64 a2.k, .int .i64 a2.n, .string a2.s, .int .i64 a3.k, .int .i64 a3.n, .string a3.s] 38)
    clear M4 R5 hg11 hg12 hg13 hg14 ht10 ht11 ht12 ht13 hb110 g14
    go_wp2_with fail
    obtain ⟨W1, hW1⟩ : ∃ W1, w14.alloc (.cells #[.int .i64 a0.k, .int .i64 a0.n, .string a0.s, .int .i64 a1.k, .int .i64 a1.n, .string a1.s, .int .i64 a2.k, .int .i64 a2.n, .string a2.s, .int .i64 a3.k, .int .i64 a3.n, .string a3.s] 38) = W1 := ⟨_, rfl⟩
    rw [hW1] at hA hal htW
    rw [hW1]
    have hzW := hal.size
    have D4 := N4.step hal
    have D5 := Q5.to hal
    have hbW := below_step1 hal hb14
    obtain ⟨ab, hab⟩ : ∃ ab, w14.heap.size = ab := ⟨_, rfl⟩
    rw [hab] at hA
    rw [hab]
    have FA : Hid ((4 : Nat) = 0 ∨ ∃ k off, (some ⟨ab, 0, none⟩ : Option Addr) = some ⟨k, off, none⟩ ∧ k ≠ b) := .inr ⟨ab, 0, rfl, by have := ht14.lt; omega⟩
    have hwW : w.heap.size ≤ W1.heap.size := hbW.size
    clear hW1 hal N4 Q5 hb14 hab ht14
    obtain ⟨av, hav⟩ : ∃ av, [a0, a1, a2, a3] = av := ⟨_, rfl⟩
    rw [hav] at hA
    have HAV := Lib.hid (show av.length = 4 by rw [← hav]; rfl)
    clear hav
    refine (tvalue b g _ htW).mono ?_
    rintro e w15 ⟨b0, rfl, _, ht15, hg15⟩
    have hz15 := hg15.size
    go_wp2_with fail
    refine (tvalue b g _ ht15).mono ?_
    rintro e w16 ⟨b1, rfl, _, ht16, hg16⟩
    have hz16 := hg16.size
    go_wp2_with fail
    refine (tvalue b g _ ht16).mono ?_
    rintro e w17 ⟨b2, rfl, _, ht17, hg17⟩
    have hz17 := hg17.size
    go_wp2_with fail
    refine (tvalue b g _ ht17).mono ?_
    rintro e w18 ⟨b3, rfl, _, ht18, hg18⟩
    have hz18 := hg18.size
    have g18 := grown_trans (grown_trans (grown_trans hg15 hg16) hg17) hg18
    have E4 := (D4.tape g18).row
    have E5 := rowOf_tape D5 F5.out g18
    have EA := rowOf_tape hA FA.out g18
    have hb18 : Below w.heap.size w w18 := hbW.grown g18 hwW (fun k hk => by injection hk with hk; omega)
    have hB4 : B4 (w18.alloc (.cells #[.int .i64 b0.k, .int .i64 b0.n, .string b0.s, .int .i64 b1.k, .int .i64 b1.n, .string b1.s, .int .i64 b2.k, .int .i64 b2.n, .string b2.s, .int .i64 b3.k, .int .i64 b3.n, .string b3.s] 38)) w18.heap.size [b0, b1, b2, b3] := by
      obtain ⟨cc, ff⟩ := blk_rules (heap_alloc_new w18 (.cells #[.int .i64 b0.k, .int .i64 b0.n, .string b0.s, .int .i64 b1.k, .int .i64 b1.n, .string b1.s, .int .i64 b2.k, .int .i64 b2.n, .string b2.s, .int .i64 b3.k, .int .i64 b3.n, .string b3.s] 38))
      refine ⟨rfl, by simp, fun j => ff j, fun k v hk => ?_⟩
      have hk4 : k < 4 := by simpa using (List.getElem?_eq_some_iff.1 hk).1
      obtain rfl | rfl | rfl | rfl : k = 0 ∨ k = 1 ∨ k = 2 ∨ k = 3 := by omega
      all_goals (simp at hk; subst hk; exact ⟨cc _, cc _, cc _⟩)
    have hal2 := (Below.refl w18.heap.size w18).alloc (Nat.le_refl _) (.cells #[.int .i64 b0.k, .int .i64 b0.n, .string b0.s, .int .i64 b1.k, .int .i64 b1.n, .string b1.s, .int .i64 b2.k, .int .i64 b2.n, .string b2.s, .int .i64 b3.k, .int .i64 b3.n, .string b3.s] 38)
    clear D4 D5 F5 FA hA htW ht15 ht16 ht17 ht18 hg15 hg16 hg17 hg18 g18 hbW
    go_wp2_with fail
    obtain ⟨W2, hW2⟩ : ∃ W2, w18.alloc (.cells #[.int .i64 b0.k, .int .i64 b0.n, .string b0.s, .int .i64 b1.k, .int .i64 b1.n, .string b1.s, .int .i64 b2.k, .int .i64 b2.n, .string b2.s, .int .i64 b3.k, .int .i64 b3.n, .string b3.s] 38) = W2 := ⟨_, rfl⟩
    rw [hW2] at hB4 hal2
    rw [hW2]
    clear hW2
    obtain ⟨bb, hbb⟩ : ∃ bb, w18.heap.size = bb := ⟨_, rfl⟩
    have HBB := Lib.hid hbb
    rw [hbb] at hB4 hal2 E4 E5 EA
    rw [hbb]
    clear hbb
    obtain ⟨bs0, hbs0⟩ : ∃ bs0, [b0, b1, b2, b3] = bs0 := ⟨_, rfl⟩
    rw [hbs0] at hB4
    clear hbs0
    have HN5 := Lib.hid E5.len
    go_loopw [10] (fun v10 wr => ∃ (i : Nat) (bs : List V), v10 = .int .i64 (i : Int) ∧ i ≤ L.length ∧ B4 wr bb bs ∧ Hid (∀ (j : Nat) z, j < i → L[j]? = some z → bs[z.toNat]? = av[z.toNat]?) ∧ Below bb w18 wr) (fun v10 _ => L.length - (intOf v10).toNat)
    case atStart => exact ⟨0, bs0, rfl, by omega, hB4, fun j z hj => by omega, hal2⟩
    case round =>
      clear hB4 hal2
      obtain ⟨i, bs, rfl, hi, h4, hH, hbel⟩ := hrel
      have hzz := hbel.size
      have T4 := (E4.below hbel)
      have T5 := (E5.below hbel)
      have TA := (EA.below hbel)
      by_cases hlt : i < L.length
      · have h1 : (i : Int) < (L.length : Int) := by omega
        have h0 : (0 : Int) ≤ (i : Int) := by omega
        have hiw : IntKind.i64.wrap ((i : Int) + 1) = (i : Int) + 1 := IntWalk.i64_in _ (by omega)
        obtain ⟨l5, o5, z, rfl, hl5, hz5', c5c⟩ := RowI.at1 T5 hlt
        obtain ⟨hzp, hz3⟩ := HY1.out z (List.mem_of_getElem? hz5')
        obtain ⟨q, rfl⟩ := Int.eq_ofNat_of_zero_le hzp
        have hq4 : q < 4 := by omega
        have q1 : ¬ (q : Int) < 0 := by omega
        have q2 : ¬ (q : Int) > 3 := by omega
        have q3 : (q : Int) < 4 := by omega
        obtain ⟨a, ao, va, ea, ha, hva, k0, k1, k2⟩ := Row.at3 TA hq4
        injection ea with ea
        injection ea with ea1 ea2
        subst ea1 ea2
        rw [Nat.zero_add] at k0 k1 k2
        obtain ⟨vb, hvb⟩ : ∃ vb, bs[q]? = some vb := ⟨_, List.getElem?_eq_getElem (by rw [h4.len]; exact hq4)⟩
        obtain ⟨j0, j1, j2⟩ := h4.at_ q vb hvb
        have fr := h4.fr
        have HB4 := Lib.hid h4
        have HVA := Lib.hid hva
        have HZ5 := Lib.hid hz5'
        clear hva hvb hz5' h4 T4 T5 TA hzp
        go_wp2_with fail
        go_region_with (fail)
        all_goals go_wp2_with fail
        all_goals go_roundw
        all_goals (try (case measure => simp [intOf]; omega))
        all_goals exact ⟨i + 1, bs.set q va, by go_num, by omega, (HB4.out.set hq4 va).drew, cols_step hH.out (by rw [HB4.out.len]; exact hq4) HZ5.out HVA.out, by (repeat (first | (with_reducible exact Below.refl _ _) | (with_reducible assumption) | (with_reducible refine Below.drew ?_) | (with_reducible refine below_drewN ?_ _) | ((with_reducible refine Below.setCell ?_ ?_ _); rotate_left; (focus (first | (simp; done) | (simp; omega) | omega))) | ((with_reducible refine Below.alloc ?_ ?_ _); rotate_left; (focus (first | (simp; done) | (simp; omega) | omega))) | ((with_reducible apply below_step1); (focus (with_reducible assumption)))))⟩
      · obtain rfl : i = L.length := by omega
        have h1 : ¬ (L.length : Int) < (L.length : Int) := by omega
        have EV := HY2.out av bs HAV.out h4.len (fun z hz => by
          obtain ⟨j, hj, rfl⟩ := List.getElem_of_mem hz
          exact hH.out j _ hj (List.getElem?_eq_getElem hj))
        have hbb := HBB.out
        have R4 : RowT wr wr.heap.size A4 xl.length xl := T4.more (by omega)
        have RA : Row wr wr.heap.size (some ⟨ab, 0, none⟩) 4 av := TA.more (by omega)
        have RB := h4.row
        have hbr : Below w.heap.size w wr := below_step1 (by rw [hbb]; exact hbel) hb18
        have X3 := fun w h1 h2 => xeval A4 (some ⟨ab, 0, none⟩) xl.length c4 4 4 xl av w (by unfold maxLen; omega) (by decide) h1 h2
        have X4 := fun w h1 h2 => xeval A4 (some ⟨bb, 0, none⟩) xl.length c4 4 4 xl bs w (by unfold maxLen; omega) (by decide) h1 h2
        rw [EV] at X3
        have heq := eqW_self (evalE xl bs)
        generalize evalE xl bs = ev at X3 X4 heq
        clear EV hbb T4 T5 TA h4 hH
        ((go_wp2_with fail); refine (X3 _ (by exact R4) (by exact RA)).mono ?_; rintro e w20 ⟨rfl, hb20⟩; have hz20 := hb20.size; (try simp at hz20))
        ((go_wp2_with fail); refine (X4 _ (by exact R4.to (by (repeat (first | (with_reducible exact Below.refl _ _) | (with_reducible assumption) | (with_reducible refine Below.drew ?_) | (with_reducible refine below_drewN ?_ _) | ((with_reducible refine Below.setCell ?_ ?_ _); rotate_left; (focus (first | (simp; done) | (simp; omega) | omega))) | ((with_reducible refine Below.alloc ?_ ?_ _); rotate_left; (focus (first | (simp; done) | (simp; omega) | omega))) | ((with_reducible apply below_step1); (focus (with_reducible assumption))))))) (by exact RB.to (by (repeat (first | (with_reducible exact Below.refl _ _) | (with_reducible assumption) | (with_reducible refine Below.drew ?_) | (with_reducible refine below_drewN ?_ _) | ((with_reducible refine Below.setCell ?_ ?_ _); rotate_left; (focus (first | (simp; done) | (simp; omega) | omega))) | ((with_reducible refine Below.alloc ?_ ?_ _); rotate_left; (focus (first | (simp; done) | (simp; omega) | omega))) | ((with_reducible apply below_step1); (focus (with_reducible assumption)))))))).mono ?_; rintro e w21 ⟨rfl, hb21⟩; have hz21 := hb21.size; (try simp at hz21))
        ((go_wp2_with fail); refine (awake_c _ (by exact hG.below (by (repeat (first | (with_reducible exact Below.refl _ _) | (with_reducible assumption) | (with_reducible refine Below.drew ?_) | (with_reducible refine below_drewN ?_ _) | ((with_reducible refine Below.setCell ?_ ?_ _); rotate_left; (focus (first | (simp; done) | (simp; omega) | omega))) | ((with_reducible refine Below.alloc ?_ ?_ _); rotate_left; (focus (first | (simp; done) | (simp; omega) | omega))) | ((with_reducible apply below_step1); (focus (with_reducible assumption)))))))).mono ?_; rintro e w22 ⟨rfl, hb22⟩; have hz22 := hb22.size; (try simp at hz22))
        go_wp2_with fail
        go_ret
        exact ⟨rfl, by (repeat (first | (with_reducible exact Below.refl _ _) | (with_reducible assumption) | (with_reducible refine Below.drew ?_) | (with_reducible refine below_drewN ?_ _) | ((with_reducible refine Below.setCell ?_ ?_ _); rotate_left; (focus (first | (simp; done) | (simp; omega) | omega))) | ((with_reducible refine Below.alloc ?_ ?_ _); rotate_left; (focus (first | (simp; done) | (simp; omega) | omega))) | ((with_reducible apply below_step1); (focus (with_reducible assumption)))))⟩
end Go.Proofs.YtojcabnjodfdmaaGreatDoor
