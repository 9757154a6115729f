/- The walk of the law LexerLimits; where the variable ErrRange can be read. -/
import Derived.Test.YtmbegmhgiekofaaDoorLi
import Derived.Laws.MakeOwn
namespace Go.Proofs.YtmbegmhgiekofaaDoor
open Go.RowKit

/-- A block of bytes. -/
structure Bts (w : World) (L M : Nat) : Prop where
  lt : L < w.heap.size
  at_ : ∀ j, j < M → ∃ c : UInt8, w.cell? ⟨L, j, none⟩ = some (.int .u8 c.toNat)
  fr : ∀ j, w.frozen? ⟨L, j, none⟩ = false
theorem Bts.below {w w' : World} {L M : Nat} (h : Bts w L M) (hb : Below w.heap.size w w') : Bts w' L M := by
  refine ⟨Nat.lt_of_lt_of_le h.lt hb.size, fun j hj => ?_, fun j => (hb.frozen (p := ⟨L, j, none⟩) h.lt).trans (h.fr j)⟩
  obtain ⟨c, hc⟩ := h.at_ j hj
  exact ⟨c, (hb.cell (p := ⟨L, j, none⟩) h.lt).trans hc⟩
theorem Bts.made (w : World) (M : Nat) (t : TypeId) : Bts (w.alloc (.cells (madeCells #[.int .u8 0] M) t)) w.heap.size M := by
  have hb := heap_alloc_new w (.cells (madeCells #[.int .u8 0] M) t)
  obtain ⟨c, f⟩ := blk_rules hb
  refine ⟨by simp, fun j hj => ⟨0, ?_⟩, f⟩
  have h1 : (madeCells #[.int .u8 0] M).toList[j]? = some (.int .u8 0) := by
    rw [toList_madeCells_one]
    simp [hj]
  rw [c j]
  simpa using h1
theorem setCell_frozen (w : World) (L L2 k j : Nat) (v : Value) : (w.setCell ⟨L2, k, none⟩ v).frozen? ⟨L, j, none⟩ = w.frozen? ⟨L, j, none⟩ := by
  simp only [World.frozen?, World.setCell, Array.getElem?_modify]
  by_cases h : L2 = L
  · subst h
    rw [if_pos rfl]
    cases w.heap[L2]? with
    | none => rfl
    | some o => cases o <;> rfl
  · rw [if_neg h]
theorem Bts.set {w : World} {L M L2 k : Nat} {c : UInt8} (h : Bts w L M) (hk : L2 = L → k < M) : Bts (w.setCell ⟨L2, k, none⟩ (.int .u8 c.toNat)) L M := by
  refine ⟨by simpa [World.setCell] using h.lt, fun j hj => ?_, fun j => by rw [setCell_frozen]; exact h.fr j⟩
  obtain ⟨d, hd⟩ := h.at_ j hj
  by_cases he : L2 = L ∧ k = j
  · obtain ⟨rfl, rfl⟩ := he
    exact ⟨c, World.cell?_setCell_same _ _ _ hd⟩
  · exact ⟨d, (World.cell?_setCell_other _ _ _ _ (fun e => he ⟨congrArg Addr.block e, congrArg Addr.off e⟩)).trans hd⟩
theorem Bts.str {w : World} {L M : Nat} (h : Bts w L M) (c : Nat) : ∃ s : ByteArray, s.size = M ∧ (convert 31 9 (.slice (some ⟨L, 0, none⟩) M c)).run Tryd.prog w = .ok (.string s) w := by
  have hf : ∀ m, m ≤ M → ∃ l : List UInt8, l.length = m ∧ ∀ j d, l[j]? = some d → w.cell? ⟨L, j, none⟩ = some (.int .u8 d.toNat) := by
    intro m
    induction m with
    | zero => intro _; exact ⟨[], rfl, fun j d h => by simp at h⟩
    | succ m ih =>
      intro hm
      obtain ⟨l, h1, h2⟩ := ih (by omega)
      obtain ⟨d, hd⟩ := h.at_ m (by omega)
      refine ⟨l ++ [d], by simp [h1], fun j e he => ?_⟩
      rcases Nat.lt_or_ge j m with hj | hj
      · rw [List.getElem?_append_left (by omega)] at he
        exact h2 j e he
      · have hjm : j = m := by
          have := (List.getElem?_eq_some_iff.1 he).1
          simp only [List.length_append, List.length_cons, List.length_nil] at this
          omega
        subst hjm
        rw [List.getElem?_append_right (by omega), h1, Nat.sub_self] at he
        simp at he
        subst he
        exact hd
  obtain ⟨l, hl, hc⟩ := hf M (Nat.le_refl _)
  refine ⟨⟨l.toArray⟩, by rw [Lib.size_eq]; exact hl, ?_⟩
  have hr := run_convert_bytes_arg (P := Tryd.prog) w 31 5 Tryd.underlying31 Tryd.underlying5 L 0 M c (l.map fun c => (c.toNat : Int)) (by simpa using hl) (fun i hi => by
    have hil : i < l.length := by omega
    have := hc i _ (List.getElem?_eq_getElem hil)
    rw [Nat.zero_add, this]
    simp [List.getD, hil]) 9 Tryd.underlying9
  have he : strOfNums (l.map fun c => (c.toNat : Int)) = ⟨l.toArray⟩ := by simp [strOfNums, Function.comp_def]
  rw [hr, he]
theorem makeBytes (M : Nat) (i : Int) (hi : i = (M : Int)) (hM : M ≤ 1000000) (w : World) : (Instr.makeSlice 31 (.int .i64 i) (.int .i64 i)).run Tryd.prog w = .ok (.slice (some ⟨w.heap.size, 0, none⟩) M M) (w.alloc (.cells (madeCells #[.int .u8 0] M) 5)) := by
  subst hi
  obtain ⟨i, h0, h1, h2, h3⟩ := info_parts (P := Tryd.prog) (e := 5) (z := .int .u8 0) (size := 1) (bytes := 1) (by kernel_rfl)
  have := run_make (P := Tryd.prog) w 31 5 i (.int .u8 0) Tryd.underlying31 h0 h1 .i64 .i64 (M : Int) (M : Int) (by omega) (by omega) (by rw [h3]; omega) (by omega)
  rw [h2, Int.toNat_natCast, Nat.mul_one] at this
  exact this
/-- After so many bytes of the first block, and of the second. -/
def B1Rel (w : World) (L M : Nat) (v : Value) (wr : World) : Prop := ∃ k : Nat, v = .int .i64 (k : Int) ∧ k ≤ M ∧ Bts wr L M ∧ Below w.heap.size w wr
def B2Rel (w : World) (L M L2 M2 : Nat) (v : Value) (wr : World) : Prop := ∃ k : Nat, v = .int .i64 (k : Int) ∧ k ≤ M2 ∧ Bts wr L M ∧ Bts wr L2 M2 ∧ Below w.heap.size w wr
set_option maxRecDepth 100000 in
set_option maxHeartbeats 4000000 in
theorem lexerLimits_w (n : Int) (w : World) (h0 : 0 ≤ n) (hE : GE w) :
    Calls Tryd.prog 5 #[.int .u8 n] w fun e w' => e = .returned (.bool true) ∧ Below w.heap.size w w' := by
  obtain ⟨kk, hk⟩ : ∃ kk, n.tmod 3 = kk := ⟨_, rfl⟩
  have b1 := Int.tmod_lt_of_pos n (show (0 : Int) < 3 by omega)
  have b2 := Int.tmod_nonneg 3 h0
  rw [hk] at b1 b2
  obtain ⟨d, hd⟩ : ∃ d, kk - 1 = d := ⟨_, rfl⟩
  have hkw : IntKind.u8.wrap kk = kk := by simp [IntKind.wrap, IntKind.bits]; omega
  have hkw2 : IntKind.i64.wrap kk = kk := IntWalk.i64_in _ (by omega)
  have hdw : IntKind.i64.wrap (kk - 1) = d := by rw [hd]; exact IntWalk.i64_in _ (by omega)
  have hdb : -1 ≤ d ∧ d ≤ 1 := by omega
  have h16 : IntKind.i64.wrap (16 + d) = 16 + d := IntWalk.i64_in _ (by omega)
  have h32 : IntKind.i64.wrap (32 + d) = 32 + d := IntWalk.i64_in _ (by omega)
  have h4k : IntKind.i64.wrap (4096 + d) = 4096 + d := IntWalk.i64_in _ (by omega)
  have h32k : IntKind.i64.wrap (32768 + d) = 32768 + d := IntWalk.i64_in _ (by omega)
  obtain ⟨M1, hM1⟩ : ∃ M1 : Nat, 4096 + d = (M1 : Int) := ⟨(4096 + d).toNat, by omega⟩
  obtain ⟨M2, hM2⟩ : ∃ M2 : Nat, 32768 + d = (M2 : Int) := ⟨(32768 + d).toNat, by omega⟩
  have hm1 := makeBytes M1 (4096 + d) hM1 (by omega)
  have hm2 := makeBytes M2 (32768 + d) hM2 (by omega)
  have HM1 := Lib.hid hM1
  have HM2 := Lib.hid hM2
  have hM1b : M1 ≤ 5000 := by omega
  have hM2b : M2 ≤ 40000 := by omega
  clear hM1 hM2
  go_enter Tryd.func5, Tryd.ntmps5
  go_wp2_with fail
  go_loop [4, 6] (fun v4 v6 => ∃ (j : Nat) (s : ByteArray), v6 = .int .i64 (j : Int) ∧ v4 = .string s ∧ s.size ≤ j ∧ (j : Int) ≤ 16 + d) (fun _ v6 => (16 + d - intOf v6).toNat)
  case atStart => exact ⟨0, ⟨#[]⟩, rfl, rfl, by decide, by omega⟩
  case round =>
    obtain ⟨j, s, rfl, rfl, hj1, hj2⟩ := hrel
    have ha : ∀ w, (Op.stringOp .add s ⟨#[120]⟩).run Tryd.prog w = .ok (.string (s ++ ⟨#[120]⟩)) w := fun w => run_string_add_sum w _ _ (by show s.size + 1 ≤ _; omega)
    by_cases hlt : (j : Int) < 16 + d
    · have hjw : IntKind.i64.wrap ((j : Int) + 1) = (j : Int) + 1 := IntWalk.i64_in _ (by omega)
      go_wp2_with fail
      go_round
      case rel => exact ⟨j + 1, _, by go_num, rfl, by rw [ByteArray.size_append]; show s.size + 1 ≤ _; omega, by omega⟩
      case measure => simp [intOf]; omega
    · have hs17 : s.size ≤ 17 := by omega
      clear ha hj2 hj1
      go_wp2_with fail
      go_loop [5, 7] (fun v5 v7 => ∃ (j : Nat) (t : ByteArray), v7 = .int .i64 (j : Int) ∧ v5 = .string t ∧ t.size ≤ j ∧ (j : Int) ≤ 32 + d) (fun _ v7 => (32 + d - intOf v7).toNat)
      case atStart => exact ⟨0, ⟨#[]⟩, rfl, rfl, by decide, by omega⟩
      case round =>
        obtain ⟨i, t, rfl, rfl, hi1, hi2⟩ := hrel
        have ha : ∀ w, (Op.stringOp .add t ⟨#[121]⟩).run Tryd.prog w = .ok (.string (t ++ ⟨#[121]⟩)) w := fun w => run_string_add_sum w _ _ (by show t.size + 1 ≤ _; omega)
        by_cases hlt2 : (i : Int) < 32 + d
        · have hjw : IntKind.i64.wrap ((i : Int) + 1) = (i : Int) + 1 := IntWalk.i64_in _ (by omega)
          go_wp2_with fail
          go_round
          case rel => exact ⟨i + 1, _, by go_num, rfl, by rw [ByteArray.size_append]; show t.size + 1 ≤ _; omega, by omega⟩
          case measure => simp [intOf]; omega
        · have ht33 : t.size ≤ 33 := by omega
          clear ha hi2 hi1
          go_upto_region 11 with fail
          go_cut [8] (fun v8 wx => ∃ (st : ByteArray) (W0 : World), v8 = .string st ∧ st.size ≤ 10 ∧ Below w.heap.size w W0 ∧ W0 = wx)
          case first =>
            clear hm1 hm2
            obtain rfl | rfl | rfl : kk = 0 ∨ kk = 1 ∨ kk = 2 := by omega
            all_goals go_wp2_with fail
            all_goals go_meet
            all_goals exact ⟨_, _, rfl, by decide, by (repeat (first | (with_reducible exact Below.refl _ _) | (with_reducible assumption) | (with_reducible refine Below.drew ?_) | (with_reducible refine below_drewN ?_ _) | ((with_reducible refine Below.setCell ?_ ?_ _); rotate_left; (focus (first | (simp; done) | (simp; omega) | omega))) | ((with_reducible refine Below.alloc ?_ ?_ _); rotate_left; (focus (first | (simp; done) | (simp; omega) | omega))) | ((with_reducible apply below_step1); (focus (with_reducible assumption))))), rfl⟩
          case rest =>
            obtain ⟨st, W0, rfl, hst, bel1, rfl⟩ := hcut
            have hzx := bel1.size
            go_wp2_with fail
            go_loopw [10] (fun v10 wr => B1Rel w W0.heap.size M1 v10 wr) (fun v10 _ => M1 - (intOf v10).toNat)
            case atStart => exact ⟨0, rfl, by omega, Bts.made W0 M1 _, bel1.alloc (by omega) _⟩
            case round =>
              obtain ⟨k, rfl, hk1, hB, hbel⟩ := hrel
              have hzz := hbel.size
              have HB := Lib.hid hB
              by_cases hlt3 : k < M1
              · obtain ⟨c, hc⟩ := hB.at_ k hlt3
                have hfr := hB.fr k
                have k1 : (k : Int) < (M1 : Int) := by omega
                have k2 : (0 : Int) ≤ (k : Int) := by omega
                have k3 : IntKind.i64.wrap ((k : Int) + 1) = (k : Int) + 1 := IntWalk.i64_in _ (by omega)
                clear hB
                go_wp2_with fail
                go_roundw
                case rel => exact ⟨k + 1, by go_num, by omega, HB.out.set (c := 59) (fun _ => hlt3), by (repeat (first | (with_reducible exact Below.refl _ _) | (with_reducible assumption) | (with_reducible refine Below.drew ?_) | (with_reducible refine below_drewN ?_ _) | ((with_reducible refine Below.setCell ?_ ?_ _); rotate_left; (focus (first | (simp; done) | (simp; omega) | omega))) | ((with_reducible refine Below.alloc ?_ ?_ _); rotate_left; (focus (first | (simp; done) | (simp; omega) | omega))) | ((with_reducible apply below_step1); (focus (with_reducible assumption)))))⟩
                case measure => simp [intOf]; omega
              · have k1 : ¬ (k : Int) < (M1 : Int) := by omega
                obtain ⟨W1, rfl⟩ : ∃ W1, W1 = wr := ⟨_, rfl⟩
                clear hB
                go_wp2_with fail
                go_loopw [12] (fun v12 wr => B2Rel w W0.heap.size M1 W1.heap.size M2 v12 wr) (fun v12 _ => M2 - (intOf v12).toNat)
                case atStart => exact ⟨0, rfl, by omega, HB.out.below ((Below.refl _ _).alloc (Nat.le_refl _) _), Bts.made W1 M2 _, hbel.alloc (by omega) _⟩
                case round =>
                  have hL0 := HB.out.lt
                  clear hbel
                  obtain ⟨q, rfl, hq1, hB1, hB2, hbel⟩ := hrel
                  have hzz2 := hbel.size
                  have HB1 := Lib.hid hB1
                  have HB2 := Lib.hid hB2
                  clear HB
                  by_cases hlt4 : q < M2
                  · obtain ⟨c, hc⟩ := hB2.at_ q hlt4
                    have hfr := hB2.fr q
                    have k1 : (q : Int) < (M2 : Int) := by omega
                    have k2 : (0 : Int) ≤ (q : Int) := by omega
                    have k3 : IntKind.i64.wrap ((q : Int) + 1) = (q : Int) + 1 := IntWalk.i64_in _ (by omega)
                    clear hB1 hB2
                    go_wp2_with fail
                    go_roundw
                    case rel => exact ⟨q + 1, by go_num, by omega, HB1.out.set (c := 32) (fun e => by omega), HB2.out.set (c := 32) (fun _ => hlt4), by (repeat (first | (with_reducible exact Below.refl _ _) | (with_reducible assumption) | (with_reducible refine Below.drew ?_) | (with_reducible refine below_drewN ?_ _) | ((with_reducible refine Below.setCell ?_ ?_ _); rotate_left; (focus (first | (simp; done) | (simp; omega) | omega))) | ((with_reducible refine Below.alloc ?_ ?_ _); rotate_left; (focus (first | (simp; done) | (simp; omega) | omega))) | ((with_reducible apply below_step1); (focus (with_reducible assumption)))))⟩
                    case measure => simp [intOf]; omega
                  · have k1 : ¬ (q : Int) < (M2 : Int) := by omega
                    have a1 : ∀ w, (Op.stringOp .add ⟨#[97, 32]⟩ st).run Tryd.prog w = .ok (.string (⟨#[97, 32]⟩ ++ st)) w := fun w => run_string_add_sum w _ _ (by show 2 + st.size ≤ _; omega)
                    have a2 : ∀ w, (Op.stringOp .add ⟨#[34]⟩ t).run Tryd.prog w = .ok (.string (⟨#[34]⟩ ++ t)) w := fun w => run_string_add_sum w _ _ (by show 1 + t.size ≤ _; omega)
                    have z1 : (⟨#[97, 32]⟩ ++ st : ByteArray).size ≤ 100 := by rw [ByteArray.size_append]; show 2 + st.size ≤ _; omega
                    have z2 : (⟨#[34]⟩ ++ t : ByteArray).size ≤ 100 := by rw [ByteArray.size_append]; show 1 + t.size ≤ _; omega
                    obtain ⟨s1, hs1⟩ : ∃ s1, (⟨#[97, 32]⟩ ++ st : ByteArray) = s1 := ⟨_, rfl⟩
                    obtain ⟨s2, hs2⟩ : ∃ s2, (⟨#[34]⟩ ++ t : ByteArray) = s2 := ⟨_, rfl⟩
                    rw [hs1] at a1 z1
                    rw [hs2] at a2 z2
                    have a3 : ∀ w, (Op.stringOp .add s2 ⟨#[34]⟩).run Tryd.prog w = .ok (.string (s2 ++ ⟨#[34]⟩)) w := fun w => run_string_add_sum w _ _ (by show s2.size + 1 ≤ _; omega)
                    have z3 : (s2 ++ ⟨#[34]⟩ : ByteArray).size ≤ 101 := by rw [ByteArray.size_append]; show s2.size + 1 ≤ _; omega
                    obtain ⟨s3, hs3⟩ : ∃ s3, (s2 ++ ⟨#[34]⟩ : ByteArray) = s3 := ⟨_, rfl⟩
                    rw [hs3] at a3 z3
                    clear hs1 hs2 hs3 hB1 hB2 hm1 hm2
                    go_wp2_with fail
                    refine (scans_c s _ (by omega) (by exact hE.below hbel)).mono ?_
                    rintro e w1 ⟨rfl, hb1⟩
                    have bel2 := below_step hb1 hbel (Nat.le_refl _)
                    go_wp2_with fail
                    refine (scans_c s1 _ (by omega) (by exact hE.below bel2)).mono ?_
                    rintro e w2 ⟨rfl, hb2⟩
                    have bel3 := below_step hb2 bel2 (Nat.le_refl _)
                    go_wp2_with fail
                    refine (scans_c s3 _ (by omega) (by exact hE.below bel3)).mono ?_
                    rintro e w3 ⟨rfl, hb3⟩
                    have bel4 := below_step hb3 bel3 (Nat.le_refl _)
                    obtain ⟨t1, ht1, hv1⟩ := (((HB1.out.below hb1).below hb2).below hb3).str M1
                    go_wp2_with fail
                    refine (scans_c t1 _ (by omega) (by exact hE.below bel4)).mono ?_
                    rintro e w4 ⟨rfl, hb4⟩
                    have bel5 := below_step hb4 bel4 (Nat.le_refl _)
                    obtain ⟨t2, ht2, hv2⟩ := ((((HB2.out.below hb1).below hb2).below hb3).below hb4).str M2
                    clear hv1
                    go_wp2_with fail
                    refine (scans_c t2 _ (by omega) (by exact hE.below bel5)).mono ?_
                    rintro e w5 ⟨rfl, hb5⟩
                    have bel6 := below_step hb5 bel5 (Nat.le_refl _)
                    clear hv2
                    go_wp2_with (go_at_call 10; refine (awake_c _ (by exact hE.below bel6)).mono ?_; rintro e w6 ⟨rfl, hb6⟩)
                    go_ret
                    exact ⟨rfl, below_step hb6 bel6 (Nat.le_refl _)⟩
end Go.Proofs.YtmbegmhgiekofaaDoor
