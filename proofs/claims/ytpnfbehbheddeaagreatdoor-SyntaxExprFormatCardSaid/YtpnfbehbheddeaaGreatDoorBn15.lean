/- Contract of the reference's Unquote: strings of at most a hundred thousand bytes. Contracts of parseInt and Parse: strings of at most a hundred thousand bytes; where the variable ErrRange can be read. -/
import Derived.Test.YtpnfbehbheddeaaGreatDoorBn14
import Derived.Deep.CutRange
import Derived.Test.YtpnfbehbheddeaaGreatDoorShelf
namespace Go.Proofs.YtpnfbehbheddeaaGreatDoor
set_option maxRecDepth 100000
set_option maxHeartbeats 8000000
set_option linter.unusedVariables false
set_option linter.unusedSimpArgs false
open Go.RowKit
def UqPost (w : World) (x : List UInt8 × Nat) (e : Ending) (w' : World) : Prop := e = .returned (.tuple #[.string ⟨x.1.toArray⟩, .int .i64 (x.2 : Int)]) ∧ Below w.heap.size w w'
theorem unqO_none {l : List UInt8} (h : unqR (l.drop 1) = none) : unqO l = ([], 0) := by unfold unqO; rw [h]; simp
theorem unqO_some {l t : List UInt8} {n : Nat} (h0 : l.head? = some 34) (h : unqR (l.drop 1) = some (t, n)) : unqO l = (t, n + 1) := by unfold unqO; rw [if_pos h0, h]
def UxRel (w : World) (n : Nat) (l : List UInt8) (v4 v5 : Value) (wr : World) : Prop := ∃ (i : Nat) (tx : List UInt8), v5 = .int .i64 i ∧ 1 ≤ i ∧ i ≤ n ∧ tx.length ≤ i ∧ OwnB wr w.heap.size v4 tx ∧ Below w.heap.size w wr ∧ UnqR l i tx
theorem digit_b (c : UInt8) (w : World) : Calls Tryz.prog 263 #[.int .u8 c.toNat] w fun e w' => e = .returned (.int .i64 (hexI c)) ∧ Below w.heap.size w w' := (digit_c c w).mono fun _ _ h => ⟨h.1, h.2 ▸ Below.refl _ _⟩
theorem unquote_c (s : ByteArray) (w : World) (hs : s.size ≤ 100000) : Calls Tryz.prog 233 #[.string s] w (UqPost w (unqO s.data.toList)) := by
  by_cases z0 : s.size = 0
  · have t0 : ((s.size : Int) == 0) = true := by rw [z0]; rfl
    have HR := Lib.hid (show unqO s.data.toList = ([], 0) by rw [List.eq_nil_of_length_eq_zero (show s.data.toList.length = 0 by rw [← Lib.size_eq]; exact z0)]; rfl)
    clear z0
    go_enter Tryz.func233, Tryz.ntmps233
    go_wp2_with fail
    refine bodyPost_ret (by simp [results, Tryz.results233, go_sem]; rfl) rfl ?_
    unfold UqPost
    rw [HR.out]
    exact ⟨rfl, by (exact belQ)⟩
  have t0 : ((s.size : Int) == 0) = false := by rw [beq_eq_false_iff_ne]; omega
  have hl : 0 < s.data.toList.length := by rw [← Lib.size_eq]; omega
  obtain ⟨c, hc⟩ : ∃ c, s.data.toList[0]? = some c := ⟨_, List.getElem?_eq_getElem hl⟩
  have hix := run_idx hc
  simp only [Int.natCast_zero] at hix
  have HC := Lib.hid hc
  clear hc hl
  by_cases z1 : c = 34
  case neg =>
    have t1 : ((c.toNat : Int) != 34) = true := by
      rw [bne_iff_ne]
      intro h
      exact z1 (UInt8.toNat_inj.1 (show c.toNat = (34 : UInt8).toNat from by show c.toNat = 34; omega))
    have HR := Lib.hid (show unqO s.data.toList = ([], 0) by unfold unqO; rw [if_neg]; rw [head_at, HC.out]; intro h; injection h with h; exact z1 h)
    clear z0 z1
    go_enter Tryz.func233, Tryz.ntmps233
    go_wp2_with fail
    refine bodyPost_ret (by simp [results, Tryz.results233, go_sem]; rfl) rfl ?_
    unfold UqPost
    rw [HR.out]
    exact ⟨rfl, by (exact belQ)⟩
  case pos =>
    have t1 : ((c.toNat : Int) != 34) = false := by rw [z1]; rfl
    have HH := Lib.hid (show s.data.toList.head? = some 34 by rw [head_at, HC.out, z1])
    clear z0 z1 HC
    go_enter Tryz.func233, Tryz.ntmps233
    go_wp2_with fail
    go_loopw [4, 5] (fun v i wr => UxRel w (s.size + 2) s.data.toList v i wr) (fun _ i _ => s.size + 3 - (intOf i).toNat)
    case atStart => exact ⟨1, [], rfl, by omega, by omega, by simp, OwnB.nil_ _ _, Below.refl _ _, UnqR.start _⟩
    case round =>
      obtain ⟨i, tx, rfl, hi1, hi2, htx, hown, hbel, hunq⟩ := hrel
      have hzz := hbel.size
      have HU := Lib.hid hunq
      clear hunq
      have hown0 := hown
      obtain ⟨A5, c5, rfl, _, _⟩ := own_slice hown0
      have HO := Lib.hid hown
      clear hown hown0
      by_cases hE : i < s.size
      case neg =>
        have hE1 : ¬ (i : Int) < (s.size : Int) := by omega
        have HR := Lib.hid (unqO_none (HU.out.over (by rw [← Lib.size_eq]; omega)))
        go_wp2_with fail
        refine bodyPost_ret (by simp [results, Tryz.results233, go_sem]; rfl) rfl ?_
        unfold UqPost
        rw [HR.out]
        exact ⟨rfl, by (exact belQ)⟩
      case pos =>
        have hE1 : (i : Int) < (s.size : Int) := by omega
        have hl1 : i < s.data.toList.length := by rw [← Lib.size_eq]; omega
        obtain ⟨d, hd⟩ : ∃ c, s.data.toList[i]? = some c := ⟨_, List.getElem?_eq_getElem hl1⟩
        have hiy := run_idx hd
        have HD := Lib.hid hd
        clear hd hl1
        by_cases q0 : d = 34
        · have u0 : ((d.toNat : Int) == 34) = true := by rw [q0]; rfl
          have HR := Lib.hid (unqO_some HH.out (HU.out.done hi1 (q0 ▸ HD.out)))
          have hts := run_toStr (l := tx) HO.out
          clear q0
          go_wp2_with fail
          refine bodyPost_ret (by simp [results, Tryz.results233, go_sem]; rfl) rfl ?_
          unfold UqPost
          rw [HR.out]
          exact ⟨rfl, by (exact belQ)⟩
        have u0 : ((d.toNat : Int) == 34) = false := by
          rw [beq_eq_false_iff_ne]
          intro h
          exact q0 (UInt8.toNat_inj.1 (show d.toNat = (34 : UInt8).toNat from by show d.toNat = 34; omega))
        by_cases q1 : d.toNat < 32 ∨ 126 < d.toNat
        · have HR := Lib.hid (unqO_none (HU.out.odd HD.out q0 (by rintro rfl; revert q1; decide) (by unfold plainB; rcases q1 with q | q <;> simp <;> omega)))
          by_cases q2 : d.toNat < 32
          · have u1 : (d.toNat : Int) < 32 := by omega
            clear q0 q1 q2
            go_wp2_with fail
            refine bodyPost_ret (by simp [results, Tryz.results233, go_sem]; rfl) rfl ?_
            unfold UqPost
            rw [HR.out]
            exact ⟨rfl, by (exact belQ)⟩
          · have u1 : ¬ (d.toNat : Int) < 32 := by omega
            have u2 : 126 < (d.toNat : Int) := by omega
            clear q0 q1 q2
            go_wp2_with fail
            refine bodyPost_ret (by simp [results, Tryz.results233, go_sem]; rfl) rfl ?_
            unfold UqPost
            rw [HR.out]
            exact ⟨rfl, by (exact belQ)⟩
        have u1 : ¬ (d.toNat : Int) < 32 := by omega
        have u2 : ¬ 126 < (d.toNat : Int) := by omega
        by_cases q3 : d = 92
        case neg =>
          have u3 : ((d.toNat : Int) != 92) = true := by
            rw [bne_iff_ne]
            intro h
            exact q3 (UInt8.toNat_inj.1 (show d.toNat = (92 : UInt8).toNat from by show d.toNat = 92; omega))
          have HP := Lib.hid (show plainB d = true by
            unfold plainB
            have e1 : (d.toNat != 34) = true := by rw [bne_iff_ne]; intro h; exact q0 (UInt8.toNat_inj.1 h)
            have e2 : (d.toNat != 92) = true := by rw [bne_iff_ne]; intro h; exact q3 (UInt8.toNat_inj.1 h)
            rw [e1, e2]
            simp
            omega)
          clear q0 q1 q3
          go_wp2_with (at_builtin; refine wpList_app (v := (.slice A5 tx.length c5)) rfl _ _ stB rfl rfl (HO.out) rfl (by simp) rfl (by simp [Value.oneCell']) (by omega) (by omega) ?_; intro v' w2 hown' hg' hat')
          exact ⟨⟨i + 1, tx ++ [d], by go_num, by omega, by omega, by simp; omega, own_more hown' rfl rfl, below_app hbel HO.out hg' (Nat.le_refl _) hzz, HU.out.plain hi1 HD.out HP.out⟩, by simp [intOf]; omega⟩
        case pos =>
          have u3 : ((d.toNat : Int) != 92) = false := by rw [q3]; rfl
          have HD0 := Lib.hid (q3 ▸ HD.out)
          clear q0 q1 q3
          by_cases hE2 : i + 2 < s.size
          case neg =>
            have hE3 : (s.size : Int) ≤ (i : Int) + 2 := by omega
            have HR := Lib.hid (unqO_none (HU.out.short HD0.out (by rw [← Lib.size_eq]; omega)))
            go_wp2_with fail
            refine bodyPost_ret (by simp [results, Tryz.results233, go_sem]; rfl) rfl ?_
            unfold UqPost
            rw [HR.out]
            exact ⟨rfl, by (exact belQ)⟩
          case pos =>
            have hE3 : ¬ (s.size : Int) ≤ (i : Int) + 2 := by omega
            have hl2 : i + 1 < s.data.toList.length := by rw [← Lib.size_eq]; omega
            have hl3 : i + 2 < s.data.toList.length := by rw [← Lib.size_eq]; omega
            obtain ⟨a, ha⟩ : ∃ c, s.data.toList[i + 1]? = some c := ⟨_, List.getElem?_eq_getElem hl2⟩
            obtain ⟨b, hb⟩ : ∃ c, s.data.toList[i + 2]? = some c := ⟨_, List.getElem?_eq_getElem hl3⟩
            have hia := run_idx ha
            have hib := run_idx hb
            simp only [Int.natCast_add, Int.natCast_one, show ((2 : Nat) : Int) = 2 from rfl] at hia hib
            have HA := Lib.hid ha
            have HB := Lib.hid hb
            clear ha hb hl2 hl3
            have fa := hexI_facts a
            have fb := hexI_facts b
            obtain ⟨X, hX⟩ : ∃ X, hexI a = X := ⟨_, rfl⟩
            obtain ⟨Y, hY⟩ : ∃ Y, hexI b = Y := ⟨_, rfl⟩
            rw [hX] at fa
            rw [hY] at fb
            have HX := Lib.hid hX
            have HY := Lib.hid hY
            clear hX hY
            by_cases qa : X < 0
            · have HR := Lib.hid (unqO_none (HU.out.bad HD0.out HA.out HB.out (fun h => by have := HX.out; omega)))
              clear fa fb
              go_wp2_with (first
                | (go_at_call_of 263 (Value.int .u8 (a.toNat : Int)); refine (digit_c a _).mono ?_; rintro e w1 ⟨rfl, rfl⟩; rw [HX.out])
                | (go_at_call_of 263 (Value.int .u8 (b.toNat : Int)); refine (digit_c b _).mono ?_; rintro e w1 ⟨rfl, rfl⟩; rw [HY.out]))
              refine bodyPost_ret (by simp [results, Tryz.results233, go_sem]; rfl) rfl ?_
              unfold UqPost
              rw [HR.out]
              exact ⟨rfl, by (exact belQ)⟩
            by_cases qb : Y < 0
            · have HR := Lib.hid (unqO_none (HU.out.bad HD0.out HA.out HB.out (fun h => by have := HY.out; omega)))
              clear fa fb
              go_wp2_with (first
                | (go_at_call_of 263 (Value.int .u8 (a.toNat : Int)); refine (digit_c a _).mono ?_; rintro e w1 ⟨rfl, rfl⟩; rw [HX.out])
                | (go_at_call_of 263 (Value.int .u8 (b.toNat : Int)); refine (digit_c b _).mono ?_; rintro e w1 ⟨rfl, rfl⟩; rw [HY.out]))
              refine bodyPost_ret (by simp [results, Tryz.results233, go_sem]; rfl) rfl ?_
              unfold UqPost
              rw [HR.out]
              exact ⟨rfl, by (exact belQ)⟩
            have x0 : 0 ≤ X := by omega
            have x1 : X < 16 := by omega
            have y0 : 0 ≤ Y := by omega
            have y1 : Y < 16 := by omega
            obtain ⟨H, hH⟩ : ∃ H, hexB a b = H := ⟨_, rfl⟩
            have hHn : (H.toNat : Int) = X * 16 + Y := by
              rw [← hH, hexB_nat (by rw [HX.out]; exact x0) (by rw [HY.out]; exact y0), HX.out, HY.out]
            have v1 : IntKind.i64.wrap (X * 16) = X * 16 := IntWalk.i64_in _ (by omega)
            have v2 : IntKind.i64.wrap (X * 16 + Y) = (H.toNat : Int) := (IntWalk.i64_in _ (by omega)).trans hHn.symm
            have hHl := H.toNat_lt
            have v3 : IntKind.u8.wrap (H.toNat : Int) = (H.toNat : Int) := IntWalk.u8_in _ (by omega)
            have HH' := Lib.hid hH
            clear hH hHn fa fb
            go_wp2_with (first
                | (go_at_call_of 263 (Value.int .u8 (a.toNat : Int)); refine (digit_c a _).mono ?_; rintro e w1 ⟨rfl, rfl⟩; rw [HX.out])
                | (go_at_call_of 263 (Value.int .u8 (b.toNat : Int)); refine (digit_c b _).mono ?_; rintro e w1 ⟨rfl, rfl⟩; rw [HY.out]))
            have b1 : (0 : Int) ≤ (i : Int) + 1 := by omega
            have b2 : (i : Int) + 1 < (s.size : Int) := by omega
            have b3 : (0 : Int) ≤ (i : Int) + 2 := by omega
            have b4 : (i : Int) + 2 < (s.size : Int) := by omega
            have b5 : IntKind.i64.wrap ((i : Int) + 1) = (i : Int) + 1 := IntWalk.i64_in _ (by omega)
            have b6 : IntKind.i64.wrap ((i : Int) + 2) = (i : Int) + 2 := IntWalk.i64_in _ (by omega)
            go_cut [6] from 15 to 105 (fun v6 wx => v6 = .int .u8 (H.toNat : Int) ∧ Below wr.heap.size wr wx)
            case first =>
              go_region_with (first
                | (go_at_call_of 263 (Value.int .u8 (a.toNat : Int)); refine (digit_b a _).mono ?_; rintro e w1 ⟨rfl, hb1⟩; rw [HX.out])
                | (go_at_call_of 263 (Value.int .u8 (b.toNat : Int)); refine (digit_b b _).mono ?_; rintro e w2 ⟨rfl, hb2⟩; rw [HY.out]))
              all_goals go_wp2_with fail
              all_goals go_meet
              all_goals go_light
              all_goals refine ⟨rfl, ?_⟩
              all_goals (exact belQ)
            case rest =>
              obtain ⟨rfl, hcb⟩ := hcut
              have own2 := HO.out.below hcb
              cases hpl : plainB H
              · have HPL := Lib.hid hpl
                have hcs : H.toNat < 32 ∨ 126 < H.toNat ∨ H.toNat = 34 ∨ H.toNat = 92 := by
                  unfold plainB at hpl
                  simp at hpl
                  omega
                clear hpl
                rcases hcs with h | h | h | h
                · have p1 : ¬ (32 : Int) ≤ H.toNat := by omega
                  clear h
                  go_wp2_with (at_builtin; refine wpList_app (v := (.slice A5 tx.length c5)) rfl _ _ stB rfl rfl (own2) rfl (by simp) rfl (by simp [Value.oneCell']) (by omega) (by have := hcb.size; omega) ?_; intro v' w2 hown' hg' hat')
                  exact ⟨⟨i + 3, tx ++ [H], by go_num, by omega, by omega, by simp; omega, own_more hown' rfl rfl, below_app (below_step hcb hbel (Nat.le_refl _)) own2 hg' (Nat.le_refl _) (by have := hcb.size; omega), by have := HU.out.esc hi1 HD0.out HA.out HB.out ⟨by rw [HX.out]; exact x0, by rw [HY.out]; exact y0, by rw [HH'.out]; exact HPL.out⟩; rw [HH'.out] at this; exact this⟩, by simp [intOf]; omega⟩
                · have p1 : (32 : Int) ≤ H.toNat := by omega
                  have p2 : ¬ (H.toNat : Int) ≤ 126 := by omega
                  clear h
                  go_wp2_with (at_builtin; refine wpList_app (v := (.slice A5 tx.length c5)) rfl _ _ stB rfl rfl (own2) rfl (by simp) rfl (by simp [Value.oneCell']) (by omega) (by have := hcb.size; omega) ?_; intro v' w2 hown' hg' hat')
                  exact ⟨⟨i + 3, tx ++ [H], by go_num, by omega, by omega, by simp; omega, own_more hown' rfl rfl, below_app (below_step hcb hbel (Nat.le_refl _)) own2 hg' (Nat.le_refl _) (by have := hcb.size; omega), by have := HU.out.esc hi1 HD0.out HA.out HB.out ⟨by rw [HX.out]; exact x0, by rw [HY.out]; exact y0, by rw [HH'.out]; exact HPL.out⟩; rw [HH'.out] at this; exact this⟩, by simp [intOf]; omega⟩
                · have p1 : (32 : Int) ≤ H.toNat := by omega
                  have p2 : (H.toNat : Int) ≤ 126 := by omega
                  have p3 : ((H.toNat : Int) != 34) = false := by rw [h]; rfl
                  clear h
                  go_wp2_with (at_builtin; refine wpList_app (v := (.slice A5 tx.length c5)) rfl _ _ stB rfl rfl (own2) rfl (by simp) rfl (by simp [Value.oneCell']) (by omega) (by have := hcb.size; omega) ?_; intro v' w2 hown' hg' hat')
                  exact ⟨⟨i + 3, tx ++ [H], by go_num, by omega, by omega, by simp; omega, own_more hown' rfl rfl, below_app (below_step hcb hbel (Nat.le_refl _)) own2 hg' (Nat.le_refl _) (by have := hcb.size; omega), by have := HU.out.esc hi1 HD0.out HA.out HB.out ⟨by rw [HX.out]; exact x0, by rw [HY.out]; exact y0, by rw [HH'.out]; exact HPL.out⟩; rw [HH'.out] at this; exact this⟩, by simp [intOf]; omega⟩
                · have p1 : (32 : Int) ≤ H.toNat := by omega
                  have p2 : (H.toNat : Int) ≤ 126 := by omega
                  have p3 : ((H.toNat : Int) != 34) = true := by rw [h]; rfl
                  have p4 : ((H.toNat : Int) != 92) = false := by rw [h]; rfl
                  clear h
                  go_wp2_with (at_builtin; refine wpList_app (v := (.slice A5 tx.length c5)) rfl _ _ stB rfl rfl (own2) rfl (by simp) rfl (by simp [Value.oneCell']) (by omega) (by have := hcb.size; omega) ?_; intro v' w2 hown' hg' hat')
                  exact ⟨⟨i + 3, tx ++ [H], by go_num, by omega, by omega, by simp; omega, own_more hown' rfl rfl, below_app (below_step hcb hbel (Nat.le_refl _)) own2 hg' (Nat.le_refl _) (by have := hcb.size; omega), by have := HU.out.esc hi1 HD0.out HA.out HB.out ⟨by rw [HX.out]; exact x0, by rw [HY.out]; exact y0, by rw [HH'.out]; exact HPL.out⟩; rw [HH'.out] at this; exact this⟩, by simp [intOf]; omega⟩
              · have HPL := Lib.hid hpl
                have HR := Lib.hid (unqO_none (HU.out.bad HD0.out HA.out HB.out (fun h => by have h3 := h.2.2; rw [HH'.out, HPL.out] at h3; cases h3)))
                have p1 : (32 : Int) ≤ H.toNat := by simp [plainB] at hpl; omega
                have p2 : (H.toNat : Int) ≤ 126 := by simp [plainB] at hpl; omega
                have p3 : ((H.toNat : Int) != 34) = true := by simp [plainB] at hpl; rw [bne_iff_ne]; omega
                have p4 : ((H.toNat : Int) != 92) = true := by simp [plainB] at hpl; rw [bne_iff_ne]; omega
                clear hpl
                go_wp2_with fail
                refine bodyPost_ret (by simp [results, Tryz.results233, go_sem]; rfl) rfl ?_
                unfold UqPost
                rw [HR.out]
                exact ⟨rfl, below_step hcb hbel (Nat.le_refl _)⟩
def GE (w : World) : Prop := 5 < w.heap.size ∧ ∃ ev, w.cell? ⟨5, 0, none⟩ = some ev ∧ (ev = .nilIface ∨ ∃ te pe, ev = .iface te pe)
theorem GE.below {w w' : World} (h : GE w) (hb : Below w.heap.size w w') : GE w' := by
  obtain ⟨h1, ev, h2, h3⟩ := h
  exact ⟨Nat.lt_of_lt_of_le h1 hb.size, ev, (hb.cell (p := ⟨5, 0, none⟩) h1).trans h2, h3⟩
theorem trim_digs (l : List UInt8) : Lib.trimPrefix l [45] = digs l := by
  unfold Lib.trimPrefix Lib.hasPrefix digs
  cases l with
  | nil => simp
  | cons c r =>
    by_cases h : c = 45
    · subst h; simp
    · have : ¬ 45 = c := fun e => h e.symm
      simp [h, this]
theorem trim_c (s : ByteArray) (w : World) : Calls Tryz.prog 235 #[.string s, .string ⟨#[45]⟩] w fun e w' => e = .returned (.string ⟨(digs s.data.toList).toArray⟩) ∧ w = w' :=
  (Tryz.strings_TrimPrefix _ _ _).mono fun _ _ h => ⟨h.1.trans (ret_str (by rw [trim_digs])), h.2.symm⟩
theorem pre_34 (l : List UInt8) : Lib.hasPrefix l [34] = (l.head? == some 34) := by
  unfold Lib.hasPrefix
  cases l with
  | nil => simp
  | cons c r =>
    show ((34 : UInt8) == c && List.isPrefixOf [] r) = (some c == some 34)
    rw [Bool.eq_iff_iff]
    simp
    exact ⟨fun h => h.symm, fun h => h.symm⟩
theorem okInt (N : Int) (U : Nat) (h : N = U ∨ N = -(U : Int)) : (V.mk 1 N ⟨#[]⟩).ok = decide (¬ 4294967296 < U) := by
  have e : (V.mk 1 N ⟨#[]⟩).ok = (decide (-4294967296 ≤ N) && decide (N ≤ 4294967296)) := by
    have : (⟨#[]⟩ : ByteArray).size = 0 := rfl
    simp [V.ok, this]
  rw [e, Bool.eq_iff_iff]
  simp
  omega
theorem pre_c (s : ByteArray) (w : World) : Calls Tryz.prog 129 #[.string s, .string ⟨#[34]⟩] w fun e w' => e = .returned (.bool (s.data.toList.head? == some 34)) ∧ w = w' :=
  (Tryz.strings_HasPrefix _ _ _).mono fun _ _ h => ⟨h.1.trans (ret_bool (by rw [pre_34])), h.2.symm⟩
theorem below_conv {w w' : World} (h : w' = w ∨ ∃ t, w' = Lib.bytesWorld w 5 t) : Below w.heap.size w w' := by
  rcases h with rfl | ⟨t, rfl⟩
  · exact Below.refl _ _
  · exact below_bytes (Below.refl _ _) (Nat.le_refl _) _ _
theorem digs_size (s : ByteArray) : (⟨(digs s.data.toList).toArray⟩ : ByteArray).size ≤ s.size := by
  rw [Lib.size_eq, Lib.size_eq]
  simp only
  unfold digs
  split <;> simp
theorem minus_zero (l : List UInt8) (h : decB (digs l) = true) : (l == [45, 48]) = (negB l && decide (valF 0 (digs l) = 0)) := by
  rw [Bool.eq_iff_iff, beq_iff_eq, Bool.and_eq_true, decide_eq_true_eq, decB_zero h]
  constructor
  · rintro rfl; exact ⟨rfl, rfl⟩
  · rintro ⟨h1, h2⟩
    cases l with
    | nil => simp [negB] at h1
    | cons c r =>
      simp [negB] at h1
      subst h1
      simp [digs] at h2
      rw [h2]
theorem parseInt_c (s : ByteArray) (w : World) (hs : s.size ≤ 100000) (hE : GE w) : Calls Tryz.prog 183 #[.string s] w (VePost w (pInt s.data.toList)) := by
  have hD := fun w => decimal_c ⟨(digs s.data.toList).toArray⟩ w (by have := digs_size s; omega)
  have hT := trim_c s
  rw [show (⟨(digs s.data.toList).toArray⟩ : ByteArray).data.toList = digs s.data.toList from rfl] at hD
  generalize (⟨(digs s.data.toList).toArray⟩ : ByteArray) = ds at hD hT
  cases hd : decB (digs s.data.toList)
  · have HR := Lib.hid (show pInt s.data.toList = (V.null, 2) by unfold pInt; rw [if_pos (.inl hd)])
    have HD := Lib.hid hd
    clear hd
    go_enter Tryz.func183, Tryz.ntmps183
    go_wp2_with (first
      | (go_at_call 235; refine (hT _).mono ?_; rintro e w1 ⟨rfl, rfl⟩)
      | (go_at_call 236; refine (hD _).mono ?_; rintro e w2 ⟨rfl, hb2⟩; rw [HD.out]; obtain ⟨hc2, hf2⟩ := bcell hb2; have hz2 := (hb2).size; (try simp at hz2)))
    refine bodyPost_ret (by simp [results, Tryz.results183, go_sem, hc2]; rfl) rfl ?_
    unfold VePost
    rw [HR.out]
    exact ⟨rfl, by (exact belQ)⟩
  have HD := Lib.hid hd
  have hz := minus_zero s.data.toList hd
  cases hm : (negB s.data.toList && decide (valF 0 (digs s.data.toList) = 0))
  case true =>
    have hes' : (s.toList == [45, 48]) = true := by rw [Lib.toList_data]; exact hz.trans hm
    have HR := Lib.hid (show pInt s.data.toList = (V.null, 2) by unfold pInt; rw [if_pos (.inr (by simpa using hm))])
    clear hd hz hm
    go_enter Tryz.func183, Tryz.ntmps183
    go_wp2_with (first
      | (go_at_call 235; refine (hT _).mono ?_; rintro e w1 ⟨rfl, rfl⟩)
      | (go_at_call 236; refine (hD _).mono ?_; rintro e w2 ⟨rfl, hb2⟩; rw [HD.out]; obtain ⟨hc2, hf2⟩ := bcell hb2; have hz2 := (hb2).size; (try simp at hz2)))
    refine bodyPost_ret (by simp [results, Tryz.results183, go_sem, hc2]; rfl) rfl ?_
    unfold VePost
    rw [HR.out]
    exact ⟨rfl, by (exact belQ)⟩
  case false =>
    have hes' : (s.toList == [45, 48]) = false := by rw [Lib.toList_data]; exact hz.trans hm
    have HM := Lib.hid hm
    have hpi := parseIntB_dig hd
    have hpv : pInt s.data.toList = if 4294967296 < valF 0 (digs s.data.toList) then (V.null, 1) else (⟨1, if negB s.data.toList then -(valF 0 (digs s.data.toList) : Int) else valF 0 (digs s.data.toList), ⟨#[]⟩⟩, 0) := by
      unfold pInt
      rw [if_neg]
      rintro (h | ⟨h1, h2⟩)
      · rw [hd] at h; cases h
      · rw [h1, h2] at hm; simp at hm
    generalize hN : (if negB s.data.toList then -(valF 0 (digs s.data.toList) : Int) else (valF 0 (digs s.data.toList) : Int)) = N at hpi hpv
    generalize hU : valF 0 (digs s.data.toList) = U at hpi hpv hN
    have hNU : N = U ∨ N = -(U : Int) := by rw [← hN]; split <;> simp
    have HP := Lib.hid hpv
    clear hd hz hm hN hU hpv
    rcases hpi with hpi | ⟨hpi, hbig⟩
    · have HI := Lib.hid hpi
      clear hpi
      have hok := okInt N U hNU
      cases hbk : decide (¬ 4294967296 < U)
      · have HR := Lib.hid (show pInt s.data.toList = (V.null, 1) by rw [HP.out, if_pos (by simpa using hbk)])
        have HK := Lib.hid (hok.trans hbk)
        clear hok hbk
        go_enter Tryz.func183, Tryz.ntmps183
        go_wp2_with (first
          | (go_at_call 235; refine (hT _).mono ?_; rintro e w1 ⟨rfl, rfl⟩)
          | (go_at_call 236; refine (hD _).mono ?_; rintro e w2 ⟨rfl, hb2⟩; rw [HD.out]; obtain ⟨hc2, hf2⟩ := bcell hb2; have hz2 := (hb2).size; (try simp at hz2); have hl20 : w.heap.size < w2.heap.size := (by omega))
          | (go_at_call 237; refine (Tryz.strconv_ParseInt_10_at64_ok s (by omega) N HI.out _).mono ?_; rintro e w3 ⟨rfl, hb3'⟩; have hb3 := below_conv hb3'; clear hb3'; obtain ⟨hc3, hf3⟩ := bcell hb3; have hz3 := (hb3).size; (try simp at hz3); have hl30 : w.heap.size < w3.heap.size := (by omega))
          | (go_at_call 156; refine (vvalid ⟨1, N, ⟨#[]⟩⟩ _).mono ?_; rintro e w4 ⟨rfl, hb4⟩; rw [HK.out]; obtain ⟨hc4, hf4⟩ := bcell hb4; have hz4 := (hb4).size; (try simp at hz4); have hl40 : w.heap.size < w4.heap.size := (by omega)))
        have l4 : w.heap.size < w3.heap.size + 1 := by omega
        have l5 : w.heap.size < w.heap.size + 1 := by omega
        refine bodyPost_ret (by simp [results, Tryz.results183, go_sem, hc4, hc3, hc2, hl20, hl30, l4, l5]; rfl) rfl ?_
        unfold VePost
        rw [HR.out]
        exact ⟨rfl, by (exact belQ)⟩
      · have HR := Lib.hid (show pInt s.data.toList = (⟨1, N, ⟨#[]⟩⟩, 0) by rw [HP.out, if_neg (by simpa using hbk)])
        have HK := Lib.hid (hok.trans hbk)
        clear hok hbk
        go_enter Tryz.func183, Tryz.ntmps183
        go_wp2_with (first
          | (go_at_call 235; refine (hT _).mono ?_; rintro e w1 ⟨rfl, rfl⟩)
          | (go_at_call 236; refine (hD _).mono ?_; rintro e w2 ⟨rfl, hb2⟩; rw [HD.out]; obtain ⟨hc2, hf2⟩ := bcell hb2; have hz2 := (hb2).size; (try simp at hz2); have hl20 : w.heap.size < w2.heap.size := (by omega))
          | (go_at_call 237; refine (Tryz.strconv_ParseInt_10_at64_ok s (by omega) N HI.out _).mono ?_; rintro e w3 ⟨rfl, hb3'⟩; have hb3 := below_conv hb3'; clear hb3'; obtain ⟨hc3, hf3⟩ := bcell hb3; have hz3 := (hb3).size; (try simp at hz3); have hl30 : w.heap.size < w3.heap.size := (by omega))
          | (go_at_call 156; refine (vvalid ⟨1, N, ⟨#[]⟩⟩ _).mono ?_; rintro e w4 ⟨rfl, hb4⟩; rw [HK.out]; obtain ⟨hc4, hf4⟩ := bcell hb4; have hz4 := (hb4).size; (try simp at hz4); have hl40 : w.heap.size < w4.heap.size := (by omega)))
        have l4 : w.heap.size < w3.heap.size + 1 := by omega
        have l5 : w.heap.size < w.heap.size + 1 := by omega
        refine bodyPost_ret (by simp [results, Tryz.results183, go_sem, hc4, hc3, hc2, hl20, hl30, l4, l5]; rfl) rfl ?_
        unfold VePost
        rw [HR.out]
        exact ⟨rfl, by (exact belQ)⟩
    · have HI := Lib.hid hpi
      have HR := Lib.hid (show pInt s.data.toList = (V.null, 1) by rw [HP.out, if_pos hbig])
      clear hpi
      go_enter Tryz.func183, Tryz.ntmps183
      go_wp2_with (first
          | (go_at_call 235; refine (hT _).mono ?_; rintro e w1 ⟨rfl, rfl⟩)
          | (go_at_call 236; refine (hD _).mono ?_; rintro e w2 ⟨rfl, hb2⟩; rw [HD.out]; obtain ⟨hc2, hf2⟩ := bcell hb2; have hz2 := (hb2).size; (try simp at hz2); have hl20 : w.heap.size < w2.heap.size := (by omega)))
      obtain ⟨_, ev, hev1, hev2⟩ : GE w2 := hE.below (by (exact belQ))
      refine (Tryz.strconv_ParseInt_10_at64_range s (by omega) HI.out ev _ hev1 hev2).mono ?_
      rintro e w3 ⟨N3, rfl, hN3, hblk3, hb3⟩
      clear hev1 hev2 hblk3
      obtain ⟨hc3, hf3⟩ := bcell hb3; have hz3 := (hb3).size; (try simp at hz3); have hl30 : w.heap.size < w3.heap.size := (by omega)
      go_wp2_with fail
      have l4 : w.heap.size < w3.heap.size + 1 := by omega
      have l5 : w.heap.size < w.heap.size + 1 := by omega
      refine bodyPost_ret (by simp [results, Tryz.results183, go_sem, hc3, hc2, hl20, hl30, l5]; rfl) rfl ?_
      unfold VePost
      rw [HR.out]
      exact ⟨rfl, by (exact belQ)⟩
theorem idle_Parse (w : World) : CallsD Tryz.prog 181 #[] .returning w fun e u' w' => e = .returned (.tuple #[]) ∧ u' = .returning ∧ w' = w := by
  refine callsD_of_wpS Tryz.func181 rfl fun c₀ cs hu => ?_
  apply wpS_region
  cases c₀
  simp_all [wpOpsS, go_sem, recoverD, Tryz.ntmps181, bodyPostS, results, Tryz.results181]
theorem vparse (s : ByteArray) (w : World) (hs : s.size ≤ 100000) (hE : GE w) : Calls Tryz.prog 127 #[.string s] w (VePost w (parseO s.data.toList)) := by
  have hmf : ∀ (fn : Fn) (first cap : Array Value) (w : World), (Instr.makeFunc fn first cap).run Tryz.prog w = .ok (.func fn first cap) w := fun _ _ _ _ => rfl
  by_cases h0 : s.data.toList = nullL
  · have t0 : (s.toList == [110, 117, 108, 108]) = true := by rw [Lib.toList_data, h0]; rfl
    have HR := Lib.hid (show parseO s.data.toList = (V.null, 0) by unfold parseO; rw [if_pos h0])
    clear h0
    go_enter_defers Tryz.func127, Tryz.ntmps127
    go_wp2_with fail
    refine leave_idle idle_Parse (by simp [go_sem]) (by simp [results, Tryz.results127, go_sem]; rfl) ?_
    unfold VePost
    rw [HR.out]
    exact ⟨rfl, by (exact belQ)⟩
  have t0 : (s.toList == [110, 117, 108, 108]) = false := by rw [Lib.toList_data, beq_eq_false_iff_ne]; exact h0
  have hP := pre_c s
  by_cases h1 : s.data.toList.head? = some 34
  · have HR := Lib.hid (show parseO s.data.toList = pText s.data.toList by unfold parseO; rw [if_neg h0, if_pos h1])
    have hx := parseText_c s
    have HH := Lib.hid (show (s.data.toList.head? == some 34) = true by simpa using h1)
    rw [HR.out]
    generalize pText s.data.toList = x at hx ⊢
    clear h0 h1
    go_enter_defers Tryz.func127, Tryz.ntmps127
    go_wp2_with (first
      | (go_at_call 129; refine (hP _).mono ?_; rintro e w1 ⟨rfl, rfl⟩; rw [HH.out])
      | (go_at_call 182; refine (hx _ hs).mono ?_; rintro e w2 ⟨rfl, hb2⟩; obtain ⟨hc2, hf2⟩ := bcell hb2; have hz2 := (hb2).size; (try simp at hz2)))
    refine leave_idle idle_Parse (by simp [go_sem]) (by simp [results, Tryz.results127, go_sem, hc2]; rfl) ?_
    exact ⟨rfl, by (exact belQ)⟩
  · have HR := Lib.hid (show parseO s.data.toList = pInt s.data.toList by unfold parseO; rw [if_neg h0, if_neg h1])
    have hx := parseInt_c s
    have HH := Lib.hid (show (s.data.toList.head? == some 34) = false by simpa using h1)
    rw [HR.out]
    generalize pInt s.data.toList = x at hx ⊢
    clear h0 h1
    go_enter_defers Tryz.func127, Tryz.ntmps127
    go_wp2_with (first
      | (go_at_call 129; refine (hP _).mono ?_; rintro e w1 ⟨rfl, rfl⟩; rw [HH.out])
      | (go_at_call 183; refine (hx _ hs (by exact hE.below (by (exact belQ)))).mono ?_; rintro e w2 ⟨rfl, hb2⟩; obtain ⟨hc2, hf2⟩ := bcell hb2; have hz2 := (hb2).size; (try simp at hz2)))
    refine leave_idle idle_Parse (by simp [go_sem]) (by simp [results, Tryz.results127, go_sem, hc2]; rfl) ?_
    exact ⟨rfl, by (exact belQ)⟩
end Go.Proofs.YtpnfbehbheddeaaGreatDoor
