/- Contract of resolveTable. At most 1000000 columns, owners and tables. What a source of at most 100000 tokens declares is small, and its expressions name references that they have. Plain Lean, no program in sight. The look-up of the names of all tables: the loop of resolve over them, in a catalogue without views and places. At most 1000000 tables. -/
import Derived.Test.YtpnfbehbheddeaaGreatDoorBn34
import Derived.Test.YtpnfbehbheddeaaGreatDoorBn29
import Derived.Test.YtpnfbehbheddeaaGreatDoorBn10
namespace Go.Proofs.YtpnfbehbheddeaaGreatDoor
set_option maxRecDepth 100000
set_option maxHeartbeats 8000000
set_option linter.unusedVariables false
set_option linter.unusedSimpArgs false
open Go.RowKit
theorem resolveTable_s {w : World} {l : List HA} {zs sn pb k nt no : Nat} {sv cv Tv Ov : Value} {xs ys txs oxs : List Value} {q : List (Value × List Bs)} {ds : Array Value} (x : Tab × List (List Tk) × Tq)
    (hwf : WfT x.1 x.2.1) (hok : x.2.2.tq.map Prod.fst = x.2.1) (h6 : ds[6]? = some Tv) (h22 : ds[22]? = some Ov) (htx : ∀ j u, (tabR x)[j]? = some u → txs[k * 4 + j]? = some u) (hox : oxs[k]? = some x.2.2.ov)
    (hkt : k < nt) (hko : k < no) (_hnt : nt ≤ 1000000) (_hno : no ≤ 1000000) (hcl : x.1.cols.length ≤ 1000000) (hol : ∀ o ∈ x.2.1, o.length ≤ 1000000) (hsn : sn ≤ 1000000)
    (H : HS w (boxA zs #[sv, cv] 143 :: rowA 9 1 sv sn xs :: rowA 25 1 cv sn ys :: namesA q :: boxA pb ds 69 :: rowA 79 4 Tv nt txs :: rowA 198 1 Ov no oxs :: (x.2.2.parts x.1 ++ l))) :
    Calls Tryz.prog 89 #[.pointer (some ⟨pb, 6, none⟩), .pointer (some ⟨zs, 0, none⟩), .int .i64 (k : Int)] w (RtbPost zs sn pb xs ys q ds Tv Ov nt no txs oxs x l (resTable x.1 x.2.1)) := by
  obtain ⟨R, hR⟩ : ∃ R, resTable x.1 x.2.1 = R := ⟨_, rfl⟩
  rw [hR]
  have HR := Lib.hid hR
  clear hR
  unfold Tq.parts at H
  simp only [List.cons_append, List.nil_append] at H
  rw [← coC_0] at H
  obtain ⟨At, ct, rfl⟩ := H.slice (v := Tv) pkQ
  obtain ⟨Ao, co, rfl⟩ := H.slice (v := Ov) pkQ
  obtain ⟨t, ow, ⟨cvv, ovv, tq⟩⟩ := x
  dsimp only at H hwf hok htx hox hcl hol HR ⊢
  obtain ⟨Ac, cc, rfl⟩ := H.slice (v := cvv) pkQ
  obtain ⟨Aw, cw, rfl⟩ := H.slice (v := ovv) pkQ
  have HTQ := Lib.hid (show tq.length = ow.length ∧ t.cols.length = ow.length from ⟨by rw [← hok, List.length_map], hwf.len⟩)
  have HOK := Lib.hid hok
  clear hok hwf
  have hT0 := htx 0 _ rfl
  have hT1 := htx 1 _ rfl
  have hne : txs ≠ [] := fun e => by rw [e] at hT0; cases hT0
  have hne2 : oxs ≠ [] := fun e => by rw [e] at hox; cases hox
  obtain ⟨gt, rfl, hgt, hct, -⟩ := H.rowAt (A := At) pkQ hne
  obtain ⟨go, rfl, hgo, hco, -⟩ := H.rowAt (A := Ao) pkQ hne2
  have hk0 : (0 : Int) ≤ (k : Int) := by omega
  have hk1 : (k : Int) < (nt : Int) := by omega
  have hk2 : (k : Int) < (no : Int) := by omega
  have t1 := hct _ _ hT1
  obtain ⟨dB, dL, hcB⟩ := HS.get (z := pb) H; obtain ⟨d6, df6⟩ := hcB 6; obtain ⟨d22, df22⟩ := hcB 22; clear hcB
  rw [h6] at d6
  rw [h22] at d22
  have Hw := H.rowNil 9 1
  clear H
  go_enter Tryz.func89, Tryz.ntmps89
  go_upto_region 4 with fail
  go_loopw [9, 32] (fun v9 v32 wr => ∃ i : Nat, v32 = .int .i64 (i : Int) ∧ i ≤ t.cols.length ∧ HS wr (rowA 9 1 v9 i (((t.cols.map Col.name).take i).map strV) :: boxA zs #[sv, cv] 143 :: rowA 9 1 sv sn xs :: rowA 25 1 cv sn ys :: namesA q :: boxA pb ds 69 :: rowA 79 4 (.slice (some ⟨gt, 0, none⟩) nt ct) nt txs :: rowA 198 1 (.slice (some ⟨go, 0, none⟩) no co) no oxs :: rowA 82 7 (.slice Ac t.cols.length cc) t.cols.length (coC (t.cols.map co0)) :: rowA 47 1 (.slice Aw tq.length cw) tq.length (tq.map Prod.snd) :: allA (tq.map tkRow) :: l)) (fun _ v32 _ => t.cols.length - (intOf v32).toNat)
  case atStart => exact ⟨0, rfl, by omega, Hw⟩
  case round =>
    obtain ⟨i, rfl, hi, Hr⟩ := hrel
    clear t1 d6 d22 df6 df22 dB dL Hw
    obtain ⟨A9, c9, rfl⟩ := Hr.slice (v := u9) pkQ
    by_cases hlt : i < t.cols.length
    · have h1 : (i : Int) < (t.cols.length : Int) := by omega
      have h0 : (0 : Int) ≤ (i : Int) := by omega
      obtain ⟨c, hc⟩ : ∃ c, t.cols[i]? = some c := ⟨_, List.getElem?_eq_getElem hlt⟩
      have hc0 : (t.cols.map co0)[i]? = some (co0 c) := by rw [List.getElem?_map, hc]; rfl
      have hS : (t.cols.map Col.name).take (i + 1) = (t.cols.map Col.name).take i ++ [c.name] := by rw [List.take_add_one, List.getElem?_map, hc]; rfl
      obtain ⟨gc, eA, hgc, hcc, -⟩ := Hr.rowAt (A := Ac) pkQ (fun e => by have := coC_at hc0 0 _ rfl; rw [e] at this; cases this)
      subst eA
      have q0 := hcc _ _ (coC_at hc0 0 _ rfl)
      have q1 := hcc _ _ (coC_at hc0 1 _ rfl)
      have q2 := hcc _ _ (coC_at hc0 2 _ rfl)
      have q3 := hcc _ _ (coC_at hc0 3 _ rfl)
      have q4 := hcc _ _ (coC_at hc0 4 _ rfl)
      have q5 := hcc _ _ (coC_at hc0 5 _ rfl)
      have q6 := hcc _ _ (coC_at hc0 6 _ rfl)
      rw [Nat.add_zero] at q0
      dsimp only [co0] at q0 q1 q2 q3 q4 q5 q6
      have HS2 := Lib.hid hS
      clear hS hcc hc hc0
      go_upto_region 6 with fail
      obtain ⟨z, w1, ez, ew, H1⟩ := Hr.alloc_ex (colC c (.slice none 0 0)) 82
      unfold colC at ew
      rw [ew, ez]
      clear ez ew q0 q1 q2 q3 q4 q5 q6
      obtain ⟨xB, xL, hcB⟩ := HS.get (z := z) H1; obtain ⟨x0, xf0⟩ := hcB 0; clear hcB; unfold colC at x0
      go_wp2_with (at_builtin; refine wpList_appAny (v := .slice A9 i c9) rfl _ _ stS (by rfl) (by rfl) ((H1.alloc #[.string ⟨c.name.toArray⟩] 9).row (v := .slice A9 i c9) pkQ) (by rfl) (news := [.string ⟨c.name.toArray⟩]) (by rfl) (litRd (heap_alloc_new _ _)) (fun h => by cases h) (by intro u hu; simp at hu; (repeat' (rcases hu with rfl | hu)); all_goals (first | rfl | (subst hu; rfl))) (by omega) (by first | exact Nat.zero_le _ | omega | (simp; omega)) ?_; intro vA wA ownA gA atA; have H2 := (H1.alloc #[.string ⟨c.name.toArray⟩] 9).app (v := .slice A9 i c9) pkQ ownA gA atA)
      go_roundw
      case rel =>
        refine ⟨i + 1, by go_num, by omega, ?_⟩
        rw [HS2.out, List.map_append, show [c.name].map strV = [.string ⟨c.name.toArray⟩] from rfl]
        exact H2.sub pkQ
      case measure => simp [intOf]; omega
    · obtain rfl : i = t.cols.length := by omega
      rw [List.take_of_length_le (by simp)] at Hr
      have h1 : ¬ (t.cols.length : Int) < (t.cols.length : Int) := by omega
      obtain ⟨names, hnm⟩ : ∃ names, names = t.cols.map Col.name := ⟨_, rfl⟩
      have hnl : names.length = t.cols.length := by rw [hnm, List.length_map]
      rw [← hnm] at Hr
      have HNM := Lib.hid hnm
      clear hnm
      obtain ⟨go2, eg, -, hco2, -⟩ := Hr.rowAt (A := some ⟨go, 0, none⟩) pkQ hne2
      injection eg with eg
      injection eg with eg _ _
      subst eg
      have o1 := hco2 _ _ hox
      obtain ⟨dB, dL, hcB⟩ := HS.get (z := pb) Hr; obtain ⟨d22, df22⟩ := hcB 22; clear hcB
      rw [h22] at d22
      have Hx : HS wr (rowA 82 7 (.slice Ac t.cols.length cc) t.cols.length (coC ([] ++ (t.cols.drop 0).map co0)) :: allA ([].map coA) :: rowA 9 1 (.slice A9 t.cols.length c9) t.cols.length (names.map strV) :: boxA zs #[sv, cv] 143 :: rowA 9 1 sv sn xs :: rowA 25 1 cv sn ys :: namesA q :: boxA pb ds 69 :: rowA 79 4 (.slice (some ⟨gt, 0, none⟩) nt ct) nt txs :: rowA 198 1 (.slice (some ⟨go, 0, none⟩) no co) no oxs :: rowA 47 1 (.slice Aw tq.length cw) tq.length (tq.map Prod.snd) :: allA (tq.map tkRow) :: l) := by
        rw [List.nil_append, List.drop_zero, List.map_nil]
        exact (HS.mkAll (m := []) Hr).sub pkQ
      clear Hr hco2 hco
      go_upto_region 9 with fail
      go_loopw [50] (fun v50 wr => ∃ (i : Nat) (X : List Co) (ms : List (List Int)), v50 = .int .i64 (i : Int) ∧ i ≤ tq.length ∧ ColsAt t.cols ow names i X ms ∧ HS wr (rowA 82 7 (.slice Ac t.cols.length cc) t.cols.length (coC (X ++ (t.cols.drop i).map co0)) :: allA (X.map coA) :: rowA 9 1 (.slice A9 t.cols.length c9) t.cols.length (names.map strV) :: boxA zs #[sv, cv] 143 :: rowA 9 1 sv sn xs :: rowA 25 1 cv sn ys :: namesA q :: boxA pb ds 69 :: rowA 79 4 (.slice (some ⟨gt, 0, none⟩) nt ct) nt txs :: rowA 198 1 (.slice (some ⟨go, 0, none⟩) no co) no oxs :: rowA 47 1 (.slice Aw tq.length cw) tq.length (tq.map Prod.snd) :: allA (tq.map tkRow) :: l)) (fun v50 _ => tq.length - (intOf v50).toNat)
      case atStart => exact ⟨0, [], [], rfl, by omega, ColsAt.nil, Hx⟩
      case round =>
        obtain ⟨i, X, ms, rfl, hi2, hX, Hr⟩ := hrel
        clear Hx o1 d22 df22 dB dL h1 hlt hi hgt hct
        by_cases hlt : i < tq.length
        · have h1 : (i : Int) < (tq.length : Int) := by omega
          have h0 : (0 : Int) ≤ (i : Int) := by omega
          have hic : i < t.cols.length := by have := HTQ.out; omega
          obtain ⟨⟨o, ov⟩, ho⟩ : ∃ o, tq[i]? = some o := ⟨_, List.getElem?_eq_getElem hlt⟩
          have ho2 : ow[i]? = some o := by rw [← HOK.out, List.getElem?_map, ho]; rfl
          have hov : (tq.map Prod.snd)[i]? = some ov := by rw [List.getElem?_map, ho]; rfl
          have hmem : tkRow (o, ov) ∈ tq.map tkRow := List.mem_map.2 ⟨_, List.mem_of_getElem? ho, rfl⟩
          have hol2 := hol o (List.mem_of_getElem? ho2)
          obtain ⟨c, hc⟩ : ∃ c, t.cols[i]? = some c := ⟨_, List.getElem?_eq_getElem hic⟩
          obtain ⟨gw, eA, hgw, hcw2, -⟩ := Hr.rowAt (A := Aw) pkQ (fun e => by rw [e] at hov; cases hov)
          subst eA
          have w1 := hcw2 _ _ hov
          obtain ⟨Aq, cq, rfl⟩ : ∃ A c, ov = .slice A o.length c := by
            obtain ⟨S, hS, -⟩ := Hr.mem (m := tq.map tkRow) pkQ hmem
            obtain ⟨A, c, e, -, -⟩ := own_slice hS
            exact ⟨A, c, e⟩
          have Hy := Hr.rowNil 3 1
          clear Hr hcw2 hov ho
          go_upto_region 13 with fail
          go_loopw [14, 57] (fun v14 v57 wr => ∃ (j : Nat) (m : List Int), v57 = .int .i64 (j : Int) ∧ j ≤ o.length ∧ m.length = j ∧ Hid (mapE (findCol names) (o.take j) = .ok m) ∧ HS wr (rowA 3 1 v14 j (intV m) :: rowA 82 7 (.slice Ac t.cols.length cc) t.cols.length (coC (X ++ (t.cols.drop i).map co0)) :: allA (X.map coA) :: rowA 9 1 (.slice A9 t.cols.length c9) t.cols.length (names.map strV) :: boxA zs #[sv, cv] 143 :: rowA 9 1 sv sn xs :: rowA 25 1 cv sn ys :: namesA q :: boxA pb ds 69 :: rowA 79 4 (.slice (some ⟨gt, 0, none⟩) nt ct) nt txs :: rowA 198 1 (.slice (some ⟨go, 0, none⟩) no co) no oxs :: rowA 47 1 (.slice (some ⟨gw, 0, none⟩) tq.length cw) tq.length (tq.map Prod.snd) :: allA (tq.map tkRow) :: l)) (fun _ v57 _ => o.length - (intOf v57).toNat)
          case atStart => exact ⟨0, [], rfl, by omega, rfl, rfl, Hy⟩
          case round =>
            obtain ⟨j, m, rfl, hj, hml, HM, Hr⟩ := hrel
            clear Hy w1
            obtain ⟨A14, c14, rfl⟩ := Hr.slice (v := u14) pkQ
            by_cases hjl : j < o.length
            · have h3 : (j : Int) < (o.length : Int) := by omega
              have h4 : (0 : Int) ≤ (j : Int) := by omega
              obtain ⟨tk, htk⟩ : ∃ tk, o[j]? = some tk := ⟨_, List.getElem?_eq_getElem hjl⟩
              obtain ⟨b, off, e1, hb, k0, k1, k2, k3⟩ : ∃ b off, Aq = some ⟨b, off, none⟩ ∧ b < wr.heap.size ∧ wr.cell? ⟨b, off + j * 4, none⟩ = some (.int .i64 tk.kind) ∧ wr.cell? ⟨b, off + j * 4 + 1, none⟩ = some (.string ⟨tk.text.toArray⟩) ∧ wr.cell? ⟨b, off + j * 4 + 2, none⟩ = some (.int .i64 tk.int) ∧ wr.cell? ⟨b, off + j * 4 + 3, none⟩ = some (.int .i64 tk.pos) := by
                obtain ⟨S, hS, -⟩ := Hr.mem (m := tq.map tkRow) pkQ hmem
                obtain ⟨b, off, t2, e1, hb, e2, r⟩ := RowK.at4 (RowOf.of_own hS rfl) hjl
                rw [htk] at e2
                injection e2 with e2
                subst e2
                exact ⟨b, off, e1, hb, r⟩
              subst e1
              go_upto_region 15 with fail
              obtain ⟨z, w3, ez, ew, H3⟩ := Hr.alloc_ex (tkC tk) 100
              unfold tkC at ew
              rw [ew, ez]
              clear ez ew k0 k1 k2 k3
              obtain ⟨xB, xL, hcB⟩ := HS.get (z := z) H3; obtain ⟨x0, xf0⟩ := hcB 0; obtain ⟨x1, xf1⟩ := hcB 1; obtain ⟨x2, xf2⟩ := hcB 2; obtain ⟨x3, xf3⟩ := hcB 3; clear hcB; unfold tkC at x0 x1 x2 x3
              have hF := findColumn_c (c := c9) tk (H3.rowB (ws := names) (A := A9) pkQ hnl) hcl
              unfold FcPost int3 at hF
              cases hq : findCol names tk with
              | error p =>
                have hp := fcR_error hq
                rw [hp.1, hp.2] at hF
                have hE := mapE_stop hX.e ho2 (mapE_stop HM.out htk hq)
                have hR := HR.out
                unfold resTable at hR
                rw [← HNM.out, hE] at hR
                dsimp only at hR
                subst hR
                have hp2 := Lib.hid hp.2
                clear HR hE hp hX HM hq
                dsimp only at hF
                go_wp2_with (go_at_call 143; (with_reducible refine hF.mono ?_); rintro e w4 ⟨rfl, hb4⟩; have H4 := H3.below hb4)
                go_ret2
                unfold RtbPost
                refine ⟨?_, H4.sub pkQ⟩
                show Ending.returned (.tuple #[.int .i64 p.1, .int .i64 3]) = Ending.returned (.tuple #[.int .i64 p.1, .int .i64 p.2])
                rw [hp2.out]
              | ok kk =>
                rw [fcR_ok hq] at hF
                have HM2 := Lib.hid (mapE_step HM.out htk hq)
                clear HM hq htk
                dsimp only at hF
                go_wp2_with (first
                  | (go_at_call 143; (with_reducible refine hF.mono ?_); rintro e w4 ⟨rfl, hb4⟩; have H4 := H3.below hb4)
                  | (at_builtin; refine wpList_appAny (v := .slice A14 j c14) rfl _ _ stI (by rfl) (by rfl) ((H4.alloc #[.int .i64 kk] 3).row (v := .slice A14 j c14) pkQ) (by rfl) (news := [.int .i64 kk]) (by rfl) (litRd (heap_alloc_new _ _)) (fun h => by cases h) (by intro u hu; simp at hu; (repeat' (rcases hu with rfl | hu)); all_goals (first | rfl | (subst hu; rfl))) (by omega) (by first | exact Nat.zero_le _ | omega | (simp; omega)) ?_; intro vA wA ownA gA atA; have H5 := (H4.alloc #[.int .i64 kk] 3).app (v := .slice A14 j c14) pkQ ownA gA atA))
                go_roundw
                case rel =>
                  refine ⟨j + 1, m ++ [kk], by go_num, by omega, by simp [hml], HM2.out, ?_⟩
                  rw [show intV (m ++ [kk]) = intV m ++ [.int .i64 kk] by simp [intV]]
                  exact H5.sub pkQ
                case measure => simp [intOf]; omega
            · obtain rfl : j = o.length := by omega
              have h3 : ¬ (o.length : Int) < (o.length : Int) := by omega
              have hM := HM.out
              rw [List.take_of_length_le (Nat.le_refl _)] at hM
              have hS := fun w1 l1 l2 (H : HS w1 l1) (hp : Pick l1 (rowA 3 1 (.slice A14 o.length c14) o.length (intV m)) l2) => sort_s A14 o.length c14 m (by omega) H hp
              have hsl : (m.mergeSort fun x y => decide (x ≤ y)).length = o.length := by rw [List.length_mergeSort, hml]
              have HC := Lib.hid (compact_cols m)
              generalize m.mergeSort (fun x y => decide (x ≤ y)) = ss at hS HC hsl
              have hC := fun w1 l1 l2 (H : HS w1 l1) (hp : Pick l1 (rowA 3 1 (.slice A14 o.length c14) o.length (intV ss)) l2) => compact_s A14 o.length c14 ss (by omega) H hp
              have hX2 := fun v => hX.snoc (v := v) hc ho2 hM
              have HX2 := Lib.hid hX2
              have HXL := Lib.hid hX.n
              generalize Lib.compact ss = rs at hC HC
              clear hX hM HM hX2 hsl hml
              obtain ⟨gc, eA, hgc, hcc, -⟩ := Hr.rowAt (A := Ac) pkQ (fun e => by
                have := congrArg List.length e
                rw [coC_len, List.length_append, List.length_map, List.length_drop, List.length_nil] at this
                omega)
              subst eA
              clear hcc
              have hlen : i * 7 + 4 < (coC (X ++ (t.cols.drop i).map co0)).length := by
                have := HXL.out
                rw [coC_len, List.length_append, List.length_map, List.length_drop]
                omega
              have hi7 : (i : Int) < (t.cols.length : Int) := by omega
              go_upto_region 21 with (go_at_call 62; (with_reducible refine (hS _ _ _ Hr pkQ).mono ?_); rintro e w3 ⟨rfl, H3⟩)
              obtain ⟨g2, e2, -, h2c, -⟩ := H3.rowAt (A := some ⟨gt, 0, none⟩) pkQ hne
              injection e2 with e2
              injection e2 with e2 _ _
              subst e2
              have s1 := h2c _ _ hT1
              clear h2c
              (refine wp_region_G 9 (fun w' => w'.cell? ⟨gt, k * 4 + 1, none⟩ = some (.slice (some ⟨gc, 0, none⟩) t.cols.length cc)) (by kernel_rfl) ?_ (fun hHeld => ?_); (focus (try dsimp only); go_keep))
              (refine GG.k 0 ?_; refine GG.k 1 ?_; refine GG.k 2 ?_; refine GG.k 3 ?_; refine GG.k 4 ?_; refine GG.k 5 ?_)
              (refine GG.o 6 (fun K hK => ?_); (go_simp; go_at_call 63; (with_reducible refine (hC _ _ _ H3.drew pkQ).mono ?_); rintro e w4 ⟨rfl, H4⟩; obtain ⟨g3, e3, -, h3c, -⟩ := H4.rowAt (A := some ⟨gt, 0, none⟩) pkQ hne; injection e3 with e3; injection e3 with e3 _ _; subst e3; have s2 := h3c _ _ hT1; obtain ⟨g4, e4, -, h4c, h4f⟩ := H4.rowAt (A := some ⟨gc, 0, none⟩) pkQ (fun e => by rw [e] at hlen; simp at hlen); injection e4 with e4; injection e4 with e4 _ _; subst e4; have s3 := h4c _ _ (List.getElem?_eq_getElem hlen); have s4 := h4f (i * 7 + 4)); refine hK.out _ _ ?_ (fun hHeld => ?_); (focus (try dsimp only); go_keep); clear hK K; (try simp only [Act.put, qqa, qqb, qqc]))
              (refine GG.k 7 ?_; refine GG.k 8 ?_)
              (refine GG.l (fun K hK => ?_); go_simp; refine hK.out _ _ ?_; clear hK K)
              go_wp2_with fail
              go_roundw
              case rel =>
                refine ⟨i + 1, X ++ [(owned c m, .slice A14 rs.length c14)], ms ++ [m], by go_num, by omega, HX2.out _, ?_⟩
                have H5 := H4.rowStore (g := gc) pkQ (i * 7 + 4) hlen (.slice A14 rs.length c14)
                have hdr : t.cols.drop i = c :: t.cols.drop (i + 1) := by
                  obtain ⟨h5, h6⟩ := List.getElem?_eq_some_iff.1 hc
                  rw [List.drop_eq_getElem_cons h5, h6]
                have hXn := (HX2.out (.slice none 0 0)).n
                rw [List.length_append, List.length_singleton] at hXn
                obtain rfl : X.length = i := by omega
                rw [hdr, List.map_cons, show co0 c = (c, .slice none 0 0) from rfl, coC_set _ _ _ m] at H5
                rw [List.append_assoc, List.singleton_append, List.map_append, List.map_singleton, show coA (owned c m, .slice A14 rs.length c14) = rowA 3 1 (.slice A14 rs.length c14) rs.length (intV rs) by unfold coA owned; rw [HC.out]]
                exact (HS.pushA (m := X.map coA) (A := rowA 3 1 (.slice A14 rs.length c14) rs.length (intV rs)) H5 pkQ pkQ).sub pkQ
              case measure => simp [intOf]; omega
        · obtain rfl : i = tq.length := by omega
          have h1 : ¬ (tq.length : Int) < (tq.length : Int) := by omega
          have hE := hX.e
          have hLL := HTQ.out
          rw [List.take_of_length_le (by omega)] at hE
          have hR := HR.out
          unfold resTable at hR
          rw [← HNM.out, hE] at hR
          dsimp only at hR
          subst hR
          have hXx := hX.x
          rw [List.take_of_length_le (by omega)] at hXx
          have HX := Lib.hid hXx
          have HD := Lib.hid (show t.cols.drop tq.length = [] from List.drop_of_length_le (by omega))
          clear hLL
          obtain ⟨g2, e2, -, h2c, -⟩ := Hr.rowAt (A := some ⟨gt, 0, none⟩) pkQ hne
          injection e2 with e2
          injection e2 with e2 _ _
          subst e2
          have s0 := h2c _ _ hT0
          rw [Nat.add_zero] at s0
          have hA := scopeAdd_s t.name A9 t.cols.length c9 hsn hsn (Hr.sub (l' := boxA zs #[sv, cv] 143 :: rowA 9 1 sv sn xs :: rowA 25 1 cv sn ys :: rowA 9 1 (.slice A9 t.cols.length c9) t.cols.length (names.map strV) :: namesA q :: boxA pb ds 69 :: rowA 79 4 (.slice (some ⟨gt, 0, none⟩) nt ct) nt txs :: rowA 198 1 (.slice (some ⟨go, 0, none⟩) no co) no oxs :: rowA 82 7 (.slice Ac t.cols.length cc) t.cols.length (coC (X ++ (t.cols.drop tq.length).map co0)) :: allA (X.map coA) :: l) pkQ)
          clear HR hE hXx hX h2c
          go_wp2_with (go_at_call 144; (with_reducible refine hA.mono ?_); rintro e w4 ⟨rfl, sv2, cv2, H4⟩)
          go_ret2
          refine ⟨rfl, X, sv2, cv2, .slice A9 t.cols.length c9, HX.out, ?_⟩
          rw [HD.out, List.map_nil, List.append_nil] at H4
          dsimp only
          rw [← HNM.out]
          exact (HS.namesPush (q := q) (v := .slice A9 t.cols.length c9) hnl H4 pkQ pkQ).sub pkQ
structure SmT (t : Tab) (o : List (List Tk)) : Prop where
  n : t.cols.length ≤ 1000000
  o : ∀ x ∈ o, x.length ≤ 1000000
theorem allA_split {w : World} {m n l : List HA} (h : HS w (allA (m ++ n) :: l)) : HS w (allA m :: allA n :: l) := by
  obtain ⟨S, S1, S2, h1, h2, h3, h4⟩ := h
  obtain ⟨T1, T2, g1, g2, g3, g4⟩ := Sep.split h1
  refine ⟨S, T1, fun k => T2 k ∨ S2 k, g1, ⟨T2, S2, g2, h2, fun k a => h3 k ((g4 k).2 (.inr a)), fun _ => Iff.rfl⟩, fun k a b => ?_, fun k => ?_⟩
  · rcases b with b | b
    · exact g3 k a b
    · exact h3 k ((g4 k).2 (.inl a)) b
  · rw [h4, g4, or_assoc]
theorem HS.pushAll {w : World} {l l1 l2 l3 m : List HA} {A B : HA} (H : HS w l) (h1 : Pick l A l1) (h2 : Pick l1 B l2) (h3 : Pick l2 (allA m) l3) : HS w (allA (m ++ [A, B]) :: l3) := by
  rw [show m ++ [A, B] = (m ++ [A]) ++ [B] by simp]
  exact HS.pushA (HS.pushA (A := A) (((H.pick h1).pick (.there h2)).pick (.there (.there h3))) (.there (.there .here)) .here) (.there .here) .here
theorem mapE_error {α β : Type} {f : α → Except Er β} : ∀ {l : List α} {p : Er}, mapE f l = .error p → ∃ a ∈ l, f a = .error p
  | a :: l, p, h => by
    rw [mapE] at h
    cases ha : f a with
    | error q =>
      rw [ha] at h
      injection h with h
      subst h
      exact ⟨a, List.mem_cons_self .., ha⟩
    | ok b =>
      rw [ha] at h
      cases hl : mapE f l with
      | error q =>
        rw [hl] at h
        injection h with h
        subst h
        obtain ⟨c, hc, e⟩ := mapE_error hl
        exact ⟨c, List.mem_cons_of_mem _ hc, e⟩
      | ok m => rw [hl] at h; cases h
theorem resTable_err {t : Tab} {o : List (List Tk)} {p : Er} (h : resTable t o = .error p) : p.2 = 3 := by
  unfold resTable at h
  split at h
  · rename_i q hq
    injection h with h
    subst h
    obtain ⟨a, -, ha⟩ := mapE_error hq
    obtain ⟨b, -, hb⟩ := mapE_error ha
    exact (fcR_error hb).2
  · cases h
abbrev Tt := Tab × List (List Tk) × Tq
structure Td where
  tab : Tab
  cv : Value
  n : Nat
  X : List Co
def Td.parts (d : Td) : List HA := [rowA 82 7 d.cv d.n (coC d.X), allA (d.X.map coA)]
def Td.ok (d : Td) : Prop := d.X.map Prod.fst = d.tab.cols
def tSc (x : Tt) : Bs × List Bs := (x.1.name, x.1.cols.map Col.name)
def scL (sc : Sq) : List (Bs × List Bs) := sc.map fun x => (x.1, x.2.2)
structure TabsAt (tabs : List Tt) (i : Nat) (sc : Sq) (D : List Td) : Prop where
  e : mapE (fun x : Tt => resTable x.1 x.2.1) (tabs.take i) = .ok (D.map Td.tab)
  s : scL sc = (tabs.take i).map tSc
  n : sc.length = i
  d : ∀ x ∈ D, x.ok
  c : D.map Td.cv = (tabs.take i).map fun x => x.2.2.cv
theorem TabsAt.nil {tabs : List Tt} : TabsAt tabs 0 [] [] := ⟨rfl, rfl, rfl, (fun x hx => by cases hx), rfl⟩
theorem TabsAt.snoc {tabs : List Tt} {i : Nat} {sc : Sq} {D : List Td} {x : Tt} {t : Tab} {X : List Co} {nv : Value} {n : Nat} (h : TabsAt tabs i sc D) (hx : tabs[i]? = some x) (ht : resTable x.1 x.2.1 = .ok t) (hX : X.map Prod.fst = t.cols) :
    TabsAt tabs (i + 1) (sc ++ [(x.1.name, nv, x.1.cols.map Col.name)]) (D ++ [⟨t, x.2.2.cv, n, X⟩]) := by
  refine ⟨?_, ?_, by simp [h.n], fun y hy => ?_, ?_⟩
  · rw [List.map_append]
    exact mapE_step h.e hx ht
  · have := h.s
    unfold scL at this ⊢
    rw [List.map_append, this, List.take_add_one, hx, List.map_append]
    rfl
  · rcases List.mem_append.1 hy with hy | hy
    · exact h.d y hy
    · rw [List.mem_singleton] at hy
      subst hy
      exact hX
  · rw [List.map_append, h.c, List.take_add_one, hx, List.map_append]
    rfl
def TsPost (pb : Nat) (ds : Array Value) (Tv Ov : Value) (tabs : List Tt) (l : List HA) : Except Er (List Tab) → Ending → World → Prop
  | .error p, e, w => e = .returned (.tuple #[.int .i64 p.1, .int .i64 p.2]) ∧ HS w l
  | .ok ts, e, w => e = .returned (.tuple #[.int .i64 0, .int .i64 0]) ∧ ∃ D : List Td, D.map Td.tab = ts ∧ (∀ x ∈ D, x.ok) ∧ D.map Td.cv = tabs.map (fun x => x.2.2.cv) ∧
    HS w (boxA pb ds 69 :: rowA 79 4 Tv tabs.length (tabs.flatMap tabR) :: rowA 198 1 Ov tabs.length (tabs.map fun x => x.2.2.ov) :: allA (D.flatMap Td.parts) :: l)
theorem tabR_at {tabs : List Tt} {i : Nat} {x : Tt} (h : tabs[i]? = some x) (j : Nat) (u : Value) (hu : (tabR x)[j]? = some u) : (tabs.flatMap tabR)[i * 4 + j]? = some u := flatMap_at 4 (fun _ => rfl) tabs i j x u h hu
theorem resolveT_s {w : World} {l : List HA} {pb k1 k2 k3 k4 : Nat} {A1 A2 A3 A4 : Option Addr} {Tv Ov : Value} {ds : Array Value} (tabs : List Tt)
    (hwf : ∀ x ∈ tabs, WfT x.1 x.2.1) (hsm : ∀ x ∈ tabs, SmT x.1 x.2.1) (hok : ∀ x ∈ tabs, x.2.2.tq.map Prod.fst = x.2.1) (hn : tabs.length ≤ 1000000) (h6 : ds[6]? = some Tv) (h22 : ds[22]? = some Ov)
    (h7 : ds[7]? = some (.slice A1 0 k1)) (h24 : ds[24]? = some (.slice A2 0 k2)) (h25 : ds[25]? = some (.slice A3 0 k3)) (h26 : ds[26]? = some (.slice A4 0 k4))
    (H : HS w (boxA pb ds 69 :: rowA 79 4 Tv tabs.length (tabs.flatMap tabR) :: rowA 198 1 Ov tabs.length (tabs.map fun x => x.2.2.ov) :: allA (tabs.flatMap fun x => x.2.2.parts x.1) :: l)) :
    Calls Tryz.prog 48 #[.pointer (some ⟨pb, 6, none⟩)] w (TsPost pb ds Tv Ov tabs l (mapE (fun x : Tt => resTable x.1 x.2.1) tabs)) := by
  obtain ⟨R, hR⟩ : ∃ R, mapE (fun x : Tt => resTable x.1 x.2.1) tabs = R := ⟨_, rfl⟩
  rw [hR]
  have HR := Lib.hid hR
  clear hR
  obtain ⟨At, ct, rfl⟩ := H.slice (v := Tv) pkQ
  have HWF := Lib.hid hwf
  have HSM := Lib.hid hsm
  have HOK := Lib.hid hok
  clear hwf hsm hok
  have H1 := H.alloc #[.slice none 0 0, .slice none 0 0] 143
  obtain ⟨dB, dL, hcB⟩ := HS.get (z := pb) H1; obtain ⟨d6, df6⟩ := hcB 6; clear hcB
  rw [h6] at d6
  have Hw := ((H1.rowNil 9 1).rowNil 25 1).namesNil
  clear H H1
  go_enter Tryz.func48, Tryz.ntmps48
  go_upto_region 3 with fail
  generalize hzs : w.heap.size = zs at Hw ⊢
  clear hzs
  go_loopw [32] (fun v32 wr => ∃ (i : Nat) (sc : Sq) (D : List Td) (sv cv : Value), v32 = .int .i64 (i : Int) ∧ i ≤ tabs.length ∧ TabsAt tabs i sc D ∧ HS wr (boxA zs #[sv, cv] 143 :: rowA 9 1 sv i (sc.map fun x => strV x.1) :: rowA 25 1 cv i (sc.map fun x => x.2.1) :: namesA (sc.map fun x => x.2) :: boxA pb ds 69 :: rowA 79 4 (.slice At tabs.length ct) tabs.length (tabs.flatMap tabR) :: rowA 198 1 Ov tabs.length (tabs.map fun x => x.2.2.ov) :: allA (D.flatMap Td.parts) :: allA ((tabs.drop i).flatMap fun x => x.2.2.parts x.1) :: l)) (fun v32 _ => tabs.length - (intOf v32).toNat)
  case atStart =>
    refine ⟨0, [], [], .slice none 0 0, .slice none 0 0, rfl, by omega, TabsAt.nil, ?_⟩
    simp only [List.map_nil, List.flatMap_nil, List.drop_zero]
    exact (HS.mkAll (m := []) Hw).sub pkQ
  case round =>
    obtain ⟨i, sc, D, sv, cv, rfl, hi, hT, Hr⟩ := hrel
    clear d6 df6 dB dL Hw
    by_cases hlt : i < tabs.length
    · have h1 : (i : Int) < (tabs.length : Int) := by omega
      have h0 : (0 : Int) ≤ (i : Int) := by omega
      obtain ⟨x, hx⟩ : ∃ x, tabs[i]? = some x := ⟨_, List.getElem?_eq_getElem hlt⟩
      have hm := List.mem_of_getElem? hx
      have hS := HSM.out x hm
      have hdr : tabs.drop i = x :: tabs.drop (i + 1) := by
        obtain ⟨h5, h6⟩ := List.getElem?_eq_some_iff.1 hx
        rw [List.drop_eq_getElem_cons h5, h6]
      rw [hdr, List.flatMap_cons] at Hr
      have hox : (tabs.map fun x => x.2.2.ov)[i]? = some x.2.2.ov := by rw [List.getElem?_map, hx]; rfl
      have H2 := (allA_split (Hr.sub (l' := allA (x.2.2.parts x.1 ++ (tabs.drop (i + 1)).flatMap fun x => x.2.2.parts x.1) :: boxA zs #[sv, cv] 143 :: rowA 9 1 sv i (sc.map fun x => strV x.1) :: rowA 25 1 cv i (sc.map fun x => x.2.1) :: namesA (sc.map fun x => x.2) :: boxA pb ds 69 :: rowA 79 4 (.slice At tabs.length ct) tabs.length (tabs.flatMap tabR) :: rowA 198 1 Ov tabs.length (tabs.map fun x => x.2.2.ov) :: allA (D.flatMap Td.parts) :: l) pkQ)).all_
      have H3 : HS wr (boxA zs #[sv, cv] 143 :: rowA 9 1 sv i (sc.map fun x => strV x.1) :: rowA 25 1 cv i (sc.map fun x => x.2.1) :: namesA (sc.map fun x => x.2) :: boxA pb ds 69 :: rowA 79 4 (.slice At tabs.length ct) tabs.length (tabs.flatMap tabR) :: rowA 198 1 Ov tabs.length (tabs.map fun x => x.2.2.ov) :: (x.2.2.parts x.1 ++ (allA (D.flatMap Td.parts) :: allA ((tabs.drop (i + 1)).flatMap fun x => x.2.2.parts x.1) :: l))) := by
        unfold Tq.parts at H2 ⊢
        simp only [List.cons_append, List.nil_append] at H2 ⊢
        exact H2.sub pkQ
      have hC := resolveTable_s (l := allA (D.flatMap Td.parts) :: allA ((tabs.drop (i + 1)).flatMap fun x => x.2.2.parts x.1) :: l) (k := i) (ds := ds) (sn := i) x (HWF.out x hm) (HOK.out x hm) h6 h22 (tabR_at hx) hox hlt hlt hn hn hS.n hS.o (by omega) H3
      clear H2 H3 Hr hdr hox hS
      cases hq : resTable x.1 x.2.1 with
      | error p =>
        rw [hq] at hC
        have hR := HR.out
        rw [mapE_stop hT.e hx hq] at hR
        subst hR
        unfold RtbPost at hC
        have hp0 := resTable_err hq
        clear HR hT hq
        obtain ⟨p1, p2⟩ := p
        dsimp only at hp0 hC ⊢
        subst hp0
        go_wp2_with (go_at_call 89; (with_reducible refine hC.mono ?_); rintro e w4 ⟨rfl, H4⟩)
        go_ret2
        exact ⟨rfl, H4.sub pkQ⟩
      | ok t =>
        rw [hq] at hC
        unfold RtbPost at hC
        have hT2 := fun (X : List Co) (nv : Value) (hX : X.map Prod.fst = t.cols) => hT.snoc (nv := nv) (n := x.1.cols.length) hx hq hX
        have HT := Lib.hid hT2
        clear hT hT2 hq
        go_wp2_with (go_at_call 89; (with_reducible refine hC.mono ?_); rintro e w4 ⟨rfl, X, sv2, cv2, nv, hX, H4⟩; have HX := Lib.hid hX; clear hX)
        go_roundw
        case rel =>
          refine ⟨i + 1, _, _, sv2, cv2, by go_num, by omega, HT.out X nv HX.out, ?_⟩
          rw [List.flatMap_append, List.map_append, List.map_append, List.map_append, show List.flatMap Td.parts [(⟨t, x.2.2.cv, x.1.cols.length, X⟩ : Td)] = [rowA 82 7 x.2.2.cv x.1.cols.length (coC X), allA (X.map coA)] from rfl]
          simp only [List.map_cons, List.map_nil]
          exact (HS.pushAll (m := D.flatMap Td.parts) (A := rowA 82 7 x.2.2.cv x.1.cols.length (coC X)) (B := allA (X.map coA)) H4 pkQ pkQ pkQ).sub pkQ
        case measure => simp [intOf]; omega
    · obtain rfl : i = tabs.length := by omega
      have h1 : ¬ (tabs.length : Int) < (tabs.length : Int) := by omega
      have hE := hT.e
      rw [List.take_of_length_le (Nat.le_refl _)] at hE
      have hR := HR.out
      rw [hE] at hR
      subst hR
      have hD := hT.d
      have hcv := hT.c
      rw [List.take_of_length_le (Nat.le_refl _)] at hcv
      have HD := Lib.hid hD
      have HC := Lib.hid hcv
      clear HR hE hT hD hcv
      obtain ⟨dB, dL, hcB⟩ := HS.get (z := pb) Hr; obtain ⟨d7, df7⟩ := hcB 7; obtain ⟨d24, df24⟩ := hcB 24; obtain ⟨d25, df25⟩ := hcB 25; obtain ⟨d26, df26⟩ := hcB 26; clear hcB
      rw [h7] at d7
      rw [h24] at d24
      rw [h25] at d25
      rw [h26] at d26
      go_upto_region 10 with fail
      go_loopw [52] (fun v52 wr2 => v52 = .int .i64 0 ∧ wr2 = wr) (fun _ _ => 0)
      case atStart => exact ⟨rfl, rfl⟩
      case round =>
        obtain ⟨rfl, rfl⟩ := hrel
        go_upto_region 17 with fail
        go_loopw [71] (fun v71 wr2 => v71 = .int .i64 0 ∧ wr2 = wr) (fun _ _ => 0)
        case atStart => exact ⟨rfl, rfl⟩
        case round =>
          obtain ⟨rfl, rfl⟩ := hrel
          go_upto_region 25 with fail
          go_loopw [101] (fun v101 wr2 => v101 = .int .i64 0 ∧ wr2 = wr) (fun _ _ => 0)
          case atStart => exact ⟨rfl, rfl⟩
          case round =>
            obtain ⟨rfl, rfl⟩ := hrel
            go_upto_region 33 with fail
            go_loopw [131] (fun v131 wr2 => v131 = .int .i64 0 ∧ wr2 = wr) (fun _ _ => 0)
            case atStart => exact ⟨rfl, rfl⟩
            case round =>
              obtain ⟨rfl, rfl⟩ := hrel
              go_wp2_with fail
              go_ret2
              refine ⟨rfl, D, rfl, HD.out, HC.out, ?_⟩
              exact Hr.sub pkQ
end Go.Proofs.YtpnfbehbheddeaaGreatDoor
