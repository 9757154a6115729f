/- Contract of table, with memory in parts. The numbers of the tokens are from 0 to 2^32. Written by wip/declgen.py. What a parser has read, as a model of its rows. No condition. The parser of declarations only goes forward: lists, tables, views and the rest. Plain Lean, no condition. Contract of declaration. The numbers of the tokens are from 0 to 2^32. Written by a small program. -/
import Derived.Test.YtpnfbehbheddeaaGreatDoorBn28
import Derived.Test.YtpnfbehbheddeaaGreatDoorBn22
import Derived.Test.YtpnfbehbheddeaaGreatDoorBn27
namespace Go.Proofs.YtpnfbehbheddeaaGreatDoor
set_option maxRecDepth 100000
set_option maxHeartbeats 8000000
set_option linter.unusedVariables false
set_option linter.unusedSimpArgs false
open Go.RowKit
section
variable {p : Pp} {w w' : World} {s s' : Ps} {ns : Nat → Nat} {cs : Nat → List Value} {pool : Pool} {l l' : List HA}
structure Tq where
  cv : Value
  ov : Value
  tq : List (List Tk × Value)
def Tq.parts (q : Tq) (t : Tab) : List HA := [rowA 82 7 q.cv t.cols.length (colsC t.cols), rowA 47 1 q.ov q.tq.length (q.tq.map Prod.snd), allA (q.tq.map tkRow)]
def TabPost (p : Pp) (ns : Nat → Nat) (cs : Nat → List Value) (pool : Pool) (l : List HA) (r : (Tab × List (List Tk)) × Ps) (e : Ending) (w : World) : Prop :=
  e = .returned (.tuple #[]) ∧ ∃ (q : Tq) (v1 v2 : Value), q.tq.map Prod.fst = r.1.2 ∧ HS w (dA ((p.withRow 0 v1).withRow 16 v2) r.2 (pushN (pushN ns 0) 16) (pushC (pushC cs 0 (tabC r.1.1.name q.cv r.1.1.erase r.1.1.retain).toList) 16 [q.ov]) pool :: (q.parts r.1.1 ++ l))
theorem table_s (hN : p.e.okN) (hn0 : ns 0 ≤ 100000) (hn16 : ns 16 ≤ 100000) (H : HS w (dA p s ns cs pool :: l)) :
    Calls Tryz.prog 134 #[.pointer (some ⟨p.pb, 0, none⟩)] w (TabPost p ns cs pool l (tableP p.e s)) := by
  obtain ⟨R, hR⟩ : ∃ R, tableP p.e s = R := ⟨_, rfl⟩
  rw [hR]
  have hfew := (H.few pkQ).1
  unfold tableP nameP at hR
  have h1 := fun w1 l1 l2 (H : HS w1 l1) (hp : Pick l1 (dA p s ns cs pool) l2) => name_s H hp
  generalize takeP p.e s 1 = q at h1 hR
  obtain ⟨t1, s1⟩ := q
  unfold PartPost at h1
  dsimp only at h1 hR
  have h2 := fun w1 l1 l2 (H : HS w1 l1) (hp : Pick l1 (dA p s1 ns cs pool) l2) => exp1_s H hp [40]
  generalize expectP p.e s1 [[40]] = q at h2 hR
  obtain ⟨wd2, s2⟩ := q
  unfold PartPost at h2
  dsimp only at h2 hR
  obtain ⟨L, hL⟩ : ∃ L, listP p.e (columnP p.e) s2 = L := ⟨_, rfl⟩
  rw [hL] at hR
  obtain ⟨acc, s3⟩ := L
  dsimp only at hR
  have h4 := fun w1 l1 l2 (H : HS w1 l1) (hp : Pick l1 (dA p s3 ns cs pool) l2) => exp1_s H hp [41]
  generalize expectP p.e s3 [[41]] = q at h4 hR
  obtain ⟨wd4, s4⟩ := q
  unfold PartPost at h4
  dsimp only at h4 hR
  have HR := Lib.hid hR
  clear hR
  go_enter Tryz.func134, Tryz.ntmps134
  go_upto_region 1 with fail
  obtain ⟨b1, w1, ez, ew, H1⟩ := H.alloc_ex (ptrC p.pb) 50
  unfold ptrC at ew
  rw [ew, ez]
  clear ez ew H
  obtain ⟨xB, xL, hcB⟩ := HS.get (z := b1) H1; obtain ⟨x0, xf0⟩ := hcB 0; clear hcB; unfold ptrC at x0
  go_upto_region 2 with (go_at_call 189; (with_reducible refine (h1 _ _ _ H1 pkQ).mono ?_); rintro e w2 ⟨rfl, H2⟩)
  clear xB x0 xf0 xL H1 h1
  obtain ⟨tb, w3, ez, ew, H3⟩ := H2.alloc_ex (tabC t1.text (.slice none 0 0) 0 0) 79
  unfold tabC at ew
  rw [ew, ez]
  clear ez ew H2
  go_upto_region 3 with fail
  obtain ⟨ob, w4, ez, ew, H4⟩ := H3.alloc_ex #[.slice none 0 0] 198
  rw [ew, ez]
  clear ez ew H3
  obtain ⟨xB, xL, hcB⟩ := HS.get (z := b1) H4; obtain ⟨x0, xf0⟩ := hcB 0; clear hcB; unfold ptrC at x0
  go_upto_region 4 with (go_at_call 88; (with_reducible refine (h2 _ _ _ H4 pkQ).mono ?_); rintro e w5 ⟨rfl, H5⟩)
  clear xB x0 xf0 xL H4 h2
  obtain ⟨xB, xL, hcB⟩ := HS.get (z := b1) H5; obtain ⟨x0, xf0⟩ := hcB 0; clear hcB; unfold ptrC at x0
  have I0 : TInv p ns cs pool b1 tb ob t1.text l w5 s2 [] := ⟨.slice none 0 0, .slice none 0 0, [], [], by
    have h := HS.mkAll (m := []) ((H5.rowNil 82 7).rowNil 47 1)
    simp only [colsC, List.length_nil, List.flatMap_nil, List.map_nil]
    exact h.sub pkQ, rfl, rfl⟩
  have hLi := list_s (p := p) 191 (fun _ _ => rfl) #[] #[.pointer (some ⟨b1, 0, none⟩), .pointer (some ⟨tb, 0, none⟩), .pointer (some ⟨ob, 0, none⟩)] (columnP p.e) (TInv p ns cs pool b1 tb ob t1.text l)
    (fun w s acc ⟨cv, ov, cols, tq, H, e1, e2⟩ => ⟨_, _, ns, cs, pool, H, .here, fun w' s' H' => ⟨cv, ov, cols, tq, H', e1, e2⟩⟩)
    (fun sa hsa => (fwd_column hsa).1) (acc0 := []) (fun wa sa acc hl HI => table1_c hN wa sa acc (by simp at hl; omega) HI) I0
  rw [hL, List.nil_append] at hLi
  dsimp only at hLi
  clear I0 hL
  go_upto_region 5 with (go_at_call 190; (with_reducible refine hLi.mono ?_); rintro e w6 ⟨rfl, cv, ov, cols, tq, H6, e1, e2⟩; have HC := Lib.hid e1; have HO := Lib.hid e2; clear e1 e2)
  clear hLi H5 xB x0 xf0 xL
  obtain ⟨Ac, cc, rfl⟩ := H6.slice (v := cv) pkQ
  obtain ⟨Ao, co, rfl⟩ := H6.slice (v := ov) pkQ
  obtain ⟨xB, xL, hcB⟩ := HS.get (z := b1) H6; obtain ⟨x0, xf0⟩ := hcB 0; clear hcB; unfold ptrC at x0
  go_upto_region 6 with (go_at_call 88; (with_reducible refine (h4 _ _ _ H6 pkQ).mono ?_); rintro e w7 ⟨rfl, H7⟩)
  clear H6 h4 xB x0 xf0 xL
  obtain ⟨b, s5, hq⟩ : ∃ b s', acceptP p.e s4 [[101, 114, 97, 115, 101]] = (b, s') := ⟨_, _, rfl⟩
  have hA := fun w1 l1 l2 (H : HS w1 l1) (hp : Pick l1 (dA p s4 ns cs pool) l2) => acc1_s H hp [101, 114, 97, 115, 101]
  unfold PartPost at hA
  rw [hq] at hA
  have HOp := Lib.hid (opt_acc (d := (0 : Int)) (f := fun s => (1, (expectP p.e s [[114, 111, 119]]).2)) hq)
  have hR := HR.out
  clear HR hq
  generalize optP p.e [101, 114, 97, 115, 101] (0 : Int) (fun s => (1, (expectP p.e s [[114, 111, 119]]).2)) s4 = q at hR HOp
  obtain ⟨er, s5'⟩ := q
  dsimp only at hR
  have HR := Lib.hid hR
  clear hR
  obtain ⟨xB, xL, hcB⟩ := HS.get (z := b1) H7; obtain ⟨x0, xf0⟩ := hcB 0; clear hcB; unfold ptrC at x0
  go_upto_if 18 with (go_at_call 142; (with_reducible refine (hA _ _ _ H7 pkQ).mono ?_); rintro e w8 ⟨rfl, H8⟩)
  clear H7 hA xB x0 xf0 xL
  go_cut [18, 19] from 20 to 22 (fun _ _ wx => HS wx (dA p s5' ns cs pool :: boxA tb (tabC t1.text (.slice Ac cols.length cc) er 0) 79 :: boxA b1 (ptrC p.pb) 50 :: boxA ob #[.slice Ao tq.length co] 198 :: rowA 82 7 (.slice Ac cols.length cc) cols.length (colsC cols) :: rowA 47 1 (.slice Ao tq.length co) tq.length (tq.map Prod.snd) :: allA (tq.map tkRow) :: l))
  case first =>
    cases b
    · have hh := HOp.out
      rw [if_neg (by simp)] at hh
      obtain ⟨rfl, rfl⟩ : er = 0 ∧ s5' = s5 := ⟨congrArg Prod.fst hh, congrArg Prod.snd hh⟩
      go_wp2_with fail
      go_meet
      exact H8.sub pkQ
    · have hh := HOp.out
      rw [if_pos rfl] at hh
      have hE := fun w1 l1 l2 (H : HS w1 l1) (hp : Pick l1 (dA p s5 ns cs pool) l2) => exp1_s H hp [114, 111, 119]
      generalize expectP p.e s5 [[114, 111, 119]] = q at hE hh
      obtain ⟨wd5, s6⟩ := q
      unfold PartPost at hE
      obtain ⟨rfl, rfl⟩ : er = 1 ∧ s5' = s6 := ⟨congrArg Prod.fst hh, congrArg Prod.snd hh⟩
      dsimp only at hE
      obtain ⟨xB, xL, hcB⟩ := HS.get (z := b1) H8; obtain ⟨x0, xf0⟩ := hcB 0; clear hcB; unfold ptrC at x0
      go_wp2_with (go_at_call 88; (with_reducible refine (hE _ _ _ H8 pkQ).mono ?_); rintro e w9 ⟨rfl, H9⟩; obtain ⟨yB, yL, hcB⟩ := HS.get (z := tb) H9; obtain ⟨y2, yf2⟩ := hcB 2; clear hcB; unfold tabC at y2)
      go_meet
      exact (H9.storeTo (z := tb) pkQ 2 _ (tabC t1.text (.slice Ac cols.length cc) 1 0) rfl).sub pkQ
  case rest =>
  have H9 := hcut
  clear hcut H8 HOp
  obtain ⟨b, s7, hq⟩ : ∃ b s', acceptP p.e s5' [[114, 101, 116, 97, 105, 110]] = (b, s') := ⟨_, _, rfl⟩
  have hA := fun w1 l1 l2 (H : HS w1 l1) (hp : Pick l1 (dA p s5' ns cs pool) l2) => acc1_s H hp [114, 101, 116, 97, 105, 110]
  unfold PartPost at hA
  rw [hq] at hA
  have HOp := Lib.hid (opt_acc (d := (0 : Int)) (f := numP p.e) hq)
  have hR := HR.out
  clear HR hq
  generalize optP p.e [114, 101, 116, 97, 105, 110] (0 : Int) (numP p.e) s5' = q at hR HOp
  obtain ⟨rt, s7'⟩ := q
  dsimp only at hR
  have HR := Lib.hid hR
  clear hR
  obtain ⟨xB, xL, hcB⟩ := HS.get (z := b1) H9; obtain ⟨x0, xf0⟩ := hcB 0; clear hcB; unfold ptrC at x0
  go_upto_if 25 with (go_at_call 142; (with_reducible refine (hA _ _ _ H9 pkQ).mono ?_); rintro e w10 ⟨rfl, H10⟩)
  clear H9 hA xB x0 xf0 xL
  go_cut [25, 26] from 27 to 28 (fun _ _ wx => HS wx (dA p s7' ns cs pool :: boxA tb (tabC t1.text (.slice Ac cols.length cc) er rt) 79 :: boxA b1 (ptrC p.pb) 50 :: boxA ob #[.slice Ao tq.length co] 198 :: rowA 82 7 (.slice Ac cols.length cc) cols.length (colsC cols) :: rowA 47 1 (.slice Ao tq.length co) tq.length (tq.map Prod.snd) :: allA (tq.map tkRow) :: l))
  case first =>
    cases b
    · have hh := HOp.out
      rw [if_neg (by simp)] at hh
      obtain ⟨rfl, rfl⟩ : rt = 0 ∧ s7' = s7 := ⟨congrArg Prod.fst hh, congrArg Prod.snd hh⟩
      go_wp2_with fail
      go_meet
      exact H10.sub pkQ
    · have hh := HOp.out
      rw [if_pos rfl] at hh
      unfold numP at hh
      have hE := fun w1 l1 l2 (H : HS w1 l1) (hp : Pick l1 (dA p s7 ns cs pool) l2) => number_s hN H hp
      generalize takeP p.e s7 2 = q at hE hh
      obtain ⟨t2, s8⟩ := q
      unfold PartPost at hE
      obtain ⟨e1, e2⟩ : rt = t2.int ∧ s7' = s8 := ⟨congrArg Prod.fst hh, congrArg Prod.snd hh⟩
      subst e1 e2
      dsimp only at hE
      obtain ⟨xB, xL, hcB⟩ := HS.get (z := b1) H10; obtain ⟨x0, xf0⟩ := hcB 0; clear hcB; unfold ptrC at x0
      go_wp2_with (go_at_call 193; (with_reducible refine (hE _ _ _ H10 pkQ).mono ?_); rintro e w11 ⟨rfl, H11⟩; obtain ⟨yB, yL, hcB⟩ := HS.get (z := tb) H11; obtain ⟨y3, yf3⟩ := hcB 3; clear hcB; unfold tabC at y3)
      go_meet
      exact (H11.storeTo (z := tb) pkQ 3 _ (tabC t1.text (.slice Ac cols.length cc) er t2.int) rfl).sub pkQ
  case rest =>
  have H11 := hcut
  clear hcut H10 HOp
  have hR := HR.out
  subst hR
  clear HR
  obtain ⟨Av0, cv0, hv, c7, f7, lp0, -⟩ := H11.rcell (i := 0) pkQ (by decide)
  have c70 : wc.cell? ⟨p.pb, 6, none⟩ = some (.slice Av0 (ns 0) cv0) := c7
  have HV0 := Lib.hid hv
  clear hv c7 f7
  have Hd0 := H11.drew.alloc (tabC t1.text (.slice Ac cols.length cc) er rt) 79
  have own0 : (wc.drew.alloc (.cells (tabC t1.text (.slice Ac cols.length cc) er rt) 79)).ownsRow (p.pb + 1) 79 4 (.slice Av0 (ns 0) cv0) (ns 0) (cs 0) := Hd0.rown pkQ (i := 0) (by decide) HV0.out
  unfold tabC at own0
  obtain ⟨yB, yL, hcB⟩ := HS.get (z := tb) H11; obtain ⟨y0, yf0⟩ := hcB 0; obtain ⟨y1, yf1⟩ := hcB 1; obtain ⟨y2, yf2⟩ := hcB 2; obtain ⟨y3, yf3⟩ := hcB 3; clear hcB; unfold tabC at y0 y1 y2 y3
  obtain ⟨xB, xL, hcB⟩ := HS.get (z := b1) H11; obtain ⟨x0, xf0⟩ := hcB 0; clear hcB; unfold ptrC at x0
  go_upto_region 11 with fail
  (refine wp_region_G 14 (fun w' => w'.cell? ⟨b1, 0, none⟩ = some (.pointer (some ⟨p.pb, 0, none⟩)) ∧ w'.cell? ⟨p.pb, 6, none⟩ = some (.slice Av0 (ns 0) cv0) ∧ w'.cell? ⟨tb, 0, none⟩ = some (.string ⟨t1.text.toArray⟩) ∧ w'.cell? ⟨tb, 1, none⟩ = some (.slice Ac cols.length cc) ∧ w'.cell? ⟨tb, 2, none⟩ = some (.int .i64 er) ∧ w'.cell? ⟨tb, 3, none⟩ = some (.int .i64 rt)) (by kernel_rfl) ?_ (fun hHeld => ?_); (focus (try dsimp only); go_keep))
  (refine GG.k 0 ?_; refine GG.k 1 ?_; refine GG.k 2 ?_; refine GG.k 3 ?_; refine GG.k 4 ?_; refine GG.k 5 ?_; refine GG.k 6 ?_; refine GG.k 7 ?_)
  (refine GG.o 8 (fun K hK => ?_); go_simp; refine hK.out _ _ ?_ (fun hHeld => ?_); (focus (try dsimp only); go_keep); clear hK K; (try simp only [Act.put, qqa, qqb, qqc]))
  (refine GG.o 9 (fun K hK => ?_); (refine step_app3 (v := .slice Av0 (ns 0) cv0) (by rfl) _ _ stTb (by rfl) (by rfl) own0 (by rfl) (news := [.string ⟨t1.text.toArray⟩, .slice Ac cols.length cc, .int .i64 er, .int .i64 rt]) (by rfl) (litRd (heap_alloc_new _ _)) (fun h => by cases h) (by intro u hu; simp at hu; (repeat' (rcases hu with rfl | hu)); all_goals (first | rfl | (subst hu; rfl))) (by omega) (by first | exact Nat.zero_le _ | omega | (simp; omega)) ?_; intro vA wA ownA gA atA; have HA := Hd0.appOthers pkQ (i := 0) (by decide) HV0.out gA; have hAf := Hd0.after pkQ (i := 0) (by decide) HV0.out gA; obtain ⟨a7, g7, la⟩ := hAf; have a7' : wA.cell? ⟨p.pb, 6, none⟩ = some (.slice Av0 (ns 0) cv0) := a7; have g7' : wA.frozen? ⟨p.pb, 6, none⟩ = false := g7; clear a7 g7; obtain ⟨mB, mL, hcB⟩ := HS.get (z := b1) HA; obtain ⟨m0, mf0⟩ := hcB 0; clear hcB; unfold ptrC at m0; obtain ⟨kB, kL, hcB⟩ := HS.get (z := tb) HA; obtain ⟨k0, kf0⟩ := hcB 0; obtain ⟨k1, kf1⟩ := hcB 1; obtain ⟨k2, kf2⟩ := hcB 2; obtain ⟨k3, kf3⟩ := hcB 3; clear hcB; unfold tabC at k0 k1 k2 k3; obtain ⟨AB0, cB0, rfl, -, -⟩ := own_slice ownA); refine hK.out _ _ ?_ (fun hHeld => ?_); (focus (try dsimp only); go_keep); clear hK K; (try simp only [Act.put, qqa, qqb, qqc]))
  (refine GG.k 10 ?_; refine GG.k 11 ?_; refine GG.k 12 ?_; refine GG.k 13 ?_)
  (refine GG.l (fun K hK => ?_); go_simp; refine hK.out _ _ ?_; clear hK K)
  have HP0 : HS (wA.setCell ⟨p.pb, 6, none⟩ (.slice AB0 (ns 0 + 1) cB0)) _ := Hd0.push (new := (tabC t1.text (.slice Ac cols.length cc) er rt).toList) pkQ (i := 0) (by decide) HV0.out ownA gA atA
  generalize World.setCell _ _ _ = w12 at HP0 ⊢
  clear HA own0 Hd0 ownA gA atA kB kL yB yL k0 kf0 y0 yf0 k1 kf1 y1 yf1 k2 kf2 y2 yf2 k3 kf3 y3 yf3 a7' g7' c70 HV0 la lp0 hHeld xB xL x0 xf0 mB mL m0 mf0 H11
  obtain ⟨Av1, cv1, hv, c7, lp1⟩ := HP0.rcell2 (j := 16) pkQ (by decide) (by decide)
  have c71 : w12.cell? ⟨p.pb, 22, none⟩ = some (.slice Av1 (ns 16) cv1) := c7
  have HV1 := Lib.hid hv
  clear hv c7
  have Hd1 := HP0.drew.alloc (#[.slice Ao tq.length co]) 198
  have own1 : (w12.drew.alloc (.cells (#[.slice Ao tq.length co]) 198)).ownsRow (p.pb + 1) 198 1 (.slice Av1 (ns 16) cv1) (ns 16) (cs 16) := Hd1.rown2 pkQ (j := 16) (by decide) (by decide) HV1.out
  obtain ⟨yB, yL, hcB⟩ := HS.get (z := ob) HP0; obtain ⟨y0, yf0⟩ := hcB 0; clear hcB
  obtain ⟨xB, xL, hcB⟩ := HS.get (z := b1) HP0; obtain ⟨x0, xf0⟩ := hcB 0; clear hcB; unfold ptrC at x0
  go_upto_region 12 with fail
  (refine wp_region_G 12 (fun w' => w'.cell? ⟨b1, 0, none⟩ = some (.pointer (some ⟨p.pb, 0, none⟩)) ∧ w'.cell? ⟨p.pb, 22, none⟩ = some (.slice Av1 (ns 16) cv1) ∧ w'.cell? ⟨ob, 0, none⟩ = some (.slice Ao tq.length co)) (by kernel_rfl) ?_ (fun hHeld => ?_); (focus (try dsimp only); go_keep))
  (refine GG.k 0 ?_; refine GG.k 1 ?_; refine GG.k 2 ?_; refine GG.k 3 ?_; refine GG.k 4 ?_; refine GG.k 5 ?_; refine GG.k 6 ?_)
  (refine GG.o 7 (fun K hK => ?_); go_simp; refine hK.out _ _ ?_ (fun hHeld => ?_); (focus (try dsimp only); go_keep); clear hK K; (try simp only [Act.put, qqa, qqb, qqc]))
  (refine GG.o 8 (fun K hK => ?_); (refine step_app3 (v := .slice Av1 (ns 16) cv1) (by rfl) _ _ stKKK (by rfl) (by rfl) own1 (by rfl) (news := [.slice Ao tq.length co]) (by rfl) (litRd (heap_alloc_new _ _)) (fun h => by cases h) (by intro u hu; simp at hu; (repeat' (rcases hu with rfl | hu)); all_goals (first | rfl | (subst hu; rfl))) (by omega) (by first | exact Nat.zero_le _ | omega | (simp; omega)) ?_; intro vA wA ownA gA atA; have HA := Hd1.appOthers pkQ (i := 16) (by decide) HV1.out gA; have hAf := Hd1.after2 pkQ (j := 16) (by decide) HV1.out gA; obtain ⟨a7, g7, la⟩ := hAf; have a7' : wA.cell? ⟨p.pb, 22, none⟩ = some (.slice Av1 (ns 16) cv1) := a7; have g7' : wA.frozen? ⟨p.pb, 22, none⟩ = false := g7; clear a7 g7; obtain ⟨mB, mL, hcB⟩ := HS.get (z := b1) HA; obtain ⟨m0, mf0⟩ := hcB 0; clear hcB; unfold ptrC at m0; obtain ⟨kB, kL, hcB⟩ := HS.get (z := ob) HA; obtain ⟨k0, kf0⟩ := hcB 0; clear hcB; obtain ⟨AB1, cB1, rfl, -, -⟩ := own_slice ownA); refine hK.out _ _ ?_ (fun hHeld => ?_); (focus (try dsimp only); go_keep); clear hK K; (try simp only [Act.put, qqa, qqb, qqc]))
  (refine GG.k 9 ?_; refine GG.k 10 ?_; refine GG.k 11 ?_)
  (refine GG.l (fun K hK => ?_); go_simp; refine hK.out _ _ ?_; clear hK K)
  have HP1 : HS (wA.setCell ⟨p.pb, 22, none⟩ (.slice AB1 (ns 16 + 1) cB1)) _ := Hd1.push2 (new2 := [.slice Ao tq.length co]) pkQ (j := 16) (by decide) (by decide) HV1.out ownA gA atA
  go_end0
  have hc := HC.out
  subst hc
  rw [List.length_map] at HP1
  refine ⟨rfl, ⟨.slice Ac acc.length cc, .slice Ao tq.length co, tq⟩, .slice AB0 (ns 0 + 1) cB0, .slice AB1 (ns 16 + 1) cB1, HO.out, ?_⟩
  unfold Tq.parts
  dsimp only [List.cons_append, List.nil_append]
  rw [List.length_map]
  exact HP1.sub pkQ
end
structure Dm where
  tabs : List (Tab × List (List Tk) × Tq)
  views : List (Viw × Vn × Vq)
  idxs : List (Idx × (Tk × Tk))
  skts : List (Skt × (Tk × Tk))
  cchs : List (Cch × (Tk × Tk))
  rlss : List Rls
  stms : List Stm
  bkps : List (Bkp × Value)
  starts : Nat → List Int
def Dm.nil : Dm := ⟨[], [], [], [], [], [], [], [], fun _ => []⟩
def Dm.dc (m : Dm) : Dc := ⟨⟨m.tabs.map fun x => x.1, m.views.map fun x => x.1, m.idxs.map fun x => x.1, m.skts.map fun x => x.1, m.cchs.map fun x => x.1, m.rlss, m.stms, m.bkps.map fun x => x.1⟩,
  [m.starts 0, m.starts 1, m.starts 2, m.starts 3, m.starts 4, m.starts 5, m.starts 6, m.starts 7], m.tabs.map fun x => x.2.1, m.views.map fun x => x.2.1, m.idxs.map fun x => x.2, m.skts.map fun x => x.2, m.cchs.map fun x => x.2⟩
def tabR (x : Tab × List (List Tk) × Tq) : List Value := (tabC x.1.name x.2.2.cv x.1.erase x.1.retain).toList
def viwR (x : Viw × Vn × Vq) : List Value := (vc0 x.1.name x.1.kind x.2.1.left.text x.2.1.right.text x.1.distinct x.2.2.itv x.2.2.agv).toList
def vnR (x : Viw × Vn × Vq) : List Value := (nc0 x.2.1.left x.2.1.right x.2.2.onv x.2.2.nv x.2.2.nav x.2.2.c0 x.2.2.c1).toList
def bkpR (x : Bkp × Value) : List Value := (bkpC x.1.name x.2 x.1.keep).toList
def intsC (l : List Int) : List Value := l.map fun z => .int .i64 z
def Dm.ns (m : Dm) : Nat → Nat
  | 0 => m.tabs.length
  | 1 => m.views.length
  | 2 => m.idxs.length
  | 3 => m.skts.length
  | 4 => m.cchs.length
  | 5 => m.rlss.length
  | 6 => m.stms.length
  | 7 => m.bkps.length
  | 16 => m.tabs.length
  | 17 => m.views.length
  | 18 => m.idxs.length
  | 19 => m.skts.length
  | 20 => m.cchs.length
  | i => (m.starts (i - 8)).length
def Dm.cs (m : Dm) : Nat → List Value
  | 0 => m.tabs.flatMap tabR
  | 1 => m.views.flatMap viwR
  | 2 => m.idxs.flatMap fun x => (idxC x.1).toList
  | 3 => m.skts.flatMap fun x => (sktC x.1).toList
  | 4 => m.cchs.flatMap fun x => (cchC x.1).toList
  | 5 => m.rlss.flatMap fun x => (rlsC x).toList
  | 6 => m.stms.flatMap fun x => (stmC x).toList
  | 7 => m.bkps.flatMap bkpR
  | 16 => m.tabs.map fun x => x.2.2.ov
  | 17 => m.views.flatMap vnR
  | 18 => m.idxs.flatMap fun x => (plC x.2).toList
  | 19 => m.skts.flatMap fun x => (plC x.2).toList
  | 20 => m.cchs.flatMap fun x => (plC x.2).toList
  | i => intsC (m.starts (i - 8))
def Dm.tparts (m : Dm) : List HA := m.tabs.flatMap fun x => x.2.2.parts x.1
def Dm.vparts (m : Dm) : List HA := m.views.flatMap fun x => x.2.2.parts x.1 x.2.1
def bkA (x : Bkp × Value) : HA := rowA 9 1 x.2 x.1.tables.length (x.1.tables.map strV)
def Dm.bparts (m : Dm) : List HA := m.bkps.map bkA
structure Dm.ok (m : Dm) (pool : Pool) : Prop where
  t : ∀ x ∈ m.tabs, x.2.2.tq.map Prod.fst = x.2.1
  v : ∀ x ∈ m.views, x.2.2.ok x.2.1 pool
def mA (p' : Pp) (s : Ps) (m : Dm) (pool : Pool) (l : List HA) : List HA := dA p' s m.ns m.cs pool :: allA m.tparts :: allA m.vparts :: allA m.bparts :: l
theorem all21 {P : Nat → Prop} (h : P 0 ∧ P 1 ∧ P 2 ∧ P 3 ∧ P 4 ∧ P 5 ∧ P 6 ∧ P 7 ∧ P 8 ∧ P 9 ∧ P 10 ∧ P 11 ∧ P 12 ∧ P 13 ∧ P 14 ∧ P 15 ∧ P 16 ∧ P 17 ∧ P 18 ∧ P 19 ∧ P 20) : ∀ i, i < 21 → P i := by
  obtain ⟨h0, h1, h2, h3, h4, h5, h6, h7, h8, h9, h10, h11, h12, h13, h14, h15, h16, h17, h18, h19, h20⟩ := h
  intro i hi
  match i, hi with
  | 0, _ => exact h0
  | 1, _ => exact h1
  | 2, _ => exact h2
  | 3, _ => exact h3
  | 4, _ => exact h4
  | 5, _ => exact h5
  | 6, _ => exact h6
  | 7, _ => exact h7
  | 8, _ => exact h8
  | 9, _ => exact h9
  | 10, _ => exact h10
  | 11, _ => exact h11
  | 12, _ => exact h12
  | 13, _ => exact h13
  | 14, _ => exact h14
  | 15, _ => exact h15
  | 16, _ => exact h16
  | 17, _ => exact h17
  | 18, _ => exact h18
  | 19, _ => exact h19
  | 20, _ => exact h20
  | n + 21, h => omega
section
variable {p : Pp} {w w' : World} {s s' : Ps} {ns ns' : Nat → Nat} {cs cs' : Nat → List Value} {pool : Pool} {l l' : List HA}
theorem HS.congr (H : HS w (dA p s ns cs pool :: l)) (h : ∀ i, i < 21 → ns i = ns' i ∧ cs i = cs' i) : HS w (dA p s ns' cs' pool :: l) := by
  obtain ⟨S, S1, S2, ⟨rv, h1, h2, h3⟩, h4⟩ := H
  exact ⟨S, S1, S2, ⟨rv, ⟨h1.at_, h1.sz, fun i hi => by rw [← (h i hi).1, ← (h i hi).2]; exact h1.rows i hi, h1.dist, h1.hlo, h1.hr⟩, h2, h3⟩, h4⟩
theorem allA_app {m n : List HA} (h : HS w (n ++ (allA m :: l))) : HS w (allA (m ++ n) :: l) := by
  refine HS.mkAll ?_
  obtain ⟨S, h⟩ := h
  obtain ⟨S1, S2, h1, ⟨T1, T2, g1, g2, g3, g4⟩, h3, h4⟩ := Sep.split h
  refine ⟨S, ?_⟩
  rw [List.append_assoc]
  refine Sep.append g1 (Sep.append h1 g2 (fun k a b => h3 k a ((g4 k).2 (.inr b))) fun _ => Iff.rfl) (fun k a b => ?_) fun k => ?_
  · rcases b with b | b
    · exact h3 k b ((g4 k).2 (.inl a))
    · exact g3 k a b
  · rw [h4, g4]
    constructor
    · rintro (a | a | a)
      · exact .inr (.inl a)
      · exact .inl a
      · exact .inr (.inr a)
    · rintro (a | a | a)
      · exact .inr (.inl a)
      · exact .inl a
      · exact .inr (.inr a)
end
def Dm.start (m : Dm) (k : Nat) (x : Int) : Dm := { m with starts := fun j => if j = k then m.starts k ++ [x] else m.starts j }
def Dm.addT (m : Dm) (x : Tab × List (List Tk) × Tq) : Dm := { m with tabs := m.tabs ++ [x] }
def Dm.addV (m : Dm) (x : Viw × Vn × Vq) : Dm := { m with views := m.views ++ [x] }
def Dm.addI (m : Dm) (x : Idx × (Tk × Tk)) : Dm := { m with idxs := m.idxs ++ [x] }
def Dm.addS (m : Dm) (x : Skt × (Tk × Tk)) : Dm := { m with skts := m.skts ++ [x] }
def Dm.addC (m : Dm) (x : Cch × (Tk × Tk)) : Dm := { m with cchs := m.cchs ++ [x] }
def Dm.addR (m : Dm) (x : Rls) : Dm := { m with rlss := m.rlss ++ [x] }
def Dm.addM (m : Dm) (x : Stm) : Dm := { m with stms := m.stms ++ [x] }
def Dm.addB (m : Dm) (x : Bkp × Value) : Dm := { m with bkps := m.bkps ++ [x] }
section
variable {m : Dm}
theorem Dm.start_rows {k : Nat} (hk : k < 8) (x : Int) : ∀ i, i < 21 → pushN m.ns (8 + k) i = (m.start k x).ns i ∧ pushC m.cs (8 + k) [.int .i64 x] i = (m.start k x).cs i := by
  match k, hk with
  | 0, _ => apply all21; simp [pushN, pushC, Dm.ns, Dm.cs, Dm.start, intsC]
  | 1, _ => apply all21; simp [pushN, pushC, Dm.ns, Dm.cs, Dm.start, intsC]
  | 2, _ => apply all21; simp [pushN, pushC, Dm.ns, Dm.cs, Dm.start, intsC]
  | 3, _ => apply all21; simp [pushN, pushC, Dm.ns, Dm.cs, Dm.start, intsC]
  | 4, _ => apply all21; simp [pushN, pushC, Dm.ns, Dm.cs, Dm.start, intsC]
  | 5, _ => apply all21; simp [pushN, pushC, Dm.ns, Dm.cs, Dm.start, intsC]
  | 6, _ => apply all21; simp [pushN, pushC, Dm.ns, Dm.cs, Dm.start, intsC]
  | 7, _ => apply all21; simp [pushN, pushC, Dm.ns, Dm.cs, Dm.start, intsC]
theorem Dm.addT_rows (x : Tab × List (List Tk) × Tq) : ∀ i, i < 21 → pushN (pushN m.ns 0) 16 i = (m.addT x).ns i ∧ pushC (pushC m.cs 0 (tabR x)) 16 [x.2.2.ov] i = (m.addT x).cs i := by
  apply all21; simp [pushN, pushC, Dm.ns, Dm.cs, Dm.addT]
theorem Dm.addV_rows (x : Viw × Vn × Vq) : ∀ i, i < 21 → pushN (pushN m.ns 1) 17 i = (m.addV x).ns i ∧ pushC (pushC m.cs 1 (viwR x)) 17 (vnR x) i = (m.addV x).cs i := by
  apply all21; simp [pushN, pushC, Dm.ns, Dm.cs, Dm.addV]
theorem Dm.addI_rows (x : Idx × (Tk × Tk)) : ∀ i, i < 21 → pushN (pushN m.ns 2) 18 i = (m.addI x).ns i ∧ pushC (pushC m.cs 2 (idxC x.1).toList) 18 (plC x.2).toList i = (m.addI x).cs i := by
  apply all21; simp [pushN, pushC, Dm.ns, Dm.cs, Dm.addI]
theorem Dm.addS_rows (x : Skt × (Tk × Tk)) : ∀ i, i < 21 → pushN (pushN m.ns 3) 19 i = (m.addS x).ns i ∧ pushC (pushC m.cs 3 (sktC x.1).toList) 19 (plC x.2).toList i = (m.addS x).cs i := by
  apply all21; simp [pushN, pushC, Dm.ns, Dm.cs, Dm.addS]
theorem Dm.addC_rows (x : Cch × (Tk × Tk)) : ∀ i, i < 21 → pushN (pushN m.ns 4) 20 i = (m.addC x).ns i ∧ pushC (pushC m.cs 4 (cchC x.1).toList) 20 (plC x.2).toList i = (m.addC x).cs i := by
  apply all21; simp [pushN, pushC, Dm.ns, Dm.cs, Dm.addC]
theorem Dm.addR_rows (x : Rls) : ∀ i, i < 21 → pushN m.ns 5 i = (m.addR x).ns i ∧ pushC m.cs 5 (rlsC x).toList i = (m.addR x).cs i := by
  apply all21; simp [pushN, pushC, Dm.ns, Dm.cs, Dm.addR]
theorem Dm.addM_rows (x : Stm) : ∀ i, i < 21 → pushN m.ns 6 i = (m.addM x).ns i ∧ pushC m.cs 6 (stmC x).toList i = (m.addM x).cs i := by
  apply all21; simp [pushN, pushC, Dm.ns, Dm.cs, Dm.addM]
theorem Dm.addB_rows (x : Bkp × Value) : ∀ i, i < 21 → pushN m.ns 7 i = (m.addB x).ns i ∧ pushC m.cs 7 (bkpR x) i = (m.addB x).cs i := by
  apply all21; simp [pushN, pushC, Dm.ns, Dm.cs, Dm.addB]
end
section
variable {e : Src} {s s1 s2 : Ps}
theorem fwd_more {α : Type} {el : Ps → α × Ps} (hel : ∀ s, Fwd e s (el s).2) : ∀ (f : Nat) (s : Ps), Fwd e s (moreP e el f s).2
  | 0, s => Fwd.refl
  | f + 1, s => by
    unfold moreP
    split
    · rename_i h
      exact (fwd_next h).trans ((hel _).trans (fwd_more hel f _))
    · exact Fwd.refl
theorem fwd_list {α : Type} {el : Ps → α × Ps} (hel : ∀ s, Fwd e s (el s).2) (s : Ps) : Fwd e s (listP e el s).2 := (hel s).trans (fwd_more hel _ _)
theorem fwd_table : Fwd e s (tableP e s).2 :=
  ((fwd_name.trans (fwd_expect _)).trans ((fwd_list (fun _ => fwd_column) _).trans (fwd_expect _))).trans ((fwd_opt (p := fun s => ((1 : Int), (expectP e s [[114, 111, 119]]).2)) _ _ fun _ => fwd_expect _).trans (fwd_opt _ _ fun _ => fwd_num))
theorem fwd_join : Fwd e s (joinP e s).2 := (fwd_take 1).trans (fwd_opt _ _ fun _ => fwd_list (fun _ => fwd_pair) _)
theorem fwd_inputs : Fwd e s (inputsP e s).2 := ((fwd_expect _).trans (fwd_take 1)).trans ((fwd_opt _ _ fun _ => fwd_join).trans (fwd_opt _ _ fun _ => fwd_whole))
theorem fwd_view : Fwd e s (viewP e s).2 := by
  unfold viewP
  dsimp only
  refine (fwd_name.trans (fwd_expect [wSelect, wGroup, wUnion])).trans ?_
  split
  · refine Fwd.trans ?_ ((fwd_list (fun _ => fwd_item) _).trans fwd_inputs)
    split
    · exact fwd_accept _
    · exact Fwd.refl
  · split
    · refine Fwd.trans ?_ ((fwd_expect _).trans ((fwd_list (fun _ => fwd_agg) _).trans fwd_inputs))
      split
      · exact fwd_list (fun _ => fwd_item) _
      · exact Fwd.refl
    · split
      · exact (fwd_take 1).trans (fwd_take 1)
      · exact Fwd.refl
theorem fwd_place : Fwd e s (placeP e s).2 := ((fwd_take 1).trans (fwd_expect _)).trans (fwd_take 1)
theorem fwd_index : Fwd e s (indexP e s).2 := (fwd_name.trans (fwd_expect _)).trans fwd_place
theorem fwd_sketch : Fwd e s (sketchP e s).2 := ((fwd_name.trans (fwd_expect _)).trans (fwd_num.trans fwd_num)).trans ((fwd_expect _).trans fwd_place)
theorem fwd_cache : Fwd e s (cacheP e s).2 := ((fwd_name.trans (fwd_expect _)).trans fwd_place).trans ((fwd_expect _).trans fwd_num)
theorem fwd_release : Fwd e s (releaseP e s).2 := ((fwd_name.trans (fwd_expect _)).trans fwd_name).trans ((fwd_expect _).trans fwd_num)
theorem fwd_stream : Fwd e s (streamP e s).2 := (fwd_name.trans (fwd_expect _)).trans fwd_name
theorem fwd_backup : Fwd e s (backupP e s).2 := ((fwd_name.trans (fwd_expect _)).trans (fwd_list (fun _ => fwd_name) _)).trans ((fwd_expect _).trans fwd_num)
end
theorem stInt : SliceTy Tryz.prog 22 3 1 8 := SliceTy.mk' Tryz.underlying22 (z := .int .i64 0) (by kernel_rfl) rfl (by decide) (by decide)
def DInv (p : Pp) (l : List HA) (w : World) (s : Ps) (d : Dc) : Prop :=
  ∃ (p' : Pp) (m : Dm) (pool : Pool), p'.pb = p.pb ∧ p'.e = p.e ∧ m.dc = d ∧ m.ok pool ∧ (∀ i, i < 21 → m.ns i ≤ s.pos) ∧ HS w (mA p' s m pool l)
theorem Dm.ok.more {m : Dm} {pool pool' : Pool} (h : m.ok pool) (hp : ∀ x ∈ pool, x ∈ pool') : m.ok pool' :=
  ⟨h.t, fun x hx => let o := h.v x hx; ⟨o.i, o.a, o.w, o.c, o.cp, fun y hy => (o.pi y hy).imp_right (hp _), fun y hy => (o.pa y hy).imp_right (hp _), o.pw.imp_right (hp _)⟩⟩
section
variable {p : Pp} {w w' : World} {s s' : Ps} {pool pool' : Pool} {l : List HA} {m : Dm}
theorem start_le {k : Nat} {x : Int} {j : Nat} (hk : k < 8) (h : ∀ i, i < 21 → m.ns i ≤ j) : ∀ i, i < 21 → (m.start k x).ns i ≤ j + 1 := fun i hi => by
  rw [← (Dm.start_rows (m := m) hk x i hi).1]
  unfold pushN
  split
  · rename_i e
    subst e
    have := h _ hi
    omega
  · have := h i hi
    omega
theorem le_of_rows {m m' : Dm} {j : Nat} (h : ∀ i, i < 21 → m.ns i ≤ j) (hm : ∀ i, i < 21 → m'.ns i ≤ m.ns i + 1) : ∀ i, i < 21 → m'.ns i ≤ j + 1 := fun i hi => by
  have := h i hi
  have := hm i hi
  omega
theorem both_table {x : Int} {y : Tab × List (List Tk) × Tq} {j : Nat} (h : ∀ i, i < 21 → m.ns i ≤ j) : ∀ i, i < 21 → ((m.start 0 x).addT y).ns i ≤ j + 1 :=
  le_of_rows h (by apply all21; simp [Dm.ns, Dm.start, Dm.addT])
theorem both_view {x : Int} {y : Viw × Vn × Vq} {j : Nat} (h : ∀ i, i < 21 → m.ns i ≤ j) : ∀ i, i < 21 → ((m.start 1 x).addV y).ns i ≤ j + 1 :=
  le_of_rows h (by apply all21; simp [Dm.ns, Dm.start, Dm.addV])
theorem both_index {x : Int} {y : Idx × (Tk × Tk)} {j : Nat} (h : ∀ i, i < 21 → m.ns i ≤ j) : ∀ i, i < 21 → ((m.start 2 x).addI y).ns i ≤ j + 1 :=
  le_of_rows h (by apply all21; simp [Dm.ns, Dm.start, Dm.addI])
theorem both_sketch {x : Int} {y : Skt × (Tk × Tk)} {j : Nat} (h : ∀ i, i < 21 → m.ns i ≤ j) : ∀ i, i < 21 → ((m.start 3 x).addS y).ns i ≤ j + 1 :=
  le_of_rows h (by apply all21; simp [Dm.ns, Dm.start, Dm.addS])
theorem both_cache {x : Int} {y : Cch × (Tk × Tk)} {j : Nat} (h : ∀ i, i < 21 → m.ns i ≤ j) : ∀ i, i < 21 → ((m.start 4 x).addC y).ns i ≤ j + 1 :=
  le_of_rows h (by apply all21; simp [Dm.ns, Dm.start, Dm.addC])
theorem both_release {x : Int} {y : Rls} {j : Nat} (h : ∀ i, i < 21 → m.ns i ≤ j) : ∀ i, i < 21 → ((m.start 5 x).addR y).ns i ≤ j + 1 :=
  le_of_rows h (by apply all21; simp [Dm.ns, Dm.start, Dm.addR])
theorem both_stream {x : Int} {y : Stm} {j : Nat} (h : ∀ i, i < 21 → m.ns i ≤ j) : ∀ i, i < 21 → ((m.start 6 x).addM y).ns i ≤ j + 1 :=
  le_of_rows h (by apply all21; simp [Dm.ns, Dm.start, Dm.addM])
theorem both_backup {x : Int} {y : Bkp × Value} {j : Nat} (h : ∀ i, i < 21 → m.ns i ≤ j) : ∀ i, i < 21 → ((m.start 7 x).addB y).ns i ≤ j + 1 :=
  le_of_rows h (by apply all21; simp [Dm.ns, Dm.start, Dm.addB])
end
end Go.Proofs.YtpnfbehbheddeaaGreatDoor
