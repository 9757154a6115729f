/- Contracts of place and of the declarations but tables and views. The numbers of the tokens are from 0 to 2^32. Written by wip/declgen.py. -/
import Derived.Test.YtpnfbehbheddeaaGreatDoorBn26
namespace Go.Proofs.YtpnfbehbheddeaaGreatDoor
set_option maxRecDepth 100000
set_option maxHeartbeats 8000000
set_option linter.unusedVariables false
set_option linter.unusedSimpArgs false
open Go.RowKit
def plC (x : Tk × Tk) : Array Value := #[.int .i64 x.1.kind, .string ⟨x.1.text.toArray⟩, .int .i64 x.1.int, .int .i64 x.1.pos, .int .i64 x.2.kind, .string ⟨x.2.text.toArray⟩, .int .i64 x.2.int, .int .i64 x.2.pos]
def idxC (x : Idx) : Array Value := #[.string ⟨x.name.toArray⟩, .string ⟨x.source.toArray⟩, .int .i64 x.column]
def sktC (x : Skt) : Array Value := #[.string ⟨x.name.toArray⟩, .string ⟨x.source.toArray⟩, .int .i64 x.column, .int .i64 x.kind, .int .i64 x.width, .int .i64 x.depth]
def cchC (x : Cch) : Array Value := #[.string ⟨x.name.toArray⟩, .string ⟨x.source.toArray⟩, .int .i64 x.column, .int .i64 x.ttl]
def rlsC (x : Rls) : Array Value := #[.string ⟨x.name.toArray⟩, .string ⟨x.source.toArray⟩, .int .i64 x.threshold]
def bkpC (name : Bs) (v : Value) (keep : Int) : Array Value := #[.string ⟨name.toArray⟩, v, .int .i64 keep]
def indexP (e : Src) (s : Ps) : (Bs × (Tk × Tk)) × Ps :=
  let n := nameP e s
  let p := placeP e (expectP e n.2 [wOn]).2
  ((n.1, p.1), p.2)
def sketchP (e : Src) (s : Ps) : (Bs × Bs × Int × Int × (Tk × Tk)) × Ps :=
  let n := nameP e s
  let w := expectP e n.2 wSketches
  let a := numP e w.2
  let b := numP e a.2
  let p := placeP e (expectP e b.2 [wOn]).2
  ((n.1, w.1, a.1, b.1, p.1), p.2)
def cacheP (e : Src) (s : Ps) : (Bs × (Tk × Tk) × Int) × Ps :=
  let n := nameP e s
  let p := placeP e (expectP e n.2 [wOn]).2
  let a := numP e (expectP e p.2 [[102, 111, 114]]).2
  ((n.1, p.1, a.1), a.2)
def releaseP (e : Src) (s : Ps) : Rls × Ps :=
  let n := nameP e s
  let o := nameP e (expectP e n.2 [wOf]).2
  let a := numP e (expectP e o.2 [[97, 98, 111, 118, 101]]).2
  (⟨n.1, o.1, a.1⟩, a.2)
def streamP (e : Src) (s : Ps) : Stm × Ps :=
  let n := nameP e s
  let o := nameP e (expectP e n.2 [wOf]).2
  (⟨n.1, o.1⟩, o.2)
def backupP (e : Src) (s : Ps) : Bkp × Ps :=
  let n := nameP e s
  let l := listP e (nameP e) (expectP e n.2 [wOf]).2
  let a := numP e (expectP e l.2 [[107, 101, 101, 112]]).2
  (⟨n.1, l.1, a.1⟩, a.2)
theorem stIx : SliceTy Tryz.prog 54 151 3 40 := SliceTy.mk' Tryz.underlying54 (z := .agg #[.string ⟨#[]⟩, .string ⟨#[]⟩, .int .i64 0]) (by kernel_rfl) rfl (by decide) (by decide)
theorem stSk : SliceTy Tryz.prog 55 153 6 64 := SliceTy.mk' Tryz.underlying55 (z := .agg #[.string ⟨#[]⟩, .string ⟨#[]⟩, .int .i64 0, .int .i64 0, .int .i64 0, .int .i64 0]) (by kernel_rfl) rfl (by decide) (by decide)
theorem stCc : SliceTy Tryz.prog 56 155 4 48 := SliceTy.mk' Tryz.underlying56 (z := .agg #[.string ⟨#[]⟩, .string ⟨#[]⟩, .int .i64 0, .int .i64 0]) (by kernel_rfl) rfl (by decide) (by decide)
theorem stRl : SliceTy Tryz.prog 57 260 3 40 := SliceTy.mk' Tryz.underlying57 (z := .agg #[.string ⟨#[]⟩, .string ⟨#[]⟩, .int .i64 0]) (by kernel_rfl) rfl (by decide) (by decide)
theorem stBk : SliceTy Tryz.prog 59 264 3 48 := SliceTy.mk' Tryz.underlying59 (z := .agg #[.string ⟨#[]⟩, .slice none 0 0, .int .i64 0]) (by kernel_rfl) rfl (by decide) (by decide)
theorem stPl : SliceTy Tryz.prog 65 147 8 80 := SliceTy.mk' Tryz.underlying65 (z := .agg #[.int .i64 0, .string ⟨#[]⟩, .int .i64 0, .int .i64 0, .int .i64 0, .string ⟨#[]⟩, .int .i64 0, .int .i64 0]) (by kernel_rfl) rfl (by decide) (by decide)
section
variable {p : Pp} {w w' : World} {s s' : Ps} {ns : Nat → Nat} {cs : Nat → List Value} {pool : Pool} {l l' : List HA}
theorem place_s (H : HS w l) (hp : Pick l (dA p s ns cs pool) l') : Calls Tryz.prog 199 #[.pointer (some ⟨p.pb, 0, none⟩)] w (PartPost (.agg (plC (placeP p.e s).1)) (dA p (placeP p.e s).2 ns cs pool :: l')) := by
  obtain ⟨R, hR⟩ : ∃ R, placeP p.e s = R := ⟨_, rfl⟩
  rw [hR]
  have H := H.pick hp
  unfold placeP at hR
  have h1 := fun w1 l1 l2 (H : HS w1 l1) (hp : Pick l1 (dA p s ns cs pool) l2) => takeName_s H hp
  generalize takeP p.e s 1 = q at h1 hR
  obtain ⟨t1, s1⟩ := q
  unfold PartPost at h1
  dsimp only at h1 hR
  have h2 := fun w1 l1 l2 (H : HS w1 l1) (hp : Pick l1 (dA p s1 ns cs pool) l2) => exp1_s H hp [46]
  generalize expectP p.e s1 [[46]] = q at h2 hR
  obtain ⟨wd2, s2⟩ := q
  unfold PartPost at h2
  dsimp only at h2 hR
  have h3 := fun w1 l1 l2 (H : HS w1 l1) (hp : Pick l1 (dA p s2 ns cs pool) l2) => takeName_s H hp
  generalize takeP p.e s2 1 = q at h3 hR
  obtain ⟨t2, s3⟩ := q
  unfold PartPost at h3
  dsimp only at h3 hR
  subst hR
  clear hp
  go_enter Tryz.func199, Tryz.ntmps199
  go_upto_region 1 with fail
  obtain ⟨zr, w0, ez, ew, H0⟩ := H.alloc_ex (plC (Tk.zero, Tk.zero)) 147
  unfold plC Tk.zero at ew
  dsimp only at ew
  rw [ew, ez]
  clear ez ew H
  go_upto_region 2 with (go_at_call 198; (with_reducible refine (h1 _ _ _ H0 pkQ).mono ?_); rintro e w1 ⟨rfl, H1⟩)
  clear H0 h1
  obtain ⟨z, w2, ez, ew, H2⟩ := H1.alloc_ex (tkC t1) 100
  unfold tkC at ew
  rw [ew, ez]
  clear ez ew H1
  go_upto_region 3 with (go_at_call 88; (with_reducible refine (h2 _ _ _ H2 pkQ).mono ?_); rintro e w3 ⟨rfl, H3⟩)
  clear H2 h2
  have Hd := H3.drew
  have hne := H3.ne (z := z) (y := zr) pkQ pkQ
  obtain ⟨dB, dL, hcB⟩ := HS.get (z := z) H3; obtain ⟨d0, df0⟩ := hcB 0; obtain ⟨d1, df1⟩ := hcB 1; obtain ⟨d2, df2⟩ := hcB 2; obtain ⟨d3, df3⟩ := hcB 3; clear hcB; unfold tkC at d0 d1 d2 d3
  (refine wp_region_G 4 (fun w' => w'.cell? ⟨z, 0, none⟩ = some (.int .i64 t1.kind) ∧ w'.cell? ⟨z, 1, none⟩ = some (.string ⟨t1.text.toArray⟩) ∧ w'.cell? ⟨z, 2, none⟩ = some (.int .i64 t1.int) ∧ w'.cell? ⟨z, 3, none⟩ = some (.int .i64 t1.pos)) (by kernel_rfl) ?_ (fun hHeld => ?_); (focus (try dsimp only); go_keep))
  (refine GG.k 0 ?_; refine GG.k 1 ?_)
  (refine GG.o 2 (fun K hK => ?_); (go_simp; go_at_call 198; (with_reducible refine (h3 _ _ _ Hd pkQ).mono ?_); rintro e w5 ⟨rfl, H5⟩; obtain ⟨iB, iL, hcB⟩ := HS.get (z := z) H5; obtain ⟨i0, if0⟩ := hcB 0; obtain ⟨i1, if1⟩ := hcB 1; obtain ⟨i2, if2⟩ := hcB 2; obtain ⟨i3, if3⟩ := hcB 3; clear hcB; unfold tkC at i0 i1 i2 i3; obtain ⟨kB, kL, hcB⟩ := HS.get (z := zr) H5; obtain ⟨k0, kf0⟩ := hcB 0; obtain ⟨k1, kf1⟩ := hcB 1; obtain ⟨k2, kf2⟩ := hcB 2; obtain ⟨k3, kf3⟩ := hcB 3; obtain ⟨k4, kf4⟩ := hcB 4; obtain ⟨k5, kf5⟩ := hcB 5; obtain ⟨k6, kf6⟩ := hcB 6; obtain ⟨k7, kf7⟩ := hcB 7; clear hcB; unfold plC at k0 k1 k2 k3 k4 k5 k6 k7); refine hK.out _ _ ?_ (fun hHeld => ?_); (focus (try dsimp only); go_keep); clear hK K; (try simp only [Act.put, qqa, qqb, qqc]))
  (refine GG.k 3 ?_)
  (refine GG.l (fun K hK => ?_); go_simp; refine hK.out _ _ ?_; clear hK K)
  clear h3 H3 Hd dB dL d0 d1 d2 d3 df0 df1 df2 df3 hHeld
  have H6 := (((((((H5.store (z := zr) pkQ 0 (.int .i64 t1.kind)).store (z := zr) pkQ 1 (.string ⟨t1.text.toArray⟩)).store (z := zr) pkQ 2 (.int .i64 t1.int)).store (z := zr) pkQ 3 (.int .i64 t1.pos)).store (z := zr) pkQ 4 (.int .i64 t2.kind)).store (z := zr) pkQ 5 (.string ⟨t2.text.toArray⟩)).store (z := zr) pkQ 6 (.int .i64 t2.int)).storeTo (z := zr) pkQ 7 (.int .i64 t2.pos) (plC (t1, t2)) rfl
  generalize World.setCell _ _ _ = w6 at H6 ⊢
  clear H5 iB iL i0 i1 i2 i3 if0 if1 if2 if3 kB kL k0 k1 k2 k3 k4 k5 k6 k7 kf0 kf1 kf2 kf3 kf4 kf5 kf6 kf7
  obtain ⟨kB, kL, hcB⟩ := HS.get (z := zr) H6; obtain ⟨k0, kf0⟩ := hcB 0; obtain ⟨k1, kf1⟩ := hcB 1; obtain ⟨k2, kf2⟩ := hcB 2; obtain ⟨k3, kf3⟩ := hcB 3; obtain ⟨k4, kf4⟩ := hcB 4; obtain ⟨k5, kf5⟩ := hcB 5; obtain ⟨k6, kf6⟩ := hcB 6; obtain ⟨k7, kf7⟩ := hcB 7; clear hcB; unfold plC at k0 k1 k2 k3 k4 k5 k6 k7
  go_wp2_with fail
  refine bodyPost_ret (by simp [results, Tryz.results199, go_sem, k0, k1, k2, k3, k4, k5, k6, k7]; rfl) rfl ?_
  exact ⟨rfl, H6.sub pkQ⟩
theorem stream_s (_hN : p.e.okN) (hn6 : ns 6 ≤ 100000) (H : HS w (dA p s ns cs pool :: l)) :
    Calls Tryz.prog 140 #[.pointer (some ⟨p.pb, 0, none⟩)] w (fun e w' => e = .returned (.tuple #[]) ∧ ∃ v1, HS w' (dA (p.withRow 6 v1) (streamP p.e s).2 (pushN ns 6) (pushC cs 6 (stmC (streamP p.e s).1).toList) pool :: l)) := by
  obtain ⟨R, hR⟩ : ∃ R, streamP p.e s = R := ⟨_, rfl⟩
  rw [hR]
  unfold streamP nameP at hR
  try unfold numP at hR
  have h1 := fun w1 l1 l2 (H : HS w1 l1) (hp : Pick l1 (dA p s ns cs pool) l2) => name_s H hp
  generalize takeP p.e s 1 = q at h1 hR
  obtain ⟨t1, s1⟩ := q
  unfold PartPost at h1
  dsimp only at h1 hR
  rw [show ([wOf] : List Bs) = [[111, 102]] from rfl] at hR
  have h2 := fun w1 l1 l2 (H : HS w1 l1) (hp : Pick l1 (dA p s1 ns cs pool) l2) => exp1_s H hp [111, 102]
  generalize expectP p.e s1 [[111, 102]] = q at h2 hR
  obtain ⟨wd2, s2⟩ := q
  unfold PartPost at h2
  dsimp only at h2 hR
  have h3 := fun w1 l1 l2 (H : HS w1 l1) (hp : Pick l1 (dA p s2 ns cs pool) l2) => name_s H hp
  generalize takeP p.e s2 1 = q at h3 hR
  obtain ⟨t2, s3⟩ := q
  unfold PartPost at h3
  dsimp only at h3 hR
  subst hR
  go_enter Tryz.func140, Tryz.ntmps140
  go_upto_region 1 with (go_at_call 189; (with_reducible refine (h1 _ _ _ H pkQ).mono ?_); rintro e w1 ⟨rfl, H1⟩)
  clear H h1
  obtain ⟨z, w2, ez, ew, H2⟩ := H1.alloc_ex (stmC ⟨t1.text, []⟩) 262
  unfold stmC at ew
  try dsimp only at ew
  rw [ew, ez]
  clear ez ew H1
  go_upto_region 2 with (go_at_call 88; (with_reducible refine (h2 _ _ _ H2 pkQ).mono ?_); rintro e w3 ⟨rfl, H3⟩)
  clear H2 h2
  go_upto_region 3 with (go_at_call 189; (with_reducible refine (h3 _ _ _ H3 pkQ).mono ?_); rintro e w4 ⟨rfl, H4⟩; obtain ⟨dB, dL, hcB⟩ := HS.get (z := z) H4; obtain ⟨d1, df1⟩ := hcB 1; clear hcB; unfold stmC at d1)
  clear H3 h3
  have H5 := H4.storeTo (z := z) pkQ 1 (.string ⟨t2.text.toArray⟩) (stmC ⟨t1.text, t2.text⟩) rfl
  generalize World.setCell _ _ _ = w5 at H5 ⊢
  clear H4 dB dL d1 df1
  obtain ⟨Av0, cv0, hv, c7, f7, lp0, -⟩ := H5.rcell (i := 6) pkQ (by decide)
  have c70 : w5.cell? ⟨p.pb, 12, none⟩ = some (.slice Av0 (ns 6) cv0) := c7
  have HV0 := Lib.hid hv
  clear hv c7 f7
  have Hd0 := H5.drew.alloc (stmC ⟨t1.text, t2.text⟩) 262
  have own0 : (w5.drew.alloc (.cells (stmC ⟨t1.text, t2.text⟩) 262)).ownsRow (p.pb + 1) 262 2 (.slice Av0 (ns 6) cv0) (ns 6) (cs 6) := Hd0.rown pkQ (i := 6) (by decide) HV0.out
  unfold stmC at own0
  obtain ⟨yB, yL, hcB⟩ := HS.get (z := z) H5; obtain ⟨y0, yf0⟩ := hcB 0; obtain ⟨y1, yf1⟩ := hcB 1; clear hcB; unfold stmC at y0 y1
  go_upto_region 3 with fail
  (refine wp_region_G 14 (fun w' => w'.cell? ⟨p.pb, 12, none⟩ = some (.slice Av0 (ns 6) cv0) ∧ w'.cell? ⟨z, 0, none⟩ = some (.string ⟨t1.text.toArray⟩) ∧ w'.cell? ⟨z, 1, none⟩ = some (.string ⟨t2.text.toArray⟩)) (by kernel_rfl) ?_ (fun hHeld => ?_); (focus (try dsimp only); go_keep))
  (refine GG.k 0 ?_; refine GG.k 1 ?_; refine GG.k 2 ?_; refine GG.k 3 ?_; refine GG.k 4 ?_; refine GG.k 5 ?_; refine GG.k 6 ?_; refine GG.k 7 ?_)
  (refine GG.o 8 (fun K hK => ?_); go_simp; refine hK.out _ _ ?_ (fun hHeld => ?_); (focus (try dsimp only); go_keep); clear hK K; (try simp only [Act.put, qqa, qqb, qqc]))
  (refine GG.o 9 (fun K hK => ?_); (refine step_app3 (v := .slice Av0 (ns 6) cv0) (by rfl) _ _ stStm (by rfl) (by rfl) own0 (by rfl) (news := [.string ⟨t1.text.toArray⟩, .string ⟨t2.text.toArray⟩]) (by rfl) (litRd (heap_alloc_new _ _)) (fun h => by cases h) (by intro u hu; simp at hu; (repeat' (rcases hu with rfl | hu)); all_goals (first | rfl | (subst hu; rfl))) (by omega) (by first | exact Nat.zero_le _ | omega | (simp; omega)) ?_; intro vA wA ownA gA atA; have HA := Hd0.appOthers pkQ (i := 6) (by decide) HV0.out gA; have hAf := Hd0.after pkQ (i := 6) (by decide) HV0.out gA; obtain ⟨a7, g7, la⟩ := hAf; have a7' : wA.cell? ⟨p.pb, 12, none⟩ = some (.slice Av0 (ns 6) cv0) := a7; have g7' : wA.frozen? ⟨p.pb, 12, none⟩ = false := g7; clear a7 g7; obtain ⟨kB, kL, hcB⟩ := HS.get (z := z) HA; obtain ⟨k0, kf0⟩ := hcB 0; obtain ⟨k1, kf1⟩ := hcB 1; clear hcB; unfold stmC at k0 k1; obtain ⟨AB0, cB0, rfl, -, -⟩ := own_slice ownA); refine hK.out _ _ ?_ (fun hHeld => ?_); (focus (try dsimp only); go_keep); clear hK K; (try simp only [Act.put, qqa, qqb, qqc]))
  (refine GG.k 10 ?_; refine GG.k 11 ?_; refine GG.k 12 ?_; refine GG.k 13 ?_)
  (refine GG.l (fun K hK => ?_); go_simp; refine hK.out _ _ ?_; clear hK K)
  have HP0 : HS (wA.setCell ⟨p.pb, 12, none⟩ (.slice AB0 (ns 6 + 1) cB0)) _ := Hd0.push (new := (stmC ⟨t1.text, t2.text⟩).toList) pkQ (i := 6) (by decide) HV0.out ownA gA atA
  go_end0
  exact ⟨rfl, _, HP0.sub pkQ⟩
theorem release_s (hN : p.e.okN) (hn5 : ns 5 ≤ 100000) (H : HS w (dA p s ns cs pool :: l)) :
    Calls Tryz.prog 139 #[.pointer (some ⟨p.pb, 0, none⟩)] w (fun e w' => e = .returned (.tuple #[]) ∧ ∃ v1, HS w' (dA (p.withRow 5 v1) (releaseP p.e s).2 (pushN ns 5) (pushC cs 5 (rlsC (releaseP p.e s).1).toList) pool :: l)) := by
  obtain ⟨R, hR⟩ : ∃ R, releaseP p.e s = R := ⟨_, rfl⟩
  rw [hR]
  unfold releaseP nameP at hR
  try unfold numP at hR
  have h1 := fun w1 l1 l2 (H : HS w1 l1) (hp : Pick l1 (dA p s ns cs pool) l2) => name_s H hp
  generalize takeP p.e s 1 = q at h1 hR
  obtain ⟨t1, s1⟩ := q
  unfold PartPost at h1
  dsimp only at h1 hR
  rw [show ([wOf] : List Bs) = [[111, 102]] from rfl] at hR
  have h2 := fun w1 l1 l2 (H : HS w1 l1) (hp : Pick l1 (dA p s1 ns cs pool) l2) => exp1_s H hp [111, 102]
  generalize expectP p.e s1 [[111, 102]] = q at h2 hR
  obtain ⟨wd2, s2⟩ := q
  unfold PartPost at h2
  dsimp only at h2 hR
  have h3 := fun w1 l1 l2 (H : HS w1 l1) (hp : Pick l1 (dA p s2 ns cs pool) l2) => name_s H hp
  generalize takeP p.e s2 1 = q at h3 hR
  obtain ⟨t2, s3⟩ := q
  unfold PartPost at h3
  dsimp only at h3 hR
  have h4 := fun w1 l1 l2 (H : HS w1 l1) (hp : Pick l1 (dA p s3 ns cs pool) l2) => exp1_s H hp [97, 98, 111, 118, 101]
  generalize expectP p.e s3 [[97, 98, 111, 118, 101]] = q at h4 hR
  obtain ⟨wd4, s4⟩ := q
  unfold PartPost at h4
  dsimp only at h4 hR
  have h5 := fun w1 l1 l2 (H : HS w1 l1) (hp : Pick l1 (dA p s4 ns cs pool) l2) => number_s hN H hp
  generalize takeP p.e s4 2 = q at h5 hR
  obtain ⟨t3, s5⟩ := q
  unfold PartPost at h5
  dsimp only at h5 hR
  subst hR
  go_enter Tryz.func139, Tryz.ntmps139
  go_upto_region 1 with (go_at_call 189; (with_reducible refine (h1 _ _ _ H pkQ).mono ?_); rintro e w1 ⟨rfl, H1⟩)
  clear H h1
  obtain ⟨z, w2, ez, ew, H2⟩ := H1.alloc_ex (rlsC ⟨t1.text, [], 0⟩) 260
  unfold rlsC at ew
  try dsimp only at ew
  rw [ew, ez]
  clear ez ew H1
  go_upto_region 2 with (go_at_call 88; (with_reducible refine (h2 _ _ _ H2 pkQ).mono ?_); rintro e w3 ⟨rfl, H3⟩)
  clear H2 h2
  go_upto_region 3 with (go_at_call 189; (with_reducible refine (h3 _ _ _ H3 pkQ).mono ?_); rintro e w4 ⟨rfl, H4⟩; obtain ⟨dB, dL, hcB⟩ := HS.get (z := z) H4; obtain ⟨d1, df1⟩ := hcB 1; clear hcB; unfold rlsC at d1)
  clear H3 h3
  have H5 := H4.storeTo (z := z) pkQ 1 (.string ⟨t2.text.toArray⟩) (rlsC ⟨t1.text, t2.text, 0⟩) rfl
  generalize World.setCell _ _ _ = w5 at H5 ⊢
  clear H4 dB dL d1 df1
  go_upto_region 4 with (go_at_call 88; (with_reducible refine (h4 _ _ _ H5 pkQ).mono ?_); rintro e w6 ⟨rfl, H6⟩)
  clear H5 h4
  go_upto_region 5 with (go_at_call 193; (with_reducible refine (h5 _ _ _ H6 pkQ).mono ?_); rintro e w7 ⟨rfl, H7⟩; obtain ⟨dB, dL, hcB⟩ := HS.get (z := z) H7; obtain ⟨d2, df2⟩ := hcB 2; clear hcB; unfold rlsC at d2)
  clear H6 h5
  have H8 := H7.storeTo (z := z) pkQ 2 (.int .i64 t3.int) (rlsC ⟨t1.text, t2.text, t3.int⟩) rfl
  generalize World.setCell _ _ _ = w8 at H8 ⊢
  clear H7 dB dL d2 df2
  obtain ⟨Av0, cv0, hv, c7, f7, lp0, -⟩ := H8.rcell (i := 5) pkQ (by decide)
  have c70 : w8.cell? ⟨p.pb, 11, none⟩ = some (.slice Av0 (ns 5) cv0) := c7
  have HV0 := Lib.hid hv
  clear hv c7 f7
  have Hd0 := H8.drew.alloc (rlsC ⟨t1.text, t2.text, t3.int⟩) 260
  have own0 : (w8.drew.alloc (.cells (rlsC ⟨t1.text, t2.text, t3.int⟩) 260)).ownsRow (p.pb + 1) 260 3 (.slice Av0 (ns 5) cv0) (ns 5) (cs 5) := Hd0.rown pkQ (i := 5) (by decide) HV0.out
  unfold rlsC at own0
  obtain ⟨yB, yL, hcB⟩ := HS.get (z := z) H8; obtain ⟨y0, yf0⟩ := hcB 0; obtain ⟨y1, yf1⟩ := hcB 1; obtain ⟨y2, yf2⟩ := hcB 2; clear hcB; unfold rlsC at y0 y1 y2
  go_upto_region 5 with fail
  (refine wp_region_G 14 (fun w' => w'.cell? ⟨p.pb, 11, none⟩ = some (.slice Av0 (ns 5) cv0) ∧ w'.cell? ⟨z, 0, none⟩ = some (.string ⟨t1.text.toArray⟩) ∧ w'.cell? ⟨z, 1, none⟩ = some (.string ⟨t2.text.toArray⟩) ∧ w'.cell? ⟨z, 2, none⟩ = some (.int .i64 t3.int)) (by kernel_rfl) ?_ (fun hHeld => ?_); (focus (try dsimp only); go_keep))
  (refine GG.k 0 ?_; refine GG.k 1 ?_; refine GG.k 2 ?_; refine GG.k 3 ?_; refine GG.k 4 ?_; refine GG.k 5 ?_; refine GG.k 6 ?_; refine GG.k 7 ?_)
  (refine GG.o 8 (fun K hK => ?_); go_simp; refine hK.out _ _ ?_ (fun hHeld => ?_); (focus (try dsimp only); go_keep); clear hK K; (try simp only [Act.put, qqa, qqb, qqc]))
  (refine GG.o 9 (fun K hK => ?_); (refine step_app3 (v := .slice Av0 (ns 5) cv0) (by rfl) _ _ stRl (by rfl) (by rfl) own0 (by rfl) (news := [.string ⟨t1.text.toArray⟩, .string ⟨t2.text.toArray⟩, .int .i64 t3.int]) (by rfl) (litRd (heap_alloc_new _ _)) (fun h => by cases h) (by intro u hu; simp at hu; (repeat' (rcases hu with rfl | hu)); all_goals (first | rfl | (subst hu; rfl))) (by omega) (by first | exact Nat.zero_le _ | omega | (simp; omega)) ?_; intro vA wA ownA gA atA; have HA := Hd0.appOthers pkQ (i := 5) (by decide) HV0.out gA; have hAf := Hd0.after pkQ (i := 5) (by decide) HV0.out gA; obtain ⟨a7, g7, la⟩ := hAf; have a7' : wA.cell? ⟨p.pb, 11, none⟩ = some (.slice Av0 (ns 5) cv0) := a7; have g7' : wA.frozen? ⟨p.pb, 11, none⟩ = false := g7; clear a7 g7; obtain ⟨kB, kL, hcB⟩ := HS.get (z := z) HA; obtain ⟨k0, kf0⟩ := hcB 0; obtain ⟨k1, kf1⟩ := hcB 1; obtain ⟨k2, kf2⟩ := hcB 2; clear hcB; unfold rlsC at k0 k1 k2; obtain ⟨AB0, cB0, rfl, -, -⟩ := own_slice ownA); refine hK.out _ _ ?_ (fun hHeld => ?_); (focus (try dsimp only); go_keep); clear hK K; (try simp only [Act.put, qqa, qqb, qqc]))
  (refine GG.k 10 ?_; refine GG.k 11 ?_; refine GG.k 12 ?_; refine GG.k 13 ?_)
  (refine GG.l (fun K hK => ?_); go_simp; refine hK.out _ _ ?_; clear hK K)
  have HP0 : HS (wA.setCell ⟨p.pb, 11, none⟩ (.slice AB0 (ns 5 + 1) cB0)) _ := Hd0.push (new := (rlsC ⟨t1.text, t2.text, t3.int⟩).toList) pkQ (i := 5) (by decide) HV0.out ownA gA atA
  go_end0
  exact ⟨rfl, _, HP0.sub pkQ⟩
theorem index_s (_hN : p.e.okN) (hn2 : ns 2 ≤ 100000) (hn18 : ns 18 ≤ 100000) (H : HS w (dA p s ns cs pool :: l)) :
    Calls Tryz.prog 136 #[.pointer (some ⟨p.pb, 0, none⟩)] w (fun e w' => e = .returned (.tuple #[]) ∧ ∃ v1 v2, HS w' (dA ((p.withRow 2 v1).withRow 18 v2) (indexP p.e s).2 (pushN (pushN ns 2) 18) (pushC (pushC cs 2 (idxC ⟨(indexP p.e s).1.1, (indexP p.e s).1.2.1.text, 0⟩).toList) 18 (plC (indexP p.e s).1.2).toList) pool :: l)) := by
  obtain ⟨R, hR⟩ : ∃ R, indexP p.e s = R := ⟨_, rfl⟩
  rw [hR]
  unfold indexP nameP at hR
  try unfold numP at hR
  have h1 := fun w1 l1 l2 (H : HS w1 l1) (hp : Pick l1 (dA p s ns cs pool) l2) => name_s H hp
  generalize takeP p.e s 1 = q at h1 hR
  obtain ⟨t1, s1⟩ := q
  unfold PartPost at h1
  dsimp only at h1 hR
  rw [show ([wOn] : List Bs) = [[111, 110]] from rfl] at hR
  have h2 := fun w1 l1 l2 (H : HS w1 l1) (hp : Pick l1 (dA p s1 ns cs pool) l2) => exp1_s H hp [111, 110]
  generalize expectP p.e s1 [[111, 110]] = q at h2 hR
  obtain ⟨wd2, s2⟩ := q
  unfold PartPost at h2
  dsimp only at h2 hR
  have h3 := fun w1 l1 l2 (H : HS w1 l1) (hp : Pick l1 (dA p s2 ns cs pool) l2) => place_s H hp
  generalize placeP p.e s2 = q at h3 hR
  obtain ⟨⟨x, y⟩, s3⟩ := q
  unfold PartPost plC at h3
  dsimp only at h3 hR
  subst hR
  go_enter Tryz.func136, Tryz.ntmps136
  go_upto_region 1 with (go_at_call 189; (with_reducible refine (h1 _ _ _ H pkQ).mono ?_); rintro e w1 ⟨rfl, H1⟩)
  clear H h1
  obtain ⟨z, w2, ez, ew, H2⟩ := H1.alloc_ex (idxC ⟨t1.text, [], 0⟩) 151
  unfold idxC at ew
  try dsimp only at ew
  rw [ew, ez]
  clear ez ew H1
  go_upto_region 2 with (go_at_call 88; (with_reducible refine (h2 _ _ _ H2 pkQ).mono ?_); rintro e w3 ⟨rfl, H3⟩)
  clear H2 h2
  go_upto_region 3 with (go_at_call 199; (with_reducible refine (h3 _ _ _ H3 pkQ).mono ?_); rintro e w4 ⟨rfl, HX⟩)
  clear H3 h3
  obtain ⟨zp, w4b, ez, ew, H4⟩ := HX.alloc_ex (plC (x, y)) 147
  unfold plC at ew
  try dsimp only at ew
  rw [ew, ez]
  clear ez ew HX
  have hne := H4.ne (z := zp) (y := z) pkQ pkQ
  obtain ⟨dB, dL, hcB⟩ := HS.get (z := z) H4; obtain ⟨d1, df1⟩ := hcB 1; clear hcB; unfold idxC at d1
  obtain ⟨gB, gL, hcB⟩ := HS.get (z := zp) H4; obtain ⟨g1, gf1⟩ := hcB 1; clear hcB; unfold plC at g1
  go_upto_region 4 with fail
  have H5 := H4.storeTo (z := z) pkQ 1 (.string ⟨x.text.toArray⟩) (idxC ⟨t1.text, x.text, 0⟩) rfl
  generalize World.setCell _ _ _ = w5 at H5 ⊢
  clear H4 dB dL d1 df1 gB gL g1 gf1
  obtain ⟨Av0, cv0, hv, c7, f7, lp0, -⟩ := H5.rcell (i := 2) pkQ (by decide)
  have c70 : w5.cell? ⟨p.pb, 8, none⟩ = some (.slice Av0 (ns 2) cv0) := c7
  have HV0 := Lib.hid hv
  clear hv c7 f7
  have Hd0 := H5.drew.alloc (idxC ⟨t1.text, x.text, 0⟩) 151
  have own0 : (w5.drew.alloc (.cells (idxC ⟨t1.text, x.text, 0⟩) 151)).ownsRow (p.pb + 1) 151 3 (.slice Av0 (ns 2) cv0) (ns 2) (cs 2) := Hd0.rown pkQ (i := 2) (by decide) HV0.out
  unfold idxC at own0
  obtain ⟨yB, yL, hcB⟩ := HS.get (z := z) H5; obtain ⟨y0, yf0⟩ := hcB 0; obtain ⟨y1, yf1⟩ := hcB 1; obtain ⟨y2, yf2⟩ := hcB 2; clear hcB; unfold idxC at y0 y1 y2
  go_upto_region 4 with fail
  (refine wp_region_G 14 (fun w' => w'.cell? ⟨p.pb, 8, none⟩ = some (.slice Av0 (ns 2) cv0) ∧ w'.cell? ⟨z, 0, none⟩ = some (.string ⟨t1.text.toArray⟩) ∧ w'.cell? ⟨z, 1, none⟩ = some (.string ⟨x.text.toArray⟩) ∧ w'.cell? ⟨z, 2, none⟩ = some (.int .i64 0)) (by kernel_rfl) ?_ (fun hHeld => ?_); (focus (try dsimp only); go_keep))
  (refine GG.k 0 ?_; refine GG.k 1 ?_; refine GG.k 2 ?_; refine GG.k 3 ?_; refine GG.k 4 ?_; refine GG.k 5 ?_; refine GG.k 6 ?_; refine GG.k 7 ?_)
  (refine GG.o 8 (fun K hK => ?_); go_simp; refine hK.out _ _ ?_ (fun hHeld => ?_); (focus (try dsimp only); go_keep); clear hK K; (try simp only [Act.put, qqa, qqb, qqc]))
  (refine GG.o 9 (fun K hK => ?_); (refine step_app3 (v := .slice Av0 (ns 2) cv0) (by rfl) _ _ stIx (by rfl) (by rfl) own0 (by rfl) (news := [.string ⟨t1.text.toArray⟩, .string ⟨x.text.toArray⟩, .int .i64 0]) (by rfl) (litRd (heap_alloc_new _ _)) (fun h => by cases h) (by intro u hu; simp at hu; (repeat' (rcases hu with rfl | hu)); all_goals (first | rfl | (subst hu; rfl))) (by omega) (by first | exact Nat.zero_le _ | omega | (simp; omega)) ?_; intro vA wA ownA gA atA; have HA := Hd0.appOthers pkQ (i := 2) (by decide) HV0.out gA; have hAf := Hd0.after pkQ (i := 2) (by decide) HV0.out gA; obtain ⟨a7, g7, la⟩ := hAf; have a7' : wA.cell? ⟨p.pb, 8, none⟩ = some (.slice Av0 (ns 2) cv0) := a7; have g7' : wA.frozen? ⟨p.pb, 8, none⟩ = false := g7; clear a7 g7; obtain ⟨kB, kL, hcB⟩ := HS.get (z := z) HA; obtain ⟨k0, kf0⟩ := hcB 0; obtain ⟨k1, kf1⟩ := hcB 1; obtain ⟨k2, kf2⟩ := hcB 2; clear hcB; unfold idxC at k0 k1 k2; obtain ⟨AB0, cB0, rfl, -, -⟩ := own_slice ownA); refine hK.out _ _ ?_ (fun hHeld => ?_); (focus (try dsimp only); go_keep); clear hK K; (try simp only [Act.put, qqa, qqb, qqc]))
  (refine GG.k 10 ?_; refine GG.k 11 ?_; refine GG.k 12 ?_; refine GG.k 13 ?_)
  (refine GG.l (fun K hK => ?_); go_simp; refine hK.out _ _ ?_; clear hK K)
  have HP0 : HS (wA.setCell ⟨p.pb, 8, none⟩ (.slice AB0 (ns 2 + 1) cB0)) _ := Hd0.push (new := (idxC ⟨t1.text, x.text, 0⟩).toList) pkQ (i := 2) (by decide) HV0.out ownA gA atA
  generalize World.setCell _ _ _ = w6 at HP0 ⊢
  clear HA own0 Hd0 ownA gA atA kB kL yB yL k0 kf0 y0 yf0 k1 kf1 y1 yf1 k2 kf2 y2 yf2 a7' g7' c70 HV0 la lp0 hHeld H5
  obtain ⟨Av1, cv1, hv, c7, lp1⟩ := HP0.rcell2 (j := 18) pkQ (by decide) (by decide)
  have c71 : w6.cell? ⟨p.pb, 24, none⟩ = some (.slice Av1 (ns 18) cv1) := c7
  have HV1 := Lib.hid hv
  clear hv c7
  have Hd1 := HP0.drew.alloc (plC (x, y)) 147
  have own1 : (w6.drew.alloc (.cells (plC (x, y)) 147)).ownsRow (p.pb + 1) 147 8 (.slice Av1 (ns 18) cv1) (ns 18) (cs 18) := Hd1.rown2 pkQ (j := 18) (by decide) (by decide) HV1.out
  unfold plC at own1
  obtain ⟨yB, yL, hcB⟩ := HS.get (z := zp) HP0; obtain ⟨y0, yf0⟩ := hcB 0; obtain ⟨y1, yf1⟩ := hcB 1; obtain ⟨y2, yf2⟩ := hcB 2; obtain ⟨y3, yf3⟩ := hcB 3; obtain ⟨y4, yf4⟩ := hcB 4; obtain ⟨y5, yf5⟩ := hcB 5; obtain ⟨y6, yf6⟩ := hcB 6; obtain ⟨y7, yf7⟩ := hcB 7; clear hcB; unfold plC at y0 y1 y2 y3 y4 y5 y6 y7
  go_upto_region 5 with fail
  (refine wp_region_G 12 (fun w' => w'.cell? ⟨p.pb, 24, none⟩ = some (.slice Av1 (ns 18) cv1) ∧ w'.cell? ⟨zp, 0, none⟩ = some (.int .i64 x.kind) ∧ w'.cell? ⟨zp, 1, none⟩ = some (.string ⟨x.text.toArray⟩) ∧ w'.cell? ⟨zp, 2, none⟩ = some (.int .i64 x.int) ∧ w'.cell? ⟨zp, 3, none⟩ = some (.int .i64 x.pos) ∧ w'.cell? ⟨zp, 4, none⟩ = some (.int .i64 y.kind) ∧ w'.cell? ⟨zp, 5, none⟩ = some (.string ⟨y.text.toArray⟩) ∧ w'.cell? ⟨zp, 6, none⟩ = some (.int .i64 y.int) ∧ w'.cell? ⟨zp, 7, none⟩ = some (.int .i64 y.pos)) (by kernel_rfl) ?_ (fun hHeld => ?_); (focus (try dsimp only); go_keep))
  (refine GG.k 0 ?_; refine GG.k 1 ?_; refine GG.k 2 ?_; refine GG.k 3 ?_; refine GG.k 4 ?_; refine GG.k 5 ?_; refine GG.k 6 ?_)
  (refine GG.o 7 (fun K hK => ?_); go_simp; refine hK.out _ _ ?_ (fun hHeld => ?_); (focus (try dsimp only); go_keep); clear hK K; (try simp only [Act.put, qqa, qqb, qqc]))
  (refine GG.o 8 (fun K hK => ?_); (refine step_app3 (v := .slice Av1 (ns 18) cv1) (by rfl) _ _ stPl (by rfl) (by rfl) own1 (by rfl) (news := [.int .i64 x.kind, .string ⟨x.text.toArray⟩, .int .i64 x.int, .int .i64 x.pos, .int .i64 y.kind, .string ⟨y.text.toArray⟩, .int .i64 y.int, .int .i64 y.pos]) (by rfl) (litRd (heap_alloc_new _ _)) (fun h => by cases h) (by intro u hu; simp at hu; (repeat' (rcases hu with rfl | hu)); all_goals (first | rfl | (subst hu; rfl))) (by omega) (by first | exact Nat.zero_le _ | omega | (simp; omega)) ?_; intro vA wA ownA gA atA; have HA := Hd1.appOthers pkQ (i := 18) (by decide) HV1.out gA; have hAf := Hd1.after2 pkQ (j := 18) (by decide) HV1.out gA; obtain ⟨a7, g7, la⟩ := hAf; have a7' : wA.cell? ⟨p.pb, 24, none⟩ = some (.slice Av1 (ns 18) cv1) := a7; have g7' : wA.frozen? ⟨p.pb, 24, none⟩ = false := g7; clear a7 g7; obtain ⟨kB, kL, hcB⟩ := HS.get (z := zp) HA; obtain ⟨k0, kf0⟩ := hcB 0; obtain ⟨k1, kf1⟩ := hcB 1; obtain ⟨k2, kf2⟩ := hcB 2; obtain ⟨k3, kf3⟩ := hcB 3; obtain ⟨k4, kf4⟩ := hcB 4; obtain ⟨k5, kf5⟩ := hcB 5; obtain ⟨k6, kf6⟩ := hcB 6; obtain ⟨k7, kf7⟩ := hcB 7; clear hcB; unfold plC at k0 k1 k2 k3 k4 k5 k6 k7; obtain ⟨AB1, cB1, rfl, -, -⟩ := own_slice ownA); refine hK.out _ _ ?_ (fun hHeld => ?_); (focus (try dsimp only); go_keep); clear hK K; (try simp only [Act.put, qqa, qqb, qqc]))
  (refine GG.k 9 ?_; refine GG.k 10 ?_; refine GG.k 11 ?_)
  (refine GG.l (fun K hK => ?_); go_simp; refine hK.out _ _ ?_; clear hK K)
  have HP1 : HS (wA.setCell ⟨p.pb, 24, none⟩ (.slice AB1 (ns 18 + 1) cB1)) _ := Hd1.push2 (new2 := (plC (x, y)).toList) pkQ (j := 18) (by decide) (by decide) HV1.out ownA gA atA
  go_end0
  exact ⟨rfl, _, _, HP1.sub pkQ⟩
theorem cache_s (hN : p.e.okN) (hn4 : ns 4 ≤ 100000) (hn20 : ns 20 ≤ 100000) (H : HS w (dA p s ns cs pool :: l)) :
    Calls Tryz.prog 138 #[.pointer (some ⟨p.pb, 0, none⟩)] w (fun e w' => e = .returned (.tuple #[]) ∧ ∃ v1 v2, HS w' (dA ((p.withRow 4 v1).withRow 20 v2) (cacheP p.e s).2 (pushN (pushN ns 4) 20) (pushC (pushC cs 4 (cchC ⟨(cacheP p.e s).1.1, (cacheP p.e s).1.2.1.1.text, 0, (cacheP p.e s).1.2.2⟩).toList) 20 (plC (cacheP p.e s).1.2.1).toList) pool :: l)) := by
  obtain ⟨R, hR⟩ : ∃ R, cacheP p.e s = R := ⟨_, rfl⟩
  rw [hR]
  unfold cacheP nameP at hR
  try unfold numP at hR
  have h1 := fun w1 l1 l2 (H : HS w1 l1) (hp : Pick l1 (dA p s ns cs pool) l2) => name_s H hp
  generalize takeP p.e s 1 = q at h1 hR
  obtain ⟨t1, s1⟩ := q
  unfold PartPost at h1
  dsimp only at h1 hR
  rw [show ([wOn] : List Bs) = [[111, 110]] from rfl] at hR
  have h2 := fun w1 l1 l2 (H : HS w1 l1) (hp : Pick l1 (dA p s1 ns cs pool) l2) => exp1_s H hp [111, 110]
  generalize expectP p.e s1 [[111, 110]] = q at h2 hR
  obtain ⟨wd2, s2⟩ := q
  unfold PartPost at h2
  dsimp only at h2 hR
  have h3 := fun w1 l1 l2 (H : HS w1 l1) (hp : Pick l1 (dA p s2 ns cs pool) l2) => place_s H hp
  generalize placeP p.e s2 = q at h3 hR
  obtain ⟨⟨x, y⟩, s3⟩ := q
  unfold PartPost plC at h3
  dsimp only at h3 hR
  have h4 := fun w1 l1 l2 (H : HS w1 l1) (hp : Pick l1 (dA p s3 ns cs pool) l2) => exp1_s H hp [102, 111, 114]
  generalize expectP p.e s3 [[102, 111, 114]] = q at h4 hR
  obtain ⟨wd4, s4⟩ := q
  unfold PartPost at h4
  dsimp only at h4 hR
  have h5 := fun w1 l1 l2 (H : HS w1 l1) (hp : Pick l1 (dA p s4 ns cs pool) l2) => number_s hN H hp
  generalize takeP p.e s4 2 = q at h5 hR
  obtain ⟨t3, s5⟩ := q
  unfold PartPost at h5
  dsimp only at h5 hR
  subst hR
  go_enter Tryz.func138, Tryz.ntmps138
  go_upto_region 1 with (go_at_call 189; (with_reducible refine (h1 _ _ _ H pkQ).mono ?_); rintro e w1 ⟨rfl, H1⟩)
  clear H h1
  obtain ⟨z, w2, ez, ew, H2⟩ := H1.alloc_ex (cchC ⟨t1.text, [], 0, 0⟩) 155
  unfold cchC at ew
  try dsimp only at ew
  rw [ew, ez]
  clear ez ew H1
  go_upto_region 2 with (go_at_call 88; (with_reducible refine (h2 _ _ _ H2 pkQ).mono ?_); rintro e w3 ⟨rfl, H3⟩)
  clear H2 h2
  go_upto_region 3 with (go_at_call 199; (with_reducible refine (h3 _ _ _ H3 pkQ).mono ?_); rintro e w4 ⟨rfl, HX⟩)
  clear H3 h3
  obtain ⟨zp, w4b, ez, ew, H4⟩ := HX.alloc_ex (plC (x, y)) 147
  unfold plC at ew
  try dsimp only at ew
  rw [ew, ez]
  clear ez ew HX
  have hne := H4.ne (z := zp) (y := z) pkQ pkQ
  obtain ⟨dB, dL, hcB⟩ := HS.get (z := z) H4; obtain ⟨d1, df1⟩ := hcB 1; clear hcB; unfold cchC at d1
  obtain ⟨gB, gL, hcB⟩ := HS.get (z := zp) H4; obtain ⟨g1, gf1⟩ := hcB 1; clear hcB; unfold plC at g1
  go_upto_region 4 with fail
  have H5 := H4.storeTo (z := z) pkQ 1 (.string ⟨x.text.toArray⟩) (cchC ⟨t1.text, x.text, 0, 0⟩) rfl
  generalize World.setCell _ _ _ = w5 at H5 ⊢
  clear H4 dB dL d1 df1 gB gL g1 gf1
  go_upto_region 5 with (go_at_call 88; (with_reducible refine (h4 _ _ _ H5 pkQ).mono ?_); rintro e w6 ⟨rfl, H6⟩)
  clear H5 h4
  go_upto_region 6 with (go_at_call 193; (with_reducible refine (h5 _ _ _ H6 pkQ).mono ?_); rintro e w7 ⟨rfl, H7⟩; obtain ⟨dB, dL, hcB⟩ := HS.get (z := z) H7; obtain ⟨d3, df3⟩ := hcB 3; clear hcB; unfold cchC at d3)
  clear H6 h5
  have H8 := H7.storeTo (z := z) pkQ 3 (.int .i64 t3.int) (cchC ⟨t1.text, x.text, 0, t3.int⟩) rfl
  generalize World.setCell _ _ _ = w8 at H8 ⊢
  clear H7 dB dL d3 df3
  obtain ⟨Av0, cv0, hv, c7, f7, lp0, -⟩ := H8.rcell (i := 4) pkQ (by decide)
  have c70 : w8.cell? ⟨p.pb, 10, none⟩ = some (.slice Av0 (ns 4) cv0) := c7
  have HV0 := Lib.hid hv
  clear hv c7 f7
  have Hd0 := H8.drew.alloc (cchC ⟨t1.text, x.text, 0, t3.int⟩) 155
  have own0 : (w8.drew.alloc (.cells (cchC ⟨t1.text, x.text, 0, t3.int⟩) 155)).ownsRow (p.pb + 1) 155 4 (.slice Av0 (ns 4) cv0) (ns 4) (cs 4) := Hd0.rown pkQ (i := 4) (by decide) HV0.out
  unfold cchC at own0
  obtain ⟨yB, yL, hcB⟩ := HS.get (z := z) H8; obtain ⟨y0, yf0⟩ := hcB 0; obtain ⟨y1, yf1⟩ := hcB 1; obtain ⟨y2, yf2⟩ := hcB 2; obtain ⟨y3, yf3⟩ := hcB 3; clear hcB; unfold cchC at y0 y1 y2 y3
  go_upto_region 6 with fail
  (refine wp_region_G 14 (fun w' => w'.cell? ⟨p.pb, 10, none⟩ = some (.slice Av0 (ns 4) cv0) ∧ w'.cell? ⟨z, 0, none⟩ = some (.string ⟨t1.text.toArray⟩) ∧ w'.cell? ⟨z, 1, none⟩ = some (.string ⟨x.text.toArray⟩) ∧ w'.cell? ⟨z, 2, none⟩ = some (.int .i64 0) ∧ w'.cell? ⟨z, 3, none⟩ = some (.int .i64 t3.int)) (by kernel_rfl) ?_ (fun hHeld => ?_); (focus (try dsimp only); go_keep))
  (refine GG.k 0 ?_; refine GG.k 1 ?_; refine GG.k 2 ?_; refine GG.k 3 ?_; refine GG.k 4 ?_; refine GG.k 5 ?_; refine GG.k 6 ?_; refine GG.k 7 ?_)
  (refine GG.o 8 (fun K hK => ?_); go_simp; refine hK.out _ _ ?_ (fun hHeld => ?_); (focus (try dsimp only); go_keep); clear hK K; (try simp only [Act.put, qqa, qqb, qqc]))
  (refine GG.o 9 (fun K hK => ?_); (refine step_app3 (v := .slice Av0 (ns 4) cv0) (by rfl) _ _ stCc (by rfl) (by rfl) own0 (by rfl) (news := [.string ⟨t1.text.toArray⟩, .string ⟨x.text.toArray⟩, .int .i64 0, .int .i64 t3.int]) (by rfl) (litRd (heap_alloc_new _ _)) (fun h => by cases h) (by intro u hu; simp at hu; (repeat' (rcases hu with rfl | hu)); all_goals (first | rfl | (subst hu; rfl))) (by omega) (by first | exact Nat.zero_le _ | omega | (simp; omega)) ?_; intro vA wA ownA gA atA; have HA := Hd0.appOthers pkQ (i := 4) (by decide) HV0.out gA; have hAf := Hd0.after pkQ (i := 4) (by decide) HV0.out gA; obtain ⟨a7, g7, la⟩ := hAf; have a7' : wA.cell? ⟨p.pb, 10, none⟩ = some (.slice Av0 (ns 4) cv0) := a7; have g7' : wA.frozen? ⟨p.pb, 10, none⟩ = false := g7; clear a7 g7; obtain ⟨kB, kL, hcB⟩ := HS.get (z := z) HA; obtain ⟨k0, kf0⟩ := hcB 0; obtain ⟨k1, kf1⟩ := hcB 1; obtain ⟨k2, kf2⟩ := hcB 2; obtain ⟨k3, kf3⟩ := hcB 3; clear hcB; unfold cchC at k0 k1 k2 k3; obtain ⟨AB0, cB0, rfl, -, -⟩ := own_slice ownA); refine hK.out _ _ ?_ (fun hHeld => ?_); (focus (try dsimp only); go_keep); clear hK K; (try simp only [Act.put, qqa, qqb, qqc]))
  (refine GG.k 10 ?_; refine GG.k 11 ?_; refine GG.k 12 ?_; refine GG.k 13 ?_)
  (refine GG.l (fun K hK => ?_); go_simp; refine hK.out _ _ ?_; clear hK K)
  have HP0 : HS (wA.setCell ⟨p.pb, 10, none⟩ (.slice AB0 (ns 4 + 1) cB0)) _ := Hd0.push (new := (cchC ⟨t1.text, x.text, 0, t3.int⟩).toList) pkQ (i := 4) (by decide) HV0.out ownA gA atA
  generalize World.setCell _ _ _ = w9 at HP0 ⊢
  clear HA own0 Hd0 ownA gA atA kB kL yB yL k0 kf0 y0 yf0 k1 kf1 y1 yf1 k2 kf2 y2 yf2 k3 kf3 y3 yf3 a7' g7' c70 HV0 la lp0 hHeld H8
  obtain ⟨Av1, cv1, hv, c7, lp1⟩ := HP0.rcell2 (j := 20) pkQ (by decide) (by decide)
  have c71 : w9.cell? ⟨p.pb, 26, none⟩ = some (.slice Av1 (ns 20) cv1) := c7
  have HV1 := Lib.hid hv
  clear hv c7
  have Hd1 := HP0.drew.alloc (plC (x, y)) 147
  have own1 : (w9.drew.alloc (.cells (plC (x, y)) 147)).ownsRow (p.pb + 1) 147 8 (.slice Av1 (ns 20) cv1) (ns 20) (cs 20) := Hd1.rown2 pkQ (j := 20) (by decide) (by decide) HV1.out
  unfold plC at own1
  obtain ⟨yB, yL, hcB⟩ := HS.get (z := zp) HP0; obtain ⟨y0, yf0⟩ := hcB 0; obtain ⟨y1, yf1⟩ := hcB 1; obtain ⟨y2, yf2⟩ := hcB 2; obtain ⟨y3, yf3⟩ := hcB 3; obtain ⟨y4, yf4⟩ := hcB 4; obtain ⟨y5, yf5⟩ := hcB 5; obtain ⟨y6, yf6⟩ := hcB 6; obtain ⟨y7, yf7⟩ := hcB 7; clear hcB; unfold plC at y0 y1 y2 y3 y4 y5 y6 y7
  go_upto_region 7 with fail
  (refine wp_region_G 12 (fun w' => w'.cell? ⟨p.pb, 26, none⟩ = some (.slice Av1 (ns 20) cv1) ∧ w'.cell? ⟨zp, 0, none⟩ = some (.int .i64 x.kind) ∧ w'.cell? ⟨zp, 1, none⟩ = some (.string ⟨x.text.toArray⟩) ∧ w'.cell? ⟨zp, 2, none⟩ = some (.int .i64 x.int) ∧ w'.cell? ⟨zp, 3, none⟩ = some (.int .i64 x.pos) ∧ w'.cell? ⟨zp, 4, none⟩ = some (.int .i64 y.kind) ∧ w'.cell? ⟨zp, 5, none⟩ = some (.string ⟨y.text.toArray⟩) ∧ w'.cell? ⟨zp, 6, none⟩ = some (.int .i64 y.int) ∧ w'.cell? ⟨zp, 7, none⟩ = some (.int .i64 y.pos)) (by kernel_rfl) ?_ (fun hHeld => ?_); (focus (try dsimp only); go_keep))
  (refine GG.k 0 ?_; refine GG.k 1 ?_; refine GG.k 2 ?_; refine GG.k 3 ?_; refine GG.k 4 ?_; refine GG.k 5 ?_; refine GG.k 6 ?_)
  (refine GG.o 7 (fun K hK => ?_); go_simp; refine hK.out _ _ ?_ (fun hHeld => ?_); (focus (try dsimp only); go_keep); clear hK K; (try simp only [Act.put, qqa, qqb, qqc]))
  (refine GG.o 8 (fun K hK => ?_); (refine step_app3 (v := .slice Av1 (ns 20) cv1) (by rfl) _ _ stPl (by rfl) (by rfl) own1 (by rfl) (news := [.int .i64 x.kind, .string ⟨x.text.toArray⟩, .int .i64 x.int, .int .i64 x.pos, .int .i64 y.kind, .string ⟨y.text.toArray⟩, .int .i64 y.int, .int .i64 y.pos]) (by rfl) (litRd (heap_alloc_new _ _)) (fun h => by cases h) (by intro u hu; simp at hu; (repeat' (rcases hu with rfl | hu)); all_goals (first | rfl | (subst hu; rfl))) (by omega) (by first | exact Nat.zero_le _ | omega | (simp; omega)) ?_; intro vA wA ownA gA atA; have HA := Hd1.appOthers pkQ (i := 20) (by decide) HV1.out gA; have hAf := Hd1.after2 pkQ (j := 20) (by decide) HV1.out gA; obtain ⟨a7, g7, la⟩ := hAf; have a7' : wA.cell? ⟨p.pb, 26, none⟩ = some (.slice Av1 (ns 20) cv1) := a7; have g7' : wA.frozen? ⟨p.pb, 26, none⟩ = false := g7; clear a7 g7; obtain ⟨kB, kL, hcB⟩ := HS.get (z := zp) HA; obtain ⟨k0, kf0⟩ := hcB 0; obtain ⟨k1, kf1⟩ := hcB 1; obtain ⟨k2, kf2⟩ := hcB 2; obtain ⟨k3, kf3⟩ := hcB 3; obtain ⟨k4, kf4⟩ := hcB 4; obtain ⟨k5, kf5⟩ := hcB 5; obtain ⟨k6, kf6⟩ := hcB 6; obtain ⟨k7, kf7⟩ := hcB 7; clear hcB; unfold plC at k0 k1 k2 k3 k4 k5 k6 k7; obtain ⟨AB1, cB1, rfl, -, -⟩ := own_slice ownA); refine hK.out _ _ ?_ (fun hHeld => ?_); (focus (try dsimp only); go_keep); clear hK K; (try simp only [Act.put, qqa, qqb, qqc]))
  (refine GG.k 9 ?_; refine GG.k 10 ?_; refine GG.k 11 ?_)
  (refine GG.l (fun K hK => ?_); go_simp; refine hK.out _ _ ?_; clear hK K)
  have HP1 : HS (wA.setCell ⟨p.pb, 26, none⟩ (.slice AB1 (ns 20 + 1) cB1)) _ := Hd1.push2 (new2 := (plC (x, y)).toList) pkQ (j := 20) (by decide) (by decide) HV1.out ownA gA atA
  go_end0
  exact ⟨rfl, _, _, HP1.sub pkQ⟩
theorem find_sk {wd : Bs} (h0 : ¬ wd = [99, 111, 117, 110, 116]) (h1 : ¬ wd = [98, 108, 111, 111, 109]) (h2 : ¬ wd = [98, 111, 116, 116, 111, 109]) : findP [[99, 111, 117, 110, 116], [98, 108, 111, 111, 109], [98, 111, 116, 116, 111, 109]] wd = none := by
  unfold findP
  simp [Ne.symm h0, Ne.symm h1, Ne.symm h2]
theorem sketch_s (hN : p.e.okN) (hn3 : ns 3 ≤ 100000) (hn19 : ns 19 ≤ 100000) (H : HS w (dA p s ns cs pool :: l)) :
    Calls Tryz.prog 137 #[.pointer (some ⟨p.pb, 0, none⟩)] w (fun e w' => e = .returned (.tuple #[]) ∧ ∃ v1 v2, HS w' (dA ((p.withRow 3 v1).withRow 19 v2) (sketchP p.e s).2 (pushN (pushN ns 3) 19) (pushC (pushC cs 3 (sktC ⟨(sketchP p.e s).1.1, (sketchP p.e s).1.2.2.2.2.1.text, 0, ((findP wSketches (sketchP p.e s).1.2.1).getD 0 : Nat), (sketchP p.e s).1.2.2.1, (sketchP p.e s).1.2.2.2.1⟩).toList) 19 (plC (sketchP p.e s).1.2.2.2.2).toList) pool :: l)) := by
  obtain ⟨R, hR⟩ : ∃ R, sketchP p.e s = R := ⟨_, rfl⟩
  rw [hR]
  unfold sketchP nameP at hR
  try unfold numP at hR
  have h1 := fun w1 l1 l2 (H : HS w1 l1) (hp : Pick l1 (dA p s ns cs pool) l2) => name_s H hp
  generalize takeP p.e s 1 = q at h1 hR
  obtain ⟨t1, s1⟩ := q
  unfold PartPost at h1
  dsimp only at h1 hR
  rw [show wSketches = [[99, 111, 117, 110, 116], [98, 108, 111, 111, 109], [98, 111, 116, 116, 111, 109]] from rfl] at hR
  have h2 := fun w1 l1 l2 (H : HS w1 l1) (hp : Pick l1 (dA p s1 ns cs pool) l2) => exp3_s H hp [99, 111, 117, 110, 116] [98, 108, 111, 111, 109] [98, 111, 116, 116, 111, 109]
  generalize expectP p.e s1 [[99, 111, 117, 110, 116], [98, 108, 111, 111, 109], [98, 111, 116, 116, 111, 109]] = q at h2 hR
  obtain ⟨wd, s2⟩ := q
  unfold PartPost at h2
  dsimp only at h2 hR
  have h3 := fun w1 l1 l2 (H : HS w1 l1) (hp : Pick l1 (dA p s2 ns cs pool) l2) => number_s hN H hp
  generalize takeP p.e s2 2 = q at h3 hR
  obtain ⟨t2, s3⟩ := q
  unfold PartPost at h3
  dsimp only at h3 hR
  have h4 := fun w1 l1 l2 (H : HS w1 l1) (hp : Pick l1 (dA p s3 ns cs pool) l2) => number_s hN H hp
  generalize takeP p.e s3 2 = q at h4 hR
  obtain ⟨t3, s4⟩ := q
  unfold PartPost at h4
  dsimp only at h4 hR
  rw [show ([wOn] : List Bs) = [[111, 110]] from rfl] at hR
  have h5 := fun w1 l1 l2 (H : HS w1 l1) (hp : Pick l1 (dA p s4 ns cs pool) l2) => exp1_s H hp [111, 110]
  generalize expectP p.e s4 [[111, 110]] = q at h5 hR
  obtain ⟨wd5, s5⟩ := q
  unfold PartPost at h5
  dsimp only at h5 hR
  have h6 := fun w1 l1 l2 (H : HS w1 l1) (hp : Pick l1 (dA p s5 ns cs pool) l2) => place_s H hp
  generalize placeP p.e s5 = q at h6 hR
  obtain ⟨⟨x, y⟩, s6⟩ := q
  unfold PartPost plC at h6
  dsimp only at h6 hR
  subst hR
  dsimp only
  obtain ⟨kd, hkd⟩ : ∃ kd : Int, ((findP wSketches wd).getD 0 : Nat) = kd := ⟨_, rfl⟩
  rw [hkd]
  have HK := Lib.hid hkd
  clear hkd
  go_enter Tryz.func137, Tryz.ntmps137
  go_upto_region 1 with (go_at_call 189; (with_reducible refine (h1 _ _ _ H pkQ).mono ?_); rintro e w1 ⟨rfl, H1⟩)
  clear H h1
  obtain ⟨z, w2, ez, ew, H2⟩ := H1.alloc_ex (sktC ⟨t1.text, [], 0, 0, 0, 0⟩) 153
  unfold sktC at ew
  try dsimp only at ew
  rw [ew, ez]
  clear ez ew H1
  go_upto_block 0 with (go_at_call 88; (with_reducible refine (h2 _ _ _ H2 pkQ).mono ?_); rintro e w3 ⟨rfl, H3⟩)
  clear H2 h2
  go_cut [10] from 11 to 18 (fun _ wx => HS wx (boxA z (sktC ⟨t1.text, [], 0, kd, 0, 0⟩) 153 :: dA p s2 ns cs pool :: l))
  case first =>
    obtain ⟨dB, dL, hcB⟩ := HS.get (z := z) H3; obtain ⟨d3, df3⟩ := hcB 3; clear hcB; unfold sktC at d3
    by_cases e0 : wd = [99, 111, 117, 110, 116]
    · subst e0
      have hk := HK.out
      rw [show findP wSketches [99, 111, 117, 110, 116] = some 0 by decide] at hk
      have hk : (0 : Int) = kd := hk
      subst hk
      clear HK
      go_wp2_with fail
      go_meet
      exact (H3.storeTo (z := z) pkQ 3 _ (sktC ⟨t1.text, [], 0, 0, 0, 0⟩) rfl).sub pkQ
    have bb0 : (wd == [99, 111, 117, 110, 116]) = false := by simpa using e0
    by_cases e1 : wd = [98, 108, 111, 111, 109]
    · subst e1
      have hk := HK.out
      rw [show findP wSketches [98, 108, 111, 111, 109] = some 1 by decide] at hk
      have hk : (1 : Int) = kd := hk
      subst hk
      clear HK
      go_wp2_with fail
      go_meet
      exact (H3.storeTo (z := z) pkQ 3 _ (sktC ⟨t1.text, [], 0, 1, 0, 0⟩) rfl).sub pkQ
    have bb1 : (wd == [98, 108, 111, 111, 109]) = false := by simpa using e1
    by_cases e2 : wd = [98, 111, 116, 116, 111, 109]
    · subst e2
      have hk := HK.out
      rw [show findP wSketches [98, 111, 116, 116, 111, 109] = some 2 by decide] at hk
      have hk : (2 : Int) = kd := hk
      subst hk
      clear HK
      go_wp2_with fail
      go_meet
      exact (H3.storeTo (z := z) pkQ 3 _ (sktC ⟨t1.text, [], 0, 2, 0, 0⟩) rfl).sub pkQ
    have bb2 : (wd == [98, 111, 116, 116, 111, 109]) = false := by simpa using e2
    have hk := HK.out
    rw [show findP wSketches wd = none from find_sk e0 e1 e2] at hk
    have hk : (0 : Int) = kd := hk
    subst hk
    clear HK e0 e1 e2
    go_wp2_with fail
    go_meet
    exact H3.sub pkQ
  case rest =>
  have H4 := hcut
  clear hcut H3 HK
  go_upto_region 9 with (go_at_call 193; (with_reducible refine (h3 _ _ _ H4 pkQ).mono ?_); rintro e w5 ⟨rfl, H5⟩; obtain ⟨dB, dL, hcB⟩ := HS.get (z := z) H5; obtain ⟨d4, df4⟩ := hcB 4; clear hcB; unfold sktC at d4)
  clear H4 h3
  have H6 := H5.storeTo (z := z) pkQ 4 (.int .i64 t2.int) (sktC ⟨t1.text, [], 0, kd, t2.int, 0⟩) rfl
  generalize World.setCell _ _ _ = w6 at H6 ⊢
  clear H5 dB dL d4 df4
  go_upto_region 10 with (go_at_call 193; (with_reducible refine (h4 _ _ _ H6 pkQ).mono ?_); rintro e w7 ⟨rfl, H7⟩; obtain ⟨dB, dL, hcB⟩ := HS.get (z := z) H7; obtain ⟨d5, df5⟩ := hcB 5; clear hcB; unfold sktC at d5)
  clear H6 h4
  have H8 := H7.storeTo (z := z) pkQ 5 (.int .i64 t3.int) (sktC ⟨t1.text, [], 0, kd, t2.int, t3.int⟩) rfl
  generalize World.setCell _ _ _ = w8 at H8 ⊢
  clear H7 dB dL d5 df5
  go_upto_region 11 with (go_at_call 88; (with_reducible refine (h5 _ _ _ H8 pkQ).mono ?_); rintro e w9 ⟨rfl, H9⟩)
  clear H8 h5
  go_upto_region 12 with (go_at_call 199; (with_reducible refine (h6 _ _ _ H9 pkQ).mono ?_); rintro e w10 ⟨rfl, HX⟩)
  clear H9 h6
  obtain ⟨zp, w10b, ez, ew, H10⟩ := HX.alloc_ex (plC (x, y)) 147
  unfold plC at ew
  try dsimp only at ew
  rw [ew, ez]
  clear ez ew HX
  have hne := H10.ne (z := zp) (y := z) pkQ pkQ
  obtain ⟨dB, dL, hcB⟩ := HS.get (z := z) H10; obtain ⟨d1, df1⟩ := hcB 1; clear hcB; unfold sktC at d1
  obtain ⟨gB, gL, hcB⟩ := HS.get (z := zp) H10; obtain ⟨g1, gf1⟩ := hcB 1; clear hcB; unfold plC at g1
  go_upto_region 13 with fail
  have H11 := H10.storeTo (z := z) pkQ 1 (.string ⟨x.text.toArray⟩) (sktC ⟨t1.text, x.text, 0, kd, t2.int, t3.int⟩) rfl
  generalize World.setCell _ _ _ = w11 at H11 ⊢
  clear H10 dB dL d1 df1 gB gL g1 gf1
  obtain ⟨Av0, cv0, hv, c7, f7, lp0, -⟩ := H11.rcell (i := 3) pkQ (by decide)
  have c70 : w11.cell? ⟨p.pb, 9, none⟩ = some (.slice Av0 (ns 3) cv0) := c7
  have HV0 := Lib.hid hv
  clear hv c7 f7
  have Hd0 := H11.drew.alloc (sktC ⟨t1.text, x.text, 0, kd, t2.int, t3.int⟩) 153
  have own0 : (w11.drew.alloc (.cells (sktC ⟨t1.text, x.text, 0, kd, t2.int, t3.int⟩) 153)).ownsRow (p.pb + 1) 153 6 (.slice Av0 (ns 3) cv0) (ns 3) (cs 3) := Hd0.rown pkQ (i := 3) (by decide) HV0.out
  unfold sktC at own0
  obtain ⟨yB, yL, hcB⟩ := HS.get (z := z) H11; obtain ⟨y0, yf0⟩ := hcB 0; obtain ⟨y1, yf1⟩ := hcB 1; obtain ⟨y2, yf2⟩ := hcB 2; obtain ⟨y3, yf3⟩ := hcB 3; obtain ⟨y4, yf4⟩ := hcB 4; obtain ⟨y5, yf5⟩ := hcB 5; clear hcB; unfold sktC at y0 y1 y2 y3 y4 y5
  go_upto_region 13 with fail
  (refine wp_region_G 14 (fun w' => w'.cell? ⟨p.pb, 9, none⟩ = some (.slice Av0 (ns 3) cv0) ∧ w'.cell? ⟨z, 0, none⟩ = some (.string ⟨t1.text.toArray⟩) ∧ w'.cell? ⟨z, 1, none⟩ = some (.string ⟨x.text.toArray⟩) ∧ w'.cell? ⟨z, 2, none⟩ = some (.int .i64 0) ∧ w'.cell? ⟨z, 3, none⟩ = some (.int .i64 kd) ∧ w'.cell? ⟨z, 4, none⟩ = some (.int .i64 t2.int) ∧ w'.cell? ⟨z, 5, none⟩ = some (.int .i64 t3.int)) (by kernel_rfl) ?_ (fun hHeld => ?_); (focus (try dsimp only); go_keep))
  (refine GG.k 0 ?_; refine GG.k 1 ?_; refine GG.k 2 ?_; refine GG.k 3 ?_; refine GG.k 4 ?_; refine GG.k 5 ?_; refine GG.k 6 ?_; refine GG.k 7 ?_)
  (refine GG.o 8 (fun K hK => ?_); go_simp; refine hK.out _ _ ?_ (fun hHeld => ?_); (focus (try dsimp only); go_keep); clear hK K; (try simp only [Act.put, qqa, qqb, qqc]))
  (refine GG.o 9 (fun K hK => ?_); (refine step_app3 (v := .slice Av0 (ns 3) cv0) (by rfl) _ _ stSk (by rfl) (by rfl) own0 (by rfl) (news := [.string ⟨t1.text.toArray⟩, .string ⟨x.text.toArray⟩, .int .i64 0, .int .i64 kd, .int .i64 t2.int, .int .i64 t3.int]) (by rfl) (litRd (heap_alloc_new _ _)) (fun h => by cases h) (by intro u hu; simp at hu; (repeat' (rcases hu with rfl | hu)); all_goals (first | rfl | (subst hu; rfl))) (by omega) (by first | exact Nat.zero_le _ | omega | (simp; omega)) ?_; intro vA wA ownA gA atA; have HA := Hd0.appOthers pkQ (i := 3) (by decide) HV0.out gA; have hAf := Hd0.after pkQ (i := 3) (by decide) HV0.out gA; obtain ⟨a7, g7, la⟩ := hAf; have a7' : wA.cell? ⟨p.pb, 9, none⟩ = some (.slice Av0 (ns 3) cv0) := a7; have g7' : wA.frozen? ⟨p.pb, 9, none⟩ = false := g7; clear a7 g7; obtain ⟨kB, kL, hcB⟩ := HS.get (z := z) HA; obtain ⟨k0, kf0⟩ := hcB 0; obtain ⟨k1, kf1⟩ := hcB 1; obtain ⟨k2, kf2⟩ := hcB 2; obtain ⟨k3, kf3⟩ := hcB 3; obtain ⟨k4, kf4⟩ := hcB 4; obtain ⟨k5, kf5⟩ := hcB 5; clear hcB; unfold sktC at k0 k1 k2 k3 k4 k5; obtain ⟨AB0, cB0, rfl, -, -⟩ := own_slice ownA); refine hK.out _ _ ?_ (fun hHeld => ?_); (focus (try dsimp only); go_keep); clear hK K; (try simp only [Act.put, qqa, qqb, qqc]))
  (refine GG.k 10 ?_; refine GG.k 11 ?_; refine GG.k 12 ?_; refine GG.k 13 ?_)
  (refine GG.l (fun K hK => ?_); go_simp; refine hK.out _ _ ?_; clear hK K)
  have HP0 : HS (wA.setCell ⟨p.pb, 9, none⟩ (.slice AB0 (ns 3 + 1) cB0)) _ := Hd0.push (new := (sktC ⟨t1.text, x.text, 0, kd, t2.int, t3.int⟩).toList) pkQ (i := 3) (by decide) HV0.out ownA gA atA
  generalize World.setCell _ _ _ = w12 at HP0 ⊢
  clear HA own0 Hd0 ownA gA atA kB kL yB yL k0 kf0 y0 yf0 k1 kf1 y1 yf1 k2 kf2 y2 yf2 k3 kf3 y3 yf3 k4 kf4 y4 yf4 k5 kf5 y5 yf5 a7' g7' c70 HV0 la lp0 hHeld H11
  obtain ⟨Av1, cv1, hv, c7, lp1⟩ := HP0.rcell2 (j := 19) pkQ (by decide) (by decide)
  have c71 : w12.cell? ⟨p.pb, 25, none⟩ = some (.slice Av1 (ns 19) cv1) := c7
  have HV1 := Lib.hid hv
  clear hv c7
  have Hd1 := HP0.drew.alloc (plC (x, y)) 147
  have own1 : (w12.drew.alloc (.cells (plC (x, y)) 147)).ownsRow (p.pb + 1) 147 8 (.slice Av1 (ns 19) cv1) (ns 19) (cs 19) := Hd1.rown2 pkQ (j := 19) (by decide) (by decide) HV1.out
  unfold plC at own1
  obtain ⟨yB, yL, hcB⟩ := HS.get (z := zp) HP0; obtain ⟨y0, yf0⟩ := hcB 0; obtain ⟨y1, yf1⟩ := hcB 1; obtain ⟨y2, yf2⟩ := hcB 2; obtain ⟨y3, yf3⟩ := hcB 3; obtain ⟨y4, yf4⟩ := hcB 4; obtain ⟨y5, yf5⟩ := hcB 5; obtain ⟨y6, yf6⟩ := hcB 6; obtain ⟨y7, yf7⟩ := hcB 7; clear hcB; unfold plC at y0 y1 y2 y3 y4 y5 y6 y7
  go_upto_region 14 with fail
  (refine wp_region_G 12 (fun w' => w'.cell? ⟨p.pb, 25, none⟩ = some (.slice Av1 (ns 19) cv1) ∧ w'.cell? ⟨zp, 0, none⟩ = some (.int .i64 x.kind) ∧ w'.cell? ⟨zp, 1, none⟩ = some (.string ⟨x.text.toArray⟩) ∧ w'.cell? ⟨zp, 2, none⟩ = some (.int .i64 x.int) ∧ w'.cell? ⟨zp, 3, none⟩ = some (.int .i64 x.pos) ∧ w'.cell? ⟨zp, 4, none⟩ = some (.int .i64 y.kind) ∧ w'.cell? ⟨zp, 5, none⟩ = some (.string ⟨y.text.toArray⟩) ∧ w'.cell? ⟨zp, 6, none⟩ = some (.int .i64 y.int) ∧ w'.cell? ⟨zp, 7, none⟩ = some (.int .i64 y.pos)) (by kernel_rfl) ?_ (fun hHeld => ?_); (focus (try dsimp only); go_keep))
  (refine GG.k 0 ?_; refine GG.k 1 ?_; refine GG.k 2 ?_; refine GG.k 3 ?_; refine GG.k 4 ?_; refine GG.k 5 ?_; refine GG.k 6 ?_)
  (refine GG.o 7 (fun K hK => ?_); go_simp; refine hK.out _ _ ?_ (fun hHeld => ?_); (focus (try dsimp only); go_keep); clear hK K; (try simp only [Act.put, qqa, qqb, qqc]))
  (refine GG.o 8 (fun K hK => ?_); (refine step_app3 (v := .slice Av1 (ns 19) cv1) (by rfl) _ _ stPl (by rfl) (by rfl) own1 (by rfl) (news := [.int .i64 x.kind, .string ⟨x.text.toArray⟩, .int .i64 x.int, .int .i64 x.pos, .int .i64 y.kind, .string ⟨y.text.toArray⟩, .int .i64 y.int, .int .i64 y.pos]) (by rfl) (litRd (heap_alloc_new _ _)) (fun h => by cases h) (by intro u hu; simp at hu; (repeat' (rcases hu with rfl | hu)); all_goals (first | rfl | (subst hu; rfl))) (by omega) (by first | exact Nat.zero_le _ | omega | (simp; omega)) ?_; intro vA wA ownA gA atA; have HA := Hd1.appOthers pkQ (i := 19) (by decide) HV1.out gA; have hAf := Hd1.after2 pkQ (j := 19) (by decide) HV1.out gA; obtain ⟨a7, g7, la⟩ := hAf; have a7' : wA.cell? ⟨p.pb, 25, none⟩ = some (.slice Av1 (ns 19) cv1) := a7; have g7' : wA.frozen? ⟨p.pb, 25, none⟩ = false := g7; clear a7 g7; obtain ⟨kB, kL, hcB⟩ := HS.get (z := zp) HA; obtain ⟨k0, kf0⟩ := hcB 0; obtain ⟨k1, kf1⟩ := hcB 1; obtain ⟨k2, kf2⟩ := hcB 2; obtain ⟨k3, kf3⟩ := hcB 3; obtain ⟨k4, kf4⟩ := hcB 4; obtain ⟨k5, kf5⟩ := hcB 5; obtain ⟨k6, kf6⟩ := hcB 6; obtain ⟨k7, kf7⟩ := hcB 7; clear hcB; unfold plC at k0 k1 k2 k3 k4 k5 k6 k7; obtain ⟨AB1, cB1, rfl, -, -⟩ := own_slice ownA); refine hK.out _ _ ?_ (fun hHeld => ?_); (focus (try dsimp only); go_keep); clear hK K; (try simp only [Act.put, qqa, qqb, qqc]))
  (refine GG.k 9 ?_; refine GG.k 10 ?_; refine GG.k 11 ?_)
  (refine GG.l (fun K hK => ?_); go_simp; refine hK.out _ _ ?_; clear hK K)
  have HP1 : HS (wA.setCell ⟨p.pb, 25, none⟩ (.slice AB1 (ns 19 + 1) cB1)) _ := Hd1.push2 (new2 := (plC (x, y)).toList) pkQ (j := 19) (by decide) (by decide) HV1.out ownA gA atA
  go_end0
  exact ⟨rfl, _, _, HP1.sub pkQ⟩
theorem strV_snoc (l : List Bs) (b : Bs) : (l ++ [b]).map strV = l.map strV ++ [strV b] := by simp
def BInv (p : Pp) (ns : Nat → Nat) (cs : Nat → List Value) (pool : Pool) (b1 zb : Nat) (name : Bs) (l : List HA) (w : World) (s : Ps) (acc : List Bs) : Prop :=
  ∃ v, HS w (dA p s ns cs pool :: boxA b1 (ptrC p.pb) 50 :: boxA zb (bkpC name v 0) 264 :: rowA 9 1 v acc.length (acc.map strV) :: l)
theorem backup1_c {b1 zb : Nat} {name : Bs} (w : World) (s : Ps) (acc : List Bs) (hl : acc.length ≤ 100000) (h : BInv p ns cs pool b1 zb name l w s acc) :
    Calls Tryz.prog 200 #[.pointer (some ⟨zb, 0, none⟩), .pointer (some ⟨b1, 0, none⟩)] w fun e w' => e = .returned (.tuple #[]) ∧ BInv p ns cs pool b1 zb name l w' (nameP p.e s).2 (acc ++ [(nameP p.e s).1]) := by
  obtain ⟨v, H⟩ := h
  obtain ⟨R, hR⟩ : ∃ R, nameP p.e s = R := ⟨_, rfl⟩
  rw [hR]
  unfold nameP at hR
  have h1 := fun w1 l1 l2 (H : HS w1 l1) (hp : Pick l1 (dA p s ns cs pool) l2) => name_s H hp
  generalize takeP p.e s 1 = q at h1 hR
  obtain ⟨t1, s1⟩ := q
  unfold PartPost at h1
  dsimp only at h1 hR
  subst hR
  obtain ⟨An, cn, rfl⟩ := H.slice (v := v) pkQ
  have Hd := H.drew
  obtain ⟨xB, xL, hcB⟩ := HS.get (z := b1) H; obtain ⟨x0, xf0⟩ := hcB 0; clear hcB; unfold ptrC at x0
  obtain ⟨vB, vL, hcB⟩ := HS.get (z := zb) H; obtain ⟨v1, vf1⟩ := hcB 1; clear hcB; unfold bkpC at v1
  go_enter Tryz.func200, Tryz.ntmps200
  (refine wp_region_G 7 (fun w' => w'.cell? ⟨b1, 0, none⟩ = some (.pointer (some ⟨p.pb, 0, none⟩)) ∧ w'.cell? ⟨zb, 1, none⟩ = some (.slice An acc.length cn)) (by kernel_rfl) ?_ (fun hHeld => ?_); (focus (try dsimp only); go_keep))
  (refine GG.k 0 ?_; refine GG.k 1 ?_; refine GG.k 2 ?_)
  (refine GG.o 3 (fun K hK => ?_); (go_simp; go_at_call 189; (with_reducible refine (h1 _ _ _ Hd pkQ).mono ?_); rintro e w5 ⟨rfl, H5⟩; obtain ⟨mB, mL, hcB⟩ := HS.get (z := b1) H5; obtain ⟨m0, mf0⟩ := hcB 0; clear hcB; unfold ptrC at m0; obtain ⟨kB, kL, hcB⟩ := HS.get (z := zb) H5; obtain ⟨k1, kf1⟩ := hcB 1; clear hcB; unfold bkpC at k1); refine hK.out _ _ ?_ (fun hHeld => ?_); (focus (try dsimp only); go_keep); clear hK K; (try simp only [Act.put, qqa, qqb, qqc]))
  have H7 := H5.alloc #[.string ⟨t1.text.toArray⟩] 9
  have own7 := H7.row (v := .slice An acc.length cn) pkQ
  (refine GG.o 4 (fun K hK => ?_); go_simp; refine hK.out _ _ ?_ (fun hHeld => ?_); (focus (try dsimp only); go_keep); clear hK K; (try simp only [Act.put, qqa, qqb, qqc]))
  (refine GG.o 5 (fun K hK => ?_); (refine step_app3 (v := .slice An acc.length cn) (by rfl) _ _ stS (by rfl) (by rfl) own7 (by rfl) (news := [.string ⟨t1.text.toArray⟩]) (by rfl) (litRd (heap_alloc_new _ _)) (fun h => by cases h) (by intro u hu; simp at hu; (repeat' (rcases hu with rfl | hu)); all_goals (first | rfl | (subst hu; rfl))) (by omega) (by first | exact Nat.zero_le _ | omega | (simp; omega)) ?_; intro vA wA ownA gA atA; have HA := H7.app (v := .slice An acc.length cn) pkQ ownA gA atA; obtain ⟨oB, oL, hcB⟩ := HS.get (z := b1) HA; obtain ⟨o0, of0⟩ := hcB 0; clear hcB; unfold ptrC at o0; obtain ⟨gB, gL, hcB⟩ := HS.get (z := zb) HA; obtain ⟨g1, gf1⟩ := hcB 1; clear hcB; unfold bkpC at g1; obtain ⟨AB, cB, rfl, -, -⟩ := own_slice ownA); refine hK.out _ _ ?_ (fun hHeld => ?_); (focus (try dsimp only); go_keep); clear hK K; (try simp only [Act.put, qqa, qqb, qqc]))
  (refine GG.k 6 ?_)
  (refine GG.l (fun K hK => ?_); go_simp; refine hK.out _ _ ?_; clear hK K)
  go_end0
  refine ⟨rfl, .slice AB (acc.length + 1) cB, ?_⟩
  have e1 : (acc ++ [t1.text]).length = acc.length + 1 := by simp
  have e2 : ([strV t1.text] : List Value) = [.string ⟨t1.text.toArray⟩] := rfl
  rw [strV_snoc, e1, e2]
  exact (HA.storeTo (z := zb) pkQ 1 _ (bkpC name (.slice AB (acc.length + 1) cB) 0) rfl).sub pkQ
theorem backup_s (hN : p.e.okN) (hn7 : ns 7 ≤ 100000) (H : HS w (dA p s ns cs pool :: l)) :
    Calls Tryz.prog 141 #[.pointer (some ⟨p.pb, 0, none⟩)] w (fun e w' => e = .returned (.tuple #[]) ∧ ∃ v1 v, HS w' (dA (p.withRow 7 v1) (backupP p.e s).2 (pushN ns 7) (pushC cs 7 (bkpC (backupP p.e s).1.name v (backupP p.e s).1.keep).toList) pool :: rowA 9 1 v (backupP p.e s).1.tables.length ((backupP p.e s).1.tables.map strV) :: l)) := by
  obtain ⟨R, hR⟩ : ∃ R, backupP p.e s = R := ⟨_, rfl⟩
  rw [hR]
  have hfew := (H.few pkQ).1
  unfold backupP at hR
  rw [show nameP p.e s = ((takeP p.e s 1).1.text, (takeP p.e s 1).2) from rfl] at hR
  have h1 := fun w1 l1 l2 (H : HS w1 l1) (hp : Pick l1 (dA p s ns cs pool) l2) => name_s H hp
  generalize takeP p.e s 1 = q at h1 hR
  obtain ⟨t1, s1⟩ := q
  unfold PartPost at h1
  dsimp only at h1 hR
  rw [show ([wOf] : List Bs) = [[111, 102]] from rfl] at hR
  have h2 := fun w1 l1 l2 (H : HS w1 l1) (hp : Pick l1 (dA p s1 ns cs pool) l2) => exp1_s H hp [111, 102]
  generalize expectP p.e s1 [[111, 102]] = q at h2 hR
  obtain ⟨wd2, s2⟩ := q
  unfold PartPost at h2
  dsimp only at h2 hR
  obtain ⟨L, hL⟩ : ∃ L, listP p.e (nameP p.e) s2 = L := ⟨_, rfl⟩
  rw [hL] at hR
  obtain ⟨tbs, s3⟩ := L
  dsimp only at hR
  unfold numP at hR
  have h4 := fun w1 l1 l2 (H : HS w1 l1) (hp : Pick l1 (dA p s3 ns cs pool) l2) => exp1_s H hp [107, 101, 101, 112]
  generalize expectP p.e s3 [[107, 101, 101, 112]] = q at h4 hR
  obtain ⟨wd4, s4⟩ := q
  unfold PartPost at h4
  dsimp only at h4 hR
  have h5 := fun w1 l1 l2 (H : HS w1 l1) (hp : Pick l1 (dA p s4 ns cs pool) l2) => number_s hN H hp
  generalize takeP p.e s4 2 = q at h5 hR
  obtain ⟨t3, s5⟩ := q
  unfold PartPost at h5
  dsimp only at h5 hR
  subst hR
  go_enter Tryz.func141, Tryz.ntmps141
  go_upto_region 1 with fail
  obtain ⟨b1, w1, ez, ew, H1⟩ := H.alloc_ex (ptrC p.pb) 50
  unfold ptrC at ew
  rw [ew, ez]
  clear ez ew H
  obtain ⟨xB, xL, hcB⟩ := HS.get (z := b1) H1; obtain ⟨x0, xf0⟩ := hcB 0; clear hcB; unfold ptrC at x0
  go_upto_region 2 with (go_at_call 189; (with_reducible refine (h1 _ _ _ H1 pkQ).mono ?_); rintro e w2 ⟨rfl, H2⟩)
  clear xB x0 xf0 xL H1 h1
  obtain ⟨zb, w3, ez, ew, H3⟩ := H2.alloc_ex (bkpC t1.text (.slice none 0 0) 0) 264
  unfold bkpC at ew
  rw [ew, ez]
  clear ez ew H2
  obtain ⟨xB, xL, hcB⟩ := HS.get (z := b1) H3; obtain ⟨x0, xf0⟩ := hcB 0; clear hcB; unfold ptrC at x0
  go_upto_region 3 with (go_at_call 88; (with_reducible refine (h2 _ _ _ H3 pkQ).mono ?_); rintro e w4 ⟨rfl, H4⟩)
  clear xB x0 xf0 xL H3 h2
  obtain ⟨xB, xL, hcB⟩ := HS.get (z := b1) H4; obtain ⟨x0, xf0⟩ := hcB 0; clear hcB; unfold ptrC at x0
  have I0 : BInv p ns cs pool b1 zb t1.text l w4 s2 [] := ⟨.slice none 0 0, by
    simp only [List.length_nil, List.map_nil]
    exact (H4.rowNil 9 1).sub pkQ⟩
  have hLi := list_s (p := p) 200 (fun _ _ => rfl) #[] #[.pointer (some ⟨zb, 0, none⟩), .pointer (some ⟨b1, 0, none⟩)] (nameP p.e) (BInv p ns cs pool b1 zb t1.text l)
    (fun w s acc ⟨v, H⟩ => ⟨_, _, ns, cs, pool, H, .here, fun w' s' H' => ⟨v, H'⟩⟩)
    (fun sa hsa => (fwd_name hsa).1) (acc0 := []) (fun wa sa acc hl HI => backup1_c wa sa acc (by simp at hl; omega) HI) I0
  rw [hL, List.nil_append] at hLi
  dsimp only at hLi
  clear I0 hL
  go_upto_region 4 with (go_at_call 190; (with_reducible refine hLi.mono ?_); rintro e w5 ⟨rfl, v, H5⟩)
  clear hLi H4 xB x0 xf0 xL
  obtain ⟨An, cn, rfl⟩ := H5.slice (v := v) pkQ
  obtain ⟨xB, xL, hcB⟩ := HS.get (z := b1) H5; obtain ⟨x0, xf0⟩ := hcB 0; clear hcB; unfold ptrC at x0
  go_upto_region 5 with (go_at_call 88; (with_reducible refine (h4 _ _ _ H5 pkQ).mono ?_); rintro e w6 ⟨rfl, H6⟩)
  clear H5 h4 xB x0 xf0 xL
  obtain ⟨xB, xL, hcB⟩ := HS.get (z := b1) H6; obtain ⟨x0, xf0⟩ := hcB 0; clear hcB; unfold ptrC at x0
  go_upto_region 6 with (go_at_call 193; (with_reducible refine (h5 _ _ _ H6 pkQ).mono ?_); rintro e w7 ⟨rfl, H7⟩; obtain ⟨dB, dL, hcB⟩ := HS.get (z := zb) H7; obtain ⟨d2, df2⟩ := hcB 2; clear hcB; unfold bkpC at d2)
  clear H6 h5 xB x0 xf0 xL
  have H8 := H7.storeTo (z := zb) pkQ 2 (.int .i64 t3.int) (bkpC t1.text (.slice An tbs.length cn) t3.int) rfl
  generalize World.setCell _ _ _ = w8 at H8 ⊢
  clear H7 dB dL d2 df2
  obtain ⟨Av0, cv0, hv, c7, f7, lp0, -⟩ := H8.rcell (i := 7) pkQ (by decide)
  have c70 : w8.cell? ⟨p.pb, 13, none⟩ = some (.slice Av0 (ns 7) cv0) := c7
  have HV0 := Lib.hid hv
  clear hv c7 f7
  have Hd0 := H8.drew.alloc (bkpC t1.text (.slice An tbs.length cn) t3.int) 264
  have own0 : (w8.drew.alloc (.cells (bkpC t1.text (.slice An tbs.length cn) t3.int) 264)).ownsRow (p.pb + 1) 264 3 (.slice Av0 (ns 7) cv0) (ns 7) (cs 7) := Hd0.rown pkQ (i := 7) (by decide) HV0.out
  unfold bkpC at own0
  obtain ⟨yB, yL, hcB⟩ := HS.get (z := zb) H8; obtain ⟨y0, yf0⟩ := hcB 0; obtain ⟨y1, yf1⟩ := hcB 1; obtain ⟨y2, yf2⟩ := hcB 2; clear hcB; unfold bkpC at y0 y1 y2
  obtain ⟨xB, xL, hcB⟩ := HS.get (z := b1) H8; obtain ⟨x0, xf0⟩ := hcB 0; clear hcB; unfold ptrC at x0
  go_upto_region 6 with fail
  (refine wp_region_G 14 (fun w' => w'.cell? ⟨b1, 0, none⟩ = some (.pointer (some ⟨p.pb, 0, none⟩)) ∧ w'.cell? ⟨p.pb, 13, none⟩ = some (.slice Av0 (ns 7) cv0) ∧ w'.cell? ⟨zb, 0, none⟩ = some (.string ⟨t1.text.toArray⟩) ∧ w'.cell? ⟨zb, 1, none⟩ = some (.slice An tbs.length cn) ∧ w'.cell? ⟨zb, 2, none⟩ = some (.int .i64 t3.int)) (by kernel_rfl) ?_ (fun hHeld => ?_); (focus (try dsimp only); go_keep))
  (refine GG.k 0 ?_; refine GG.k 1 ?_; refine GG.k 2 ?_; refine GG.k 3 ?_; refine GG.k 4 ?_; refine GG.k 5 ?_; refine GG.k 6 ?_; refine GG.k 7 ?_)
  (refine GG.o 8 (fun K hK => ?_); go_simp; refine hK.out _ _ ?_ (fun hHeld => ?_); (focus (try dsimp only); go_keep); clear hK K; (try simp only [Act.put, qqa, qqb, qqc]))
  (refine GG.o 9 (fun K hK => ?_); (refine step_app3 (v := .slice Av0 (ns 7) cv0) (by rfl) _ _ stBk (by rfl) (by rfl) own0 (by rfl) (news := [.string ⟨t1.text.toArray⟩, .slice An tbs.length cn, .int .i64 t3.int]) (by rfl) (litRd (heap_alloc_new _ _)) (fun h => by cases h) (by intro u hu; simp at hu; (repeat' (rcases hu with rfl | hu)); all_goals (first | rfl | (subst hu; rfl))) (by omega) (by first | exact Nat.zero_le _ | omega | (simp; omega)) ?_; intro vA wA ownA gA atA; have HA := Hd0.appOthers pkQ (i := 7) (by decide) HV0.out gA; have hAf := Hd0.after pkQ (i := 7) (by decide) HV0.out gA; obtain ⟨a7, g7, la⟩ := hAf; have a7' : wA.cell? ⟨p.pb, 13, none⟩ = some (.slice Av0 (ns 7) cv0) := a7; have g7' : wA.frozen? ⟨p.pb, 13, none⟩ = false := g7; clear a7 g7; obtain ⟨mB, mL, hcB⟩ := HS.get (z := b1) HA; obtain ⟨m0, mf0⟩ := hcB 0; clear hcB; unfold ptrC at m0; obtain ⟨kB, kL, hcB⟩ := HS.get (z := zb) HA; obtain ⟨k0, kf0⟩ := hcB 0; obtain ⟨k1, kf1⟩ := hcB 1; obtain ⟨k2, kf2⟩ := hcB 2; clear hcB; unfold bkpC at k0 k1 k2; obtain ⟨AB0, cB0, rfl, -, -⟩ := own_slice ownA); refine hK.out _ _ ?_ (fun hHeld => ?_); (focus (try dsimp only); go_keep); clear hK K; (try simp only [Act.put, qqa, qqb, qqc]))
  (refine GG.k 10 ?_; refine GG.k 11 ?_; refine GG.k 12 ?_; refine GG.k 13 ?_)
  (refine GG.l (fun K hK => ?_); go_simp; refine hK.out _ _ ?_; clear hK K)
  have HP0 : HS (wA.setCell ⟨p.pb, 13, none⟩ (.slice AB0 (ns 7 + 1) cB0)) _ := Hd0.push (new := (bkpC t1.text (.slice An tbs.length cn) t3.int).toList) pkQ (i := 7) (by decide) HV0.out ownA gA atA
  go_end0
  exact ⟨rfl, _, .slice An tbs.length cn, HP0.sub pkQ⟩
end
end Go.Proofs.YtpnfbehbheddeaaGreatDoor
