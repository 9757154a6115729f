/- Contracts of place and of the declarations but tables and views. The numbers of the tokens are from 0 to 2^32. Written by wip/declgen.py. -/
import Derived.Test.YtgnmnaclndkmdaaGreatDoorBn24
namespace Go.Proofs.YtgnmnaclndkmdaaGreatDoor
open Go.RowKit

/-- A store and a column, in eight cells. -/
def plC (x : Tk × Tk) : Array Value := #[.int .i64 x.1.kind, .string ⟨x.1.text.toArray⟩, .int .i64 x.1.int, .int .i64 x.1.pos, .int .i64 x.2.kind, .string ⟨x.2.text.toArray⟩, .int .i64 x.2.int, .int .i64 x.2.pos]
def idxC (x : Idx) : Array Value := #[.string ⟨x.name.toArray⟩, .string ⟨x.source.toArray⟩, .int .i64 x.column]
def sktC (x : Skt) : Array Value := #[.string ⟨x.name.toArray⟩, .string ⟨x.source.toArray⟩, .int .i64 x.column, .int .i64 x.kind, .int .i64 x.width, .int .i64 x.depth]
def cchC (x : Cch) : Array Value := #[.string ⟨x.name.toArray⟩, .string ⟨x.source.toArray⟩, .int .i64 x.column, .int .i64 x.ttl]
def rlsC (x : Rls) : Array Value := #[.string ⟨x.name.toArray⟩, .string ⟨x.source.toArray⟩, .int .i64 x.threshold]
def bkpC (name : Bs) (v : Value) (keep : Int) : Array Value := #[.string ⟨name.toArray⟩, v, .int .i64 keep]
def indexP (e : Src) (s : Ps) : (Bs × (Tk × Tk)) × Ps :=
  let n := nameP e s
  let p := placeP e (expectP e n.2 [wOn]).2
  ((n.1, p.1), p.2)
def sketchP (e : Src) (s : Ps) : (Bs × Bs × Int × Int × (Tk × Tk)) × Ps :=
  let n := nameP e s
  let w := expectP e n.2 wSketches
  let a := numP e w.2
  let b := numP e a.2
  let p := placeP e (expectP e b.2 [wOn]).2
  ((n.1, w.1, a.1, b.1, p.1), p.2)
def cacheP (e : Src) (s : Ps) : (Bs × (Tk × Tk) × Int) × Ps :=
  let n := nameP e s
  let p := placeP e (expectP e n.2 [wOn]).2
  let a := numP e (expectP e p.2 [[102, 111, 114]]).2
  ((n.1, p.1, a.1), a.2)
def releaseP (e : Src) (s : Ps) : Rls × Ps :=
  let n := nameP e s
  let o := nameP e (expectP e n.2 [wOf]).2
  let a := numP e (expectP e o.2 [[97, 98, 111, 118, 101]]).2
  (⟨n.1, o.1, a.1⟩, a.2)
def streamP (e : Src) (s : Ps) : Stm × Ps :=
  let n := nameP e s
  let o := nameP e (expectP e n.2 [wOf]).2
  (⟨n.1, o.1⟩, o.2)
def backupP (e : Src) (s : Ps) : Bkp × Ps :=
  let n := nameP e s
  let l := listP e (nameP e) (expectP e n.2 [wOf]).2
  let a := numP e (expectP e l.2 [[107, 101, 101, 112]]).2
  (⟨n.1, l.1, a.1⟩, a.2)
theorem stIx : SliceTy Tryz.prog 42 145 3 40 := SliceTy.mk' Tryz.underlying42 (z := .agg #[.string ⟨#[]⟩, .string ⟨#[]⟩, .int .i64 0]) (by kernel_rfl) rfl (by decide) (by decide)
theorem stSk : SliceTy Tryz.prog 43 147 6 64 := SliceTy.mk' Tryz.underlying43 (z := .agg #[.string ⟨#[]⟩, .string ⟨#[]⟩, .int .i64 0, .int .i64 0, .int .i64 0, .int .i64 0]) (by kernel_rfl) rfl (by decide) (by decide)
theorem stCc : SliceTy Tryz.prog 44 149 4 48 := SliceTy.mk' Tryz.underlying44 (z := .agg #[.string ⟨#[]⟩, .string ⟨#[]⟩, .int .i64 0, .int .i64 0]) (by kernel_rfl) rfl (by decide) (by decide)
theorem stRl : SliceTy Tryz.prog 45 235 3 40 := SliceTy.mk' Tryz.underlying45 (z := .agg #[.string ⟨#[]⟩, .string ⟨#[]⟩, .int .i64 0]) (by kernel_rfl) rfl (by decide) (by decide)
theorem stBk : SliceTy Tryz.prog 47 239 3 48 := SliceTy.mk' Tryz.underlying47 (z := .agg #[.string ⟨#[]⟩, .slice none 0 0, .int .i64 0]) (by kernel_rfl) rfl (by decide) (by decide)
theorem stPl : SliceTy Tryz.prog 54 141 8 80 := SliceTy.mk' Tryz.underlying54 (z := .agg #[.int .i64 0, .string ⟨#[]⟩, .int .i64 0, .int .i64 0, .int .i64 0, .string ⟨#[]⟩, .int .i64 0, .int .i64 0]) (by kernel_rfl) rfl (by decide) (by decide)
section
variable {p : Pp} {w w' : World} {s s' : Ps} {ns : Nat → Nat} {cs : Nat → List Value} {pool : Pool} {l l' : List HA}
set_option maxRecDepth 100000 in
set_option maxHeartbeats 8000000 in
theorem place_s (H : HS w l) (hp : Pick l (dA p s ns cs pool) l') : Calls Tryz.prog 155 #[.pointer (some ⟨p.pb, 0, none⟩)] w (PartPost (.agg (plC (placeP p.e s).1)) (dA p (placeP p.e s).2 ns cs pool :: l')) := by
  obtain ⟨R, hR⟩ : ∃ R, placeP p.e s = R := ⟨_, rfl⟩
  rw [hR]
  have H := H.pick hp
  unfold placeP at hR
  have h1 := fun w1 l1 l2 (H : HS w1 l1) (hp : Pick l1 (dA p s ns cs pool) l2) => takeName_s H hp
  generalize takeP p.e s 1 = q at h1 hR
  obtain ⟨t1, s1⟩ := q
  unfold PartPost at h1
  dsimp only at h1 hR
  have h2 := fun w1 l1 l2 (H : HS w1 l1) (hp : Pick l1 (dA p s1 ns cs pool) l2) => exp1_s H hp [46]
  generalize expectP p.e s1 [[46]] = q at h2 hR
  obtain ⟨wd2, s2⟩ := q
  unfold PartPost at h2
  dsimp only at h2 hR
  have h3 := fun w1 l1 l2 (H : HS w1 l1) (hp : Pick l1 (dA p s2 ns cs pool) l2) => takeName_s H hp
  generalize takeP p.e s2 1 = q at h3 hR
  obtain ⟨t2, s3⟩ := q
  unfold PartPost at h3
  dsimp only at h3 hR
  subst hR
  clear hp
  go_enter Tryz.func155, Tryz.ntmps155
  go_upto_region 1 with fail
  obtain ⟨zr, w0, ez, ew, H0⟩ := H.alloc_ex (plC (Tk.zero, Tk.zero)) 141
  unfold plC Tk.zero at ew
  dsimp only at ew
  rw [ew, ez]
  clear ez ew H
  go_upto_region 2 with (go_at_call 154; (with_reducible refine (h1 _ _ _ H0 (by with_reducible repeat constructor)).mono ?_); rintro e w1 ⟨rfl, H1⟩)
  clear H0 h1
  obtain ⟨z, w2, ez, ew, H2⟩ := H1.alloc_ex (tkC t1) 83
  unfold tkC at ew
  rw [ew, ez]
  clear ez ew H1
  go_upto_region 3 with (go_at_call 71; (with_reducible refine (h2 _ _ _ H2 (by with_reducible repeat constructor)).mono ?_); rintro e w3 ⟨rfl, H3⟩)
  clear H2 h2
  have Hd := H3.drew
  have hne := H3.ne (z := z) (y := zr) (by with_reducible repeat constructor) (by with_reducible repeat constructor)
  have dB := HS.box (z := z) H3 (by with_reducible repeat constructor); have dL := Box.lt dB; obtain ⟨hcB, hfB⟩ := Box.cells dB; have d0 := hcB 0; have df0 := hfB 0; have d1 := hcB 1; have df1 := hfB 1; have d2 := hcB 2; have df2 := hfB 2; have d3 := hcB 3; have df3 := hfB 3; clear hcB hfB; unfold tkC at d0 d1 d2 d3
  (refine wp_region_G 4 (fun w' => w'.cell? ⟨z, 0, none⟩ = some (.int .i64 t1.kind) ∧ w'.cell? ⟨z, 1, none⟩ = some (.string ⟨t1.text.toArray⟩) ∧ w'.cell? ⟨z, 2, none⟩ = some (.int .i64 t1.int) ∧ w'.cell? ⟨z, 3, none⟩ = some (.int .i64 t1.pos)) (by kernel_rfl) ?_ (fun hHeld => ?_); (focus (try dsimp only); go_keep))
  (refine GG.tk 0 (v := ?_) rfl (by kernel_rfl) (fun _ _ _ h => h) (by rfl) (by assumption) ?_ ?_; rotate_left; (focus (intro w h; (try dsimp only at h); go_simp; (try with_reducible rfl))); (try simp only [Act.put, qqa]); refine GG.tk 1 (v := ?_) rfl (by kernel_rfl) (fun _ _ _ h => h) (by rfl) (by assumption) ?_ ?_; rotate_left; (focus (intro w h; (try dsimp only at h); go_simp; (try with_reducible rfl))); (try simp only [Act.put]))
  (refine GG.one 2 (by kernel_rfl) (by decide) rfl (fun K hK => ?_); (go_simp; go_at_call 154; (with_reducible refine (h3 _ _ _ Hd (by with_reducible repeat constructor)).mono ?_); rintro e w5 ⟨rfl, H5⟩; have iB := HS.box (z := z) H5 (by with_reducible repeat constructor); have iL := Box.lt iB; obtain ⟨hcB, hfB⟩ := Box.cells iB; have i0 := hcB 0; have if0 := hfB 0; have i1 := hcB 1; have if1 := hfB 1; have i2 := hcB 2; have if2 := hfB 2; have i3 := hcB 3; have if3 := hfB 3; clear hcB hfB; unfold tkC at i0 i1 i2 i3; have kB := HS.box (z := zr) H5 (by with_reducible repeat constructor); have kL := Box.lt kB; obtain ⟨hcB, hfB⟩ := Box.cells kB; have k0 := hcB 0; have kf0 := hfB 0; have k1 := hcB 1; have kf1 := hfB 1; have k2 := hcB 2; have kf2 := hfB 2; have k3 := hcB 3; have kf3 := hfB 3; have k4 := hcB 4; have kf4 := hfB 4; have k5 := hcB 5; have kf5 := hfB 5; have k6 := hcB 6; have kf6 := hfB 6; have k7 := hcB 7; have kf7 := hfB 7; clear hcB hfB; unfold plC at k0 k1 k2 k3 k4 k5 k6 k7); refine hK.out _ _ ?_ (fun hHeld => ?_); (focus (try dsimp only); go_keep); clear hK K; (try simp only [Act.put, qqa, qqb, qqc]))
  (refine GG.tk 3 (v := ?_) rfl (by kernel_rfl) (fun _ _ _ h => h) (by rfl) (by assumption) ?_ ?_; rotate_left; (focus (intro w h; (try dsimp only at h); go_simp; (try with_reducible rfl))); (try simp only [Act.put, qqa]))
  (refine GG.last (by kernel_rfl) (by kernel_rfl) rfl (fun K hK => ?_); go_simp; refine hK.out _ _ ?_; clear hK K)
  clear h3 H3 Hd dB dL d0 d1 d2 d3 df0 df1 df2 df3 hHeld
  have H6 := (((((((H5.store (z := zr) (by with_reducible repeat constructor) 0 (.int .i64 t1.kind)).store (z := zr) (by with_reducible repeat constructor) 1 (.string ⟨t1.text.toArray⟩)).store (z := zr) (by with_reducible repeat constructor) 2 (.int .i64 t1.int)).store (z := zr) (by with_reducible repeat constructor) 3 (.int .i64 t1.pos)).store (z := zr) (by with_reducible repeat constructor) 4 (.int .i64 t2.kind)).store (z := zr) (by with_reducible repeat constructor) 5 (.string ⟨t2.text.toArray⟩)).store (z := zr) (by with_reducible repeat constructor) 6 (.int .i64 t2.int)).storeTo (z := zr) (by with_reducible repeat constructor) 7 (.int .i64 t2.pos) (plC (t1, t2)) rfl
  generalize World.setCell _ _ _ = w6 at H6 ⊢
  clear H5 iB iL i0 i1 i2 i3 if0 if1 if2 if3 kB kL k0 k1 k2 k3 k4 k5 k6 k7 kf0 kf1 kf2 kf3 kf4 kf5 kf6 kf7
  have kB := HS.box (z := zr) H6 (by with_reducible repeat constructor); have kL := Box.lt kB; obtain ⟨hcB, hfB⟩ := Box.cells kB; have k0 := hcB 0; have kf0 := hfB 0; have k1 := hcB 1; have kf1 := hfB 1; have k2 := hcB 2; have kf2 := hfB 2; have k3 := hcB 3; have kf3 := hfB 3; have k4 := hcB 4; have kf4 := hfB 4; have k5 := hcB 5; have kf5 := hfB 5; have k6 := hcB 6; have kf6 := hfB 6; have k7 := hcB 7; have kf7 := hfB 7; clear hcB hfB; unfold plC at k0 k1 k2 k3 k4 k5 k6 k7
  go_wp2_with fail
  refine bodyPost_ret (by simp [results, Tryz.results155, go_sem, k0, k1, k2, k3, k4, k5, k6, k7]; rfl) rfl ?_
  exact ⟨rfl, H6.sub (by with_reducible repeat constructor)⟩
set_option maxRecDepth 100000 in
set_option maxHeartbeats 8000000 in
theorem stream_s (_hN : p.e.okN) (hn6 : ns 6 ≤ 100000) (H : HS w (dA p s ns cs pool :: l)) :
    Calls Tryz.prog 109 #[.pointer (some ⟨p.pb, 0, none⟩)] w (fun e w' => e = .returned (.tuple #[]) ∧ ∃ v1, HS w' (dA (p.withRow 6 v1) (streamP p.e s).2 (pushN ns 6) (pushC cs 6 (stmC (streamP p.e s).1).toList) pool :: l)) := by
  obtain ⟨R, hR⟩ : ∃ R, streamP p.e s = R := ⟨_, rfl⟩
  rw [hR]
  unfold streamP nameP at hR
  try unfold numP at hR
  have h1 := fun w1 l1 l2 (H : HS w1 l1) (hp : Pick l1 (dA p s ns cs pool) l2) => name_s H hp
  generalize takeP p.e s 1 = q at h1 hR
  obtain ⟨t1, s1⟩ := q
  unfold PartPost at h1
  dsimp only at h1 hR
  rw [show ([wOf] : List Bs) = [[111, 102]] from rfl] at hR
  have h2 := fun w1 l1 l2 (H : HS w1 l1) (hp : Pick l1 (dA p s1 ns cs pool) l2) => exp1_s H hp [111, 102]
  generalize expectP p.e s1 [[111, 102]] = q at h2 hR
  obtain ⟨wd2, s2⟩ := q
  unfold PartPost at h2
  dsimp only at h2 hR
  have h3 := fun w1 l1 l2 (H : HS w1 l1) (hp : Pick l1 (dA p s2 ns cs pool) l2) => name_s H hp
  generalize takeP p.e s2 1 = q at h3 hR
  obtain ⟨t2, s3⟩ := q
  unfold PartPost at h3
  dsimp only at h3 hR
  subst hR
  go_enter Tryz.func109, Tryz.ntmps109
  go_upto_region 1 with (go_at_call 145; (with_reducible refine (h1 _ _ _ H (by with_reducible repeat constructor)).mono ?_); rintro e w1 ⟨rfl, H1⟩)
  clear H h1
  obtain ⟨z, w2, ez, ew, H2⟩ := H1.alloc_ex (stmC ⟨t1.text, []⟩) 237
  unfold stmC at ew
  try dsimp only at ew
  rw [ew, ez]
  clear ez ew H1
  go_upto_region 2 with (go_at_call 71; (with_reducible refine (h2 _ _ _ H2 (by with_reducible repeat constructor)).mono ?_); rintro e w3 ⟨rfl, H3⟩)
  clear H2 h2
  go_upto_region 3 with (go_at_call 145; (with_reducible refine (h3 _ _ _ H3 (by with_reducible repeat constructor)).mono ?_); rintro e w4 ⟨rfl, H4⟩; have dB := HS.box (z := z) H4 (by with_reducible repeat constructor); have dL := Box.lt dB; obtain ⟨hcB, hfB⟩ := Box.cells dB; have d1 := hcB 1; have df1 := hfB 1; clear hcB hfB; unfold stmC at d1)
  clear H3 h3
  have H5 := H4.storeTo (z := z) (by with_reducible repeat constructor) 1 (.string ⟨t2.text.toArray⟩) (stmC ⟨t1.text, t2.text⟩) rfl
  generalize World.setCell _ _ _ = w5 at H5 ⊢
  clear H4 dB dL d1 df1
  obtain ⟨Av0, cv0, hv, c7, f7, lp0, -⟩ := H5.rcell (i := 6) (by with_reducible repeat constructor) (by decide)
  have c70 : w5.cell? ⟨p.pb, 12, none⟩ = some (.slice Av0 (ns 6) cv0) := c7
  have HV0 := Lib.hid hv
  clear hv c7 f7
  have Hd0 := H5.drew.alloc (stmC ⟨t1.text, t2.text⟩) 237
  have own0 : (w5.drew.alloc (.cells (stmC ⟨t1.text, t2.text⟩) 237)).ownsRow (p.pb + 1) 237 2 (.slice Av0 (ns 6) cv0) (ns 6) (cs 6) := Hd0.rown (by with_reducible repeat constructor) (i := 6) (by decide) HV0.out
  unfold stmC at own0
  have yB := HS.box (z := z) H5 (by with_reducible repeat constructor); have yL := Box.lt yB; obtain ⟨hcB, hfB⟩ := Box.cells yB; have y0 := hcB 0; have yf0 := hfB 0; have y1 := hcB 1; have yf1 := hfB 1; clear hcB hfB; unfold stmC at y0 y1
  go_upto_region 3 with fail
  (refine wp_region_G 14 (fun w' => w'.cell? ⟨p.pb, 12, none⟩ = some (.slice Av0 (ns 6) cv0) ∧ w'.cell? ⟨z, 0, none⟩ = some (.string ⟨t1.text.toArray⟩) ∧ w'.cell? ⟨z, 1, none⟩ = some (.string ⟨t2.text.toArray⟩)) (by kernel_rfl) ?_ (fun hHeld => ?_); (focus (try dsimp only); go_keep))
  (refine GG.tk 0 (v := ?_) rfl (by kernel_rfl) (fun _ _ _ h => h) (by rfl) (by assumption) ?_ ?_; rotate_left; (focus (intro w h; (try dsimp only at h); go_simp; (try with_reducible rfl))); (try simp only [Act.put, qqa]); refine GG.tk 1 (v := ?_) rfl (by kernel_rfl) (fun _ _ _ h => h) (by rfl) (by assumption) ?_ ?_; rotate_left; (focus (intro w h; (try dsimp only at h); go_simp; (try with_reducible rfl))); (try simp only [Act.put]); refine GG.tk 2 (v := ?_) rfl (by kernel_rfl) (fun _ _ _ h => h) (by rfl) (by assumption) ?_ ?_; rotate_left; (focus (intro w h; (try dsimp only at h); go_simp; (try with_reducible rfl))); (try simp only [Act.put]); refine GG.tk 3 (v := ?_) rfl (by kernel_rfl) (fun _ _ _ h => h) (by rfl) (by assumption) ?_ ?_; rotate_left; (focus (intro w h; (try dsimp only at h); go_simp; (try with_reducible rfl))); (try simp only [Act.put]); refine GG.tk 4 (v := ?_) rfl (by kernel_rfl) (fun _ _ _ h => h) (by rfl) (by assumption) ?_ ?_; rotate_left; (focus (intro w h; (try dsimp only at h); go_simp; (try with_reducible rfl))); (try simp only [Act.put]); refine GG.tk 5 (v := ?_) rfl (by kernel_rfl) (fun _ _ _ h => h) (by rfl) (by assumption) ?_ ?_; rotate_left; (focus (intro w h; (try dsimp only at h); go_simp; (try with_reducible rfl))); (try simp only [Act.put]); refine GG.tk 6 (v := ?_) rfl (by kernel_rfl) (fun _ _ _ h => h) (by rfl) (by assumption) ?_ ?_; rotate_left; (focus (intro w h; (try dsimp only at h); go_simp; (try with_reducible rfl))); (try simp only [Act.put]); refine GG.tk 7 (v := ?_) rfl (by kernel_rfl) (fun _ _ _ h => h) (by rfl) (by assumption) ?_ ?_; rotate_left; (focus (intro w h; (try dsimp only at h); go_simp; (try with_reducible rfl))); (try simp only [Act.put]))
  (refine GG.one 8 (by kernel_rfl) (by decide) rfl (fun K hK => ?_); go_simp; refine hK.out _ _ ?_ (fun hHeld => ?_); (focus (try dsimp only); go_keep); clear hK K; (try simp only [Act.put, qqa, qqb, qqc]))
  (refine GG.one 9 (by kernel_rfl) (by decide) rfl (fun K hK => ?_); (refine step_app3 (v := .slice Av0 (ns 6) cv0) (by rfl) _ _ stStm (by rfl) (by rfl) own0 (by rfl) (news := [.string ⟨t1.text.toArray⟩, .string ⟨t2.text.toArray⟩]) (by rfl) (litRd (heap_alloc_new _ _)) (fun h => by cases h) (by intro u hu; simp at hu; (repeat' (rcases hu with rfl | hu)); all_goals (first | rfl | (subst hu; rfl))) (by omega) (by first | exact Nat.zero_le _ | omega | (simp; omega)) ?_; intro vA wA ownA gA atA; have HA := Hd0.appOthers (by with_reducible repeat constructor) (i := 6) (by decide) HV0.out gA; have hAf := Hd0.after (by with_reducible repeat constructor) (i := 6) (by decide) HV0.out gA; obtain ⟨a7, g7, la⟩ := hAf; have a7' : wA.cell? ⟨p.pb, 12, none⟩ = some (.slice Av0 (ns 6) cv0) := a7; have g7' : wA.frozen? ⟨p.pb, 12, none⟩ = false := g7; clear a7 g7; have kB := HS.box (z := z) HA (by with_reducible repeat constructor); have kL := Box.lt kB; obtain ⟨hcB, hfB⟩ := Box.cells kB; have k0 := hcB 0; have kf0 := hfB 0; have k1 := hcB 1; have kf1 := hfB 1; clear hcB hfB; unfold stmC at k0 k1; obtain ⟨AB0, cB0, rfl, -, -⟩ := own_slice ownA); refine hK.out _ _ ?_ (fun hHeld => ?_); (focus (try dsimp only); go_keep); clear hK K; (try simp only [Act.put, qqa]))
  (refine GG.tk 10 (v := ?_) rfl (by kernel_rfl) (fun _ _ _ h => h) (by rfl) (by assumption) ?_ ?_; rotate_left; (focus (intro w h; (try dsimp only at h); go_simp; (try with_reducible rfl))); (try simp only [Act.put]); refine GG.tk 11 (v := ?_) rfl (by kernel_rfl) (fun _ _ _ h => h) (by rfl) (by assumption) ?_ ?_; rotate_left; (focus (intro w h; (try dsimp only at h); go_simp; (try with_reducible rfl))); (try simp only [Act.put]); refine GG.tk 12 (v := ?_) rfl (by kernel_rfl) (fun _ _ _ h => h) (by rfl) (by assumption) ?_ ?_; rotate_left; (focus (intro w h; (try dsimp only at h); go_simp; (try with_reducible rfl))); (try simp only [Act.put]); refine GG.tk 13 (v := ?_) rfl (by kernel_rfl) (fun _ _ _ h => h) (by rfl) (by assumption) ?_ ?_; rotate_left; (focus (intro w h; (try dsimp only at h); go_simp; (try with_reducible rfl))); (try simp only [Act.put]))
  (refine GG.last (by kernel_rfl) (by kernel_rfl) rfl (fun K hK => ?_); go_simp; refine hK.out _ _ ?_; clear hK K)
  have HP0 : HS (wA.setCell ⟨p.pb, 12, none⟩ (.slice AB0 (ns 6 + 1) cB0)) _ := Hd0.push (new := (stmC ⟨t1.text, t2.text⟩).toList) (by with_reducible repeat constructor) (i := 6) (by decide) HV0.out ownA gA atA
  go_end0
  exact ⟨rfl, _, HP0.sub (by with_reducible repeat constructor)⟩
set_option maxRecDepth 100000 in
set_option maxHeartbeats 8000000 in
theorem release_s (hN : p.e.okN) (hn5 : ns 5 ≤ 100000) (H : HS w (dA p s ns cs pool :: l)) :
    Calls Tryz.prog 108 #[.pointer (some ⟨p.pb, 0, none⟩)] w (fun e w' => e = .returned (.tuple #[]) ∧ ∃ v1, HS w' (dA (p.withRow 5 v1) (releaseP p.e s).2 (pushN ns 5) (pushC cs 5 (rlsC (releaseP p.e s).1).toList) pool :: l)) := by
  obtain ⟨R, hR⟩ : ∃ R, releaseP p.e s = R := ⟨_, rfl⟩
  rw [hR]
  unfold releaseP nameP at hR
  try unfold numP at hR
  have h1 := fun w1 l1 l2 (H : HS w1 l1) (hp : Pick l1 (dA p s ns cs pool) l2) => name_s H hp
  generalize takeP p.e s 1 = q at h1 hR
  obtain ⟨t1, s1⟩ := q
  unfold PartPost at h1
  dsimp only at h1 hR
  rw [show ([wOf] : List Bs) = [[111, 102]] from rfl] at hR
  have h2 := fun w1 l1 l2 (H : HS w1 l1) (hp : Pick l1 (dA p s1 ns cs pool) l2) => exp1_s H hp [111, 102]
  generalize expectP p.e s1 [[111, 102]] = q at h2 hR
  obtain ⟨wd2, s2⟩ := q
  unfold PartPost at h2
  dsimp only at h2 hR
  have h3 := fun w1 l1 l2 (H : HS w1 l1) (hp : Pick l1 (dA p s2 ns cs pool) l2) => name_s H hp
  generalize takeP p.e s2 1 = q at h3 hR
  obtain ⟨t2, s3⟩ := q
  unfold PartPost at h3
  dsimp only at h3 hR
  have h4 := fun w1 l1 l2 (H : HS w1 l1) (hp : Pick l1 (dA p s3 ns cs pool) l2) => exp1_s H hp [97, 98, 111, 118, 101]
  generalize expectP p.e s3 [[97, 98, 111, 118, 101]] = q at h4 hR
  obtain ⟨wd4, s4⟩ := q
  unfold PartPost at h4
  dsimp only at h4 hR
  have h5 := fun w1 l1 l2 (H : HS w1 l1) (hp : Pick l1 (dA p s4 ns cs pool) l2) => number_s hN H hp
  generalize takeP p.e s4 2 = q at h5 hR
  obtain ⟨t3, s5⟩ := q
  unfold PartPost at h5
  dsimp only at h5 hR
  subst hR
  go_enter Tryz.func108, Tryz.ntmps108
  go_upto_region 1 with (go_at_call 145; (with_reducible refine (h1 _ _ _ H (by with_reducible repeat constructor)).mono ?_); rintro e w1 ⟨rfl, H1⟩)
  clear H h1
  obtain ⟨z, w2, ez, ew, H2⟩ := H1.alloc_ex (rlsC ⟨t1.text, [], 0⟩) 235
  unfold rlsC at ew
  try dsimp only at ew
  rw [ew, ez]
  clear ez ew H1
  go_upto_region 2 with (go_at_call 71; (with_reducible refine (h2 _ _ _ H2 (by with_reducible repeat constructor)).mono ?_); rintro e w3 ⟨rfl, H3⟩)
  clear H2 h2
  go_upto_region 3 with (go_at_call 145; (with_reducible refine (h3 _ _ _ H3 (by with_reducible repeat constructor)).mono ?_); rintro e w4 ⟨rfl, H4⟩; have dB := HS.box (z := z) H4 (by with_reducible repeat constructor); have dL := Box.lt dB; obtain ⟨hcB, hfB⟩ := Box.cells dB; have d1 := hcB 1; have df1 := hfB 1; clear hcB hfB; unfold rlsC at d1)
  clear H3 h3
  have H5 := H4.storeTo (z := z) (by with_reducible repeat constructor) 1 (.string ⟨t2.text.toArray⟩) (rlsC ⟨t1.text, t2.text, 0⟩) rfl
  generalize World.setCell _ _ _ = w5 at H5 ⊢
  clear H4 dB dL d1 df1
  go_upto_region 4 with (go_at_call 71; (with_reducible refine (h4 _ _ _ H5 (by with_reducible repeat constructor)).mono ?_); rintro e w6 ⟨rfl, H6⟩)
  clear H5 h4
  go_upto_region 5 with (go_at_call 149; (with_reducible refine (h5 _ _ _ H6 (by with_reducible repeat constructor)).mono ?_); rintro e w7 ⟨rfl, H7⟩; have dB := HS.box (z := z) H7 (by with_reducible repeat constructor); have dL := Box.lt dB; obtain ⟨hcB, hfB⟩ := Box.cells dB; have d2 := hcB 2; have df2 := hfB 2; clear hcB hfB; unfold rlsC at d2)
  clear H6 h5
  have H8 := H7.storeTo (z := z) (by with_reducible repeat constructor) 2 (.int .i64 t3.int) (rlsC ⟨t1.text, t2.text, t3.int⟩) rfl
  generalize World.setCell _ _ _ = w8 at H8 ⊢
  clear H7 dB dL d2 df2
  obtain ⟨Av0, cv0, hv, c7, f7, lp0, -⟩ := H8.rcell (i := 5) (by with_reducible repeat constructor) (by decide)
  have c70 : w8.cell? ⟨p.pb, 11, none⟩ = some (.slice Av0 (ns 5) cv0) := c7
  have HV0 := Lib.hid hv
  clear hv c7 f7
  have Hd0 := H8.drew.alloc (rlsC ⟨t1.text, t2.text, t3.int⟩) 235
  have own0 : (w8.drew.alloc (.cells (rlsC ⟨t1.text, t2.text, t3.int⟩) 235)).ownsRow (p.pb + 1) 235 3 (.slice Av0 (ns 5) cv0) (ns 5) (cs 5) := Hd0.rown (by with_reducible repeat constructor) (i := 5) (by decide) HV0.out
  unfold rlsC at own0
  have yB := HS.box (z := z) H8 (by with_reducible repeat constructor); have yL := Box.lt yB; obtain ⟨hcB, hfB⟩ := Box.cells yB; have y0 := hcB 0; have yf0 := hfB 0; have y1 := hcB 1; have yf1 := hfB 1; have y2 := hcB 2; have yf2 := hfB 2; clear hcB hfB; unfold rlsC at y0 y1 y2
  go_upto_region 5 with fail
  (refine wp_region_G 14 (fun w' => w'.cell? ⟨p.pb, 11, none⟩ = some (.slice Av0 (ns 5) cv0) ∧ w'.cell? ⟨z, 0, none⟩ = some (.string ⟨t1.text.toArray⟩) ∧ w'.cell? ⟨z, 1, none⟩ = some (.string ⟨t2.text.toArray⟩) ∧ w'.cell? ⟨z, 2, none⟩ = some (.int .i64 t3.int)) (by kernel_rfl) ?_ (fun hHeld => ?_); (focus (try dsimp only); go_keep))
  (refine GG.tk 0 (v := ?_) rfl (by kernel_rfl) (fun _ _ _ h => h) (by rfl) (by assumption) ?_ ?_; rotate_left; (focus (intro w h; (try dsimp only at h); go_simp; (try with_reducible rfl))); (try simp only [Act.put, qqa]); refine GG.tk 1 (v := ?_) rfl (by kernel_rfl) (fun _ _ _ h => h) (by rfl) (by assumption) ?_ ?_; rotate_left; (focus (intro w h; (try dsimp only at h); go_simp; (try with_reducible rfl))); (try simp only [Act.put]); refine GG.tk 2 (v := ?_) rfl (by kernel_rfl) (fun _ _ _ h => h) (by rfl) (by assumption) ?_ ?_; rotate_left; (focus (intro w h; (try dsimp only at h); go_simp; (try with_reducible rfl))); (try simp only [Act.put]); refine GG.tk 3 (v := ?_) rfl (by kernel_rfl) (fun _ _ _ h => h) (by rfl) (by assumption) ?_ ?_; rotate_left; (focus (intro w h; (try dsimp only at h); go_simp; (try with_reducible rfl))); (try simp only [Act.put]); refine GG.tk 4 (v := ?_) rfl (by kernel_rfl) (fun _ _ _ h => h) (by rfl) (by assumption) ?_ ?_; rotate_left; (focus (intro w h; (try dsimp only at h); go_simp; (try with_reducible rfl))); (try simp only [Act.put]); refine GG.tk 5 (v := ?_) rfl (by kernel_rfl) (fun _ _ _ h => h) (by rfl) (by assumption) ?_ ?_; rotate_left; (focus (intro w h; (try dsimp only at h); go_simp; (try with_reducible rfl))); (try simp only [Act.put]); refine GG.tk 6 (v := ?_) rfl (by kernel_rfl) (fun _ _ _ h => h) (by rfl) (by assumption) ?_ ?_; rotate_left; (focus (intro w h; (try dsimp only at h); go_simp; (try with_reducible rfl))); (try simp only [Act.put]); refine GG.tk 7 (v := ?_) rfl (by kernel_rfl) (fun _ _ _ h => h) (by rfl) (by assumption) ?_ ?_; rotate_left; (focus (intro w h; (try dsimp only at h); go_simp; (try with_reducible rfl))); (try simp only [Act.put]))
  (refine GG.one 8 (by kernel_rfl) (by decide) rfl (fun K hK => ?_); go_simp; refine hK.out _ _ ?_ (fun hHeld => ?_); (focus (try dsimp only); go_keep); clear hK K; (try simp only [Act.put, qqa, qqb, qqc]))
  (refine GG.one 9 (by kernel_rfl) (by decide) rfl (fun K hK => ?_); (refine step_app3 (v := .slice Av0 (ns 5) cv0) (by rfl) _ _ stRl (by rfl) (by rfl) own0 (by rfl) (news := [.string ⟨t1.text.toArray⟩, .string ⟨t2.text.toArray⟩, .int .i64 t3.int]) (by rfl) (litRd (heap_alloc_new _ _)) (fun h => by cases h) (by intro u hu; simp at hu; (repeat' (rcases hu with rfl | hu)); all_goals (first | rfl | (subst hu; rfl))) (by omega) (by first | exact Nat.zero_le _ | omega | (simp; omega)) ?_; intro vA wA ownA gA atA; have HA := Hd0.appOthers (by with_reducible repeat constructor) (i := 5) (by decide) HV0.out gA; have hAf := Hd0.after (by with_reducible repeat constructor) (i := 5) (by decide) HV0.out gA; obtain ⟨a7, g7, la⟩ := hAf; have a7' : wA.cell? ⟨p.pb, 11, none⟩ = some (.slice Av0 (ns 5) cv0) := a7; have g7' : wA.frozen? ⟨p.pb, 11, none⟩ = false := g7; clear a7 g7; have kB := HS.box (z := z) HA (by with_reducible repeat constructor); have kL := Box.lt kB; obtain ⟨hcB, hfB⟩ := Box.cells kB; have k0 := hcB 0; have kf0 := hfB 0; have k1 := hcB 1; have kf1 := hfB 1; have k2 := hcB 2; have kf2 := hfB 2; clear hcB hfB; unfold rlsC at k0 k1 k2; obtain ⟨AB0, cB0, rfl, -, -⟩ := own_slice ownA); refine hK.out _ _ ?_ (fun hHeld => ?_); (focus (try dsimp only); go_keep); clear hK K; (try simp only [Act.put, qqa]))
  (refine GG.tk 10 (v := ?_) rfl (by kernel_rfl) (fun _ _ _ h => h) (by rfl) (by assumption) ?_ ?_; rotate_left; (focus (intro w h; (try dsimp only at h); go_simp; (try with_reducible rfl))); (try simp only [Act.put]); refine GG.tk 11 (v := ?_) rfl (by kernel_rfl) (fun _ _ _ h => h) (by rfl) (by assumption) ?_ ?_; rotate_left; (focus (intro w h; (try dsimp only at h); go_simp; (try with_reducible rfl))); (try simp only [Act.put]); refine GG.tk 12 (v := ?_) rfl (by kernel_rfl) (fun _ _ _ h => h) (by rfl) (by assumption) ?_ ?_; rotate_left; (focus (intro w h; (try dsimp only at h); go_simp; (try with_reducible rfl))); (try simp only [Act.put]); refine GG.tk 13 (v := ?_) rfl (by kernel_rfl) (fun _ _ _ h => h) (by rfl) (by assumption) ?_ ?_; rotate_left; (focus (intro w h; (try dsimp only at h); go_simp; (try with_reducible rfl))); (try simp only [Act.put]))
  (refine GG.last (by kernel_rfl) (by kernel_rfl) rfl (fun K hK => ?_); go_simp; refine hK.out _ _ ?_; clear hK K)
  have HP0 : HS (wA.setCell ⟨p.pb, 11, none⟩ (.slice AB0 (ns 5 + 1) cB0)) _ := Hd0.push (new := (rlsC ⟨t1.text, t2.text, t3.int⟩).toList) (by with_reducible repeat constructor) (i := 5) (by decide) HV0.out ownA gA atA
  go_end0
  exact ⟨rfl, _, HP0.sub (by with_reducible repeat constructor)⟩
set_option maxRecDepth 100000 in
set_option maxHeartbeats 8000000 in
theorem index_s (_hN : p.e.okN) (hn2 : ns 2 ≤ 100000) (hn18 : ns 18 ≤ 100000) (H : HS w (dA p s ns cs pool :: l)) :
    Calls Tryz.prog 105 #[.pointer (some ⟨p.pb, 0, none⟩)] w (fun e w' => e = .returned (.tuple #[]) ∧ ∃ v1 v2, HS w' (dA ((p.withRow 2 v1).withRow 18 v2) (indexP p.e s).2 (pushN (pushN ns 2) 18) (pushC (pushC cs 2 (idxC ⟨(indexP p.e s).1.1, (indexP p.e s).1.2.1.text, 0⟩).toList) 18 (plC (indexP p.e s).1.2).toList) pool :: l)) := by
  obtain ⟨R, hR⟩ : ∃ R, indexP p.e s = R := ⟨_, rfl⟩
  rw [hR]
  unfold indexP nameP at hR
  try unfold numP at hR
  have h1 := fun w1 l1 l2 (H : HS w1 l1) (hp : Pick l1 (dA p s ns cs pool) l2) => name_s H hp
  generalize takeP p.e s 1 = q at h1 hR
  obtain ⟨t1, s1⟩ := q
  unfold PartPost at h1
  dsimp only at h1 hR
  rw [show ([wOn] : List Bs) = [[111, 110]] from rfl] at hR
  have h2 := fun w1 l1 l2 (H : HS w1 l1) (hp : Pick l1 (dA p s1 ns cs pool) l2) => exp1_s H hp [111, 110]
  generalize expectP p.e s1 [[111, 110]] = q at h2 hR
  obtain ⟨wd2, s2⟩ := q
  unfold PartPost at h2
  dsimp only at h2 hR
  have h3 := fun w1 l1 l2 (H : HS w1 l1) (hp : Pick l1 (dA p s2 ns cs pool) l2) => place_s H hp
  generalize placeP p.e s2 = q at h3 hR
  obtain ⟨⟨x, y⟩, s3⟩ := q
  unfold PartPost plC at h3
  dsimp only at h3 hR
  subst hR
  go_enter Tryz.func105, Tryz.ntmps105
  go_upto_region 1 with (go_at_call 145; (with_reducible refine (h1 _ _ _ H (by with_reducible repeat constructor)).mono ?_); rintro e w1 ⟨rfl, H1⟩)
  clear H h1
  obtain ⟨z, w2, ez, ew, H2⟩ := H1.alloc_ex (idxC ⟨t1.text, [], 0⟩) 145
  unfold idxC at ew
  try dsimp only at ew
  rw [ew, ez]
  clear ez ew H1
  go_upto_region 2 with (go_at_call 71; (with_reducible refine (h2 _ _ _ H2 (by with_reducible repeat constructor)).mono ?_); rintro e w3 ⟨rfl, H3⟩)
  clear H2 h2
  go_upto_region 3 with (go_at_call 155; (with_reducible refine (h3 _ _ _ H3 (by with_reducible repeat constructor)).mono ?_); rintro e w4 ⟨rfl, HX⟩)
  clear H3 h3
  obtain ⟨zp, w4b, ez, ew, H4⟩ := HX.alloc_ex (plC (x, y)) 141
  unfold plC at ew
  try dsimp only at ew
  rw [ew, ez]
  clear ez ew HX
  have hne := H4.ne (z := zp) (y := z) (by with_reducible repeat constructor) (by with_reducible repeat constructor)
  have dB := HS.box (z := z) H4 (by with_reducible repeat constructor); have dL := Box.lt dB; obtain ⟨hcB, hfB⟩ := Box.cells dB; have d1 := hcB 1; have df1 := hfB 1; clear hcB hfB; unfold idxC at d1
  have gB := HS.box (z := zp) H4 (by with_reducible repeat constructor); have gL := Box.lt gB; obtain ⟨hcB, hfB⟩ := Box.cells gB; have g1 := hcB 1; have gf1 := hfB 1; clear hcB hfB; unfold plC at g1
  go_upto_region 4 with fail
  have H5 := H4.storeTo (z := z) (by with_reducible repeat constructor) 1 (.string ⟨x.text.toArray⟩) (idxC ⟨t1.text, x.text, 0⟩) rfl
  generalize World.setCell _ _ _ = w5 at H5 ⊢
  clear H4 dB dL d1 df1 gB gL g1 gf1
  obtain ⟨Av0, cv0, hv, c7, f7, lp0, -⟩ := H5.rcell (i := 2) (by with_reducible repeat constructor) (by decide)
  have c70 : w5.cell? ⟨p.pb, 8, none⟩ = some (.slice Av0 (ns 2) cv0) := c7
  have HV0 := Lib.hid hv
  clear hv c7 f7
  have Hd0 := H5.drew.alloc (idxC ⟨t1.text, x.text, 0⟩) 145
  have own0 : (w5.drew.alloc (.cells (idxC ⟨t1.text, x.text, 0⟩) 145)).ownsRow (p.pb + 1) 145 3 (.slice Av0 (ns 2) cv0) (ns 2) (cs 2) := Hd0.rown (by with_reducible repeat constructor) (i := 2) (by decide) HV0.out
  unfold idxC at own0
  have yB := HS.box (z := z) H5 (by with_reducible repeat constructor); have yL := Box.lt yB; obtain ⟨hcB, hfB⟩ := Box.cells yB; have y0 := hcB 0; have yf0 := hfB 0; have y1 := hcB 1; have yf1 := hfB 1; have y2 := hcB 2; have yf2 := hfB 2; clear hcB hfB; unfold idxC at y0 y1 y2
  go_upto_region 4 with fail
  (refine wp_region_G 14 (fun w' => w'.cell? ⟨p.pb, 8, none⟩ = some (.slice Av0 (ns 2) cv0) ∧ w'.cell? ⟨z, 0, none⟩ = some (.string ⟨t1.text.toArray⟩) ∧ w'.cell? ⟨z, 1, none⟩ = some (.string ⟨x.text.toArray⟩) ∧ w'.cell? ⟨z, 2, none⟩ = some (.int .i64 0)) (by kernel_rfl) ?_ (fun hHeld => ?_); (focus (try dsimp only); go_keep))
  (refine GG.tk 0 (v := ?_) rfl (by kernel_rfl) (fun _ _ _ h => h) (by rfl) (by assumption) ?_ ?_; rotate_left; (focus (intro w h; (try dsimp only at h); go_simp; (try with_reducible rfl))); (try simp only [Act.put, qqa]); refine GG.tk 1 (v := ?_) rfl (by kernel_rfl) (fun _ _ _ h => h) (by rfl) (by assumption) ?_ ?_; rotate_left; (focus (intro w h; (try dsimp only at h); go_simp; (try with_reducible rfl))); (try simp only [Act.put]); refine GG.tk 2 (v := ?_) rfl (by kernel_rfl) (fun _ _ _ h => h) (by rfl) (by assumption) ?_ ?_; rotate_left; (focus (intro w h; (try dsimp only at h); go_simp; (try with_reducible rfl))); (try simp only [Act.put]); refine GG.tk 3 (v := ?_) rfl (by kernel_rfl) (fun _ _ _ h => h) (by rfl) (by assumption) ?_ ?_; rotate_left; (focus (intro w h; (try dsimp only at h); go_simp; (try with_reducible rfl))); (try simp only [Act.put]); refine GG.tk 4 (v := ?_) rfl (by kernel_rfl) (fun _ _ _ h => h) (by rfl) (by assumption) ?_ ?_; rotate_left; (focus (intro w h; (try dsimp only at h); go_simp; (try with_reducible rfl))); (try simp only [Act.put]); refine GG.tk 5 (v := ?_) rfl (by kernel_rfl) (fun _ _ _ h => h) (by rfl) (by assumption) ?_ ?_; rotate_left; (focus (intro w h; (try dsimp only at h); go_simp; (try with_reducible rfl))); (try simp only [Act.put]); refine GG.tk 6 (v := ?_) rfl (by kernel_rfl) (fun _ _ _ h => h) (by rfl) (by assumption) ?_ ?_; rotate_left; (focus (intro w h; (try dsimp only at h); go_simp; (try with_reducible rfl))); (try simp only [Act.put]); refine GG.tk 7 (v := ?_) rfl (by kernel_rfl) (fun _ _ _ h => h) (by rfl) (by assumption) ?_ ?_; rotate_left; (focus (intro w h; (try dsimp only at h); go_simp; (try with_reducible rfl))); (try simp only [Act.put]))
  (refine GG.one 8 (by kernel_rfl) (by decide) rfl (fun K hK => ?_); go_simp; refine hK.out _ _ ?_ (fun hHeld => ?_); (focus (try dsimp only); go_keep); clear hK K; (try simp only [Act.put, qqa, qqb, qqc]))
  (refine GG.one 9 (by kernel_rfl) (by decide) rfl (fun K hK => ?_); (refine step_app3 (v := .slice Av0 (ns 2) cv0) (by rfl) _ _ stIx (by rfl) (by rfl) own0 (by rfl) (news := [.string ⟨t1.text.toArray⟩, .string ⟨x.text.toArray⟩, .int .i64 0]) (by rfl) (litRd (heap_alloc_new _ _)) (fun h => by cases h) (by intro u hu; simp at hu; (repeat' (rcases hu with rfl | hu)); all_goals (first | rfl | (subst hu; rfl))) (by omega) (by first | exact Nat.zero_le _ | omega | (simp; omega)) ?_; intro vA wA ownA gA atA; have HA := Hd0.appOthers (by with_reducible repeat constructor) (i := 2) (by decide) HV0.out gA; have hAf := Hd0.after (by with_reducible repeat constructor) (i := 2) (by decide) HV0.out gA; obtain ⟨a7, g7, la⟩ := hAf; have a7' : wA.cell? ⟨p.pb, 8, none⟩ = some (.slice Av0 (ns 2) cv0) := a7; have g7' : wA.frozen? ⟨p.pb, 8, none⟩ = false := g7; clear a7 g7; have kB := HS.box (z := z) HA (by with_reducible repeat constructor); have kL := Box.lt kB; obtain ⟨hcB, hfB⟩ := Box.cells kB; have k0 := hcB 0; have kf0 := hfB 0; have k1 := hcB 1; have kf1 := hfB 1; have k2 := hcB 2; have kf2 := hfB 2; clear hcB hfB; unfold idxC at k0 k1 k2; obtain ⟨AB0, cB0, rfl, -, -⟩ := own_slice ownA); refine hK.out _ _ ?_ (fun hHeld => ?_); (focus (try dsimp only); go_keep); clear hK K; (try simp only [Act.put, qqa]))
  (refine GG.tk 10 (v := ?_) rfl (by kernel_rfl) (fun _ _ _ h => h) (by rfl) (by assumption) ?_ ?_; rotate_left; (focus (intro w h; (try dsimp only at h); go_simp; (try with_reducible rfl))); (try simp only [Act.put]); refine GG.tk 11 (v := ?_) rfl (by kernel_rfl) (fun _ _ _ h => h) (by rfl) (by assumption) ?_ ?_; rotate_left; (focus (intro w h; (try dsimp only at h); go_simp; (try with_reducible rfl))); (try simp only [Act.put]); refine GG.tk 12 (v := ?_) rfl (by kernel_rfl) (fun _ _ _ h => h) (by rfl) (by assumption) ?_ ?_; rotate_left; (focus (intro w h; (try dsimp only at h); go_simp; (try with_reducible rfl))); (try simp only [Act.put]); refine GG.tk 13 (v := ?_) rfl (by kernel_rfl) (fun _ _ _ h => h) (by rfl) (by assumption) ?_ ?_; rotate_left; (focus (intro w h; (try dsimp only at h); go_simp; (try with_reducible rfl))); (try simp only [Act.put]))
  (refine GG.last (by kernel_rfl) (by kernel_rfl) rfl (fun K hK => ?_); go_simp; refine hK.out _ _ ?_; clear hK K)
  have HP0 : HS (wA.setCell ⟨p.pb, 8, none⟩ (.slice AB0 (ns 2 + 1) cB0)) _ := Hd0.push (new := (idxC ⟨t1.text, x.text, 0⟩).toList) (by with_reducible repeat constructor) (i := 2) (by decide) HV0.out ownA gA atA
  generalize World.setCell _ _ _ = w6 at HP0 ⊢
  clear HA own0 Hd0 ownA gA atA kB kL yB yL k0 kf0 y0 yf0 k1 kf1 y1 yf1 k2 kf2 y2 yf2 a7' g7' c70 HV0 la lp0 hHeld H5
  obtain ⟨Av1, cv1, hv, c7, lp1⟩ := HP0.rcell2 (j := 18) (by with_reducible repeat constructor) (by decide) (by decide)
  have c71 : w6.cell? ⟨p.pb, 24, none⟩ = some (.slice Av1 (ns 18) cv1) := c7
  have HV1 := Lib.hid hv
  clear hv c7
  have Hd1 := HP0.drew.alloc (plC (x, y)) 141
  have own1 : (w6.drew.alloc (.cells (plC (x, y)) 141)).ownsRow (p.pb + 1) 141 8 (.slice Av1 (ns 18) cv1) (ns 18) (cs 18) := Hd1.rown2 (by with_reducible repeat constructor) (j := 18) (by decide) (by decide) HV1.out
  unfold plC at own1
  have yB := HS.box (z := zp) HP0 (by with_reducible repeat constructor); have yL := Box.lt yB; obtain ⟨hcB, hfB⟩ := Box.cells yB; have y0 := hcB 0; have yf0 := hfB 0; have y1 := hcB 1; have yf1 := hfB 1; have y2 := hcB 2; have yf2 := hfB 2; have y3 := hcB 3; have yf3 := hfB 3; have y4 := hcB 4; have yf4 := hfB 4; have y5 := hcB 5; have yf5 := hfB 5; have y6 := hcB 6; have yf6 := hfB 6; have y7 := hcB 7; have yf7 := hfB 7; clear hcB hfB; unfold plC at y0 y1 y2 y3 y4 y5 y6 y7
  go_upto_region 5 with fail
  (refine wp_region_G 12 (fun w' => w'.cell? ⟨p.pb, 24, none⟩ = some (.slice Av1 (ns 18) cv1) ∧ w'.cell? ⟨zp, 0, none⟩ = some (.int .i64 x.kind) ∧ w'.cell? ⟨zp, 1, none⟩ = some (.string ⟨x.text.toArray⟩) ∧ w'.cell? ⟨zp, 2, none⟩ = some (.int .i64 x.int) ∧ w'.cell? ⟨zp, 3, none⟩ = some (.int .i64 x.pos) ∧ w'.cell? ⟨zp, 4, none⟩ = some (.int .i64 y.kind) ∧ w'.cell? ⟨zp, 5, none⟩ = some (.string ⟨y.text.toArray⟩) ∧ w'.cell? ⟨zp, 6, none⟩ = some (.int .i64 y.int) ∧ w'.cell? ⟨zp, 7, none⟩ = some (.int .i64 y.pos)) (by kernel_rfl) ?_ (fun hHeld => ?_); (focus (try dsimp only); go_keep))
  (refine GG.tk 0 (v := ?_) rfl (by kernel_rfl) (fun _ _ _ h => h) (by rfl) (by assumption) ?_ ?_; rotate_left; (focus (intro w h; (try dsimp only at h); go_simp; (try with_reducible rfl))); (try simp only [Act.put, qqa]); refine GG.tk 1 (v := ?_) rfl (by kernel_rfl) (fun _ _ _ h => h) (by rfl) (by assumption) ?_ ?_; rotate_left; (focus (intro w h; (try dsimp only at h); go_simp; (try with_reducible rfl))); (try simp only [Act.put]); refine GG.tk 2 (v := ?_) rfl (by kernel_rfl) (fun _ _ _ h => h) (by rfl) (by assumption) ?_ ?_; rotate_left; (focus (intro w h; (try dsimp only at h); go_simp; (try with_reducible rfl))); (try simp only [Act.put]); refine GG.tk 3 (v := ?_) rfl (by kernel_rfl) (fun _ _ _ h => h) (by rfl) (by assumption) ?_ ?_; rotate_left; (focus (intro w h; (try dsimp only at h); go_simp; (try with_reducible rfl))); (try simp only [Act.put]); refine GG.tk 4 (v := ?_) rfl (by kernel_rfl) (fun _ _ _ h => h) (by rfl) (by assumption) ?_ ?_; rotate_left; (focus (intro w h; (try dsimp only at h); go_simp; (try with_reducible rfl))); (try simp only [Act.put]); refine GG.tk 5 (v := ?_) rfl (by kernel_rfl) (fun _ _ _ h => h) (by rfl) (by assumption) ?_ ?_; rotate_left; (focus (intro w h; (try dsimp only at h); go_simp; (try with_reducible rfl))); (try simp only [Act.put]); refine GG.tk 6 (v := ?_) rfl (by kernel_rfl) (fun _ _ _ h => h) (by rfl) (by assumption) ?_ ?_; rotate_left; (focus (intro w h; (try dsimp only at h); go_simp; (try with_reducible rfl))); (try simp only [Act.put]))
  (refine GG.one 7 (by kernel_rfl) (by decide) rfl (fun K hK => ?_); go_simp; refine hK.out _ _ ?_ (fun hHeld => ?_); (focus (try dsimp only); go_keep); clear hK K; (try simp only [Act.put, qqa, qqb, qqc]))
  (refine GG.one 8 (by kernel_rfl) (by decide) rfl (fun K hK => ?_); (refine step_app3 (v := .slice Av1 (ns 18) cv1) (by rfl) _ _ stPl (by rfl) (by rfl) own1 (by rfl) (news := [.int .i64 x.kind, .string ⟨x.text.toArray⟩, .int .i64 x.int, .int .i64 x.pos, .int .i64 y.kind, .string ⟨y.text.toArray⟩, .int .i64 y.int, .int .i64 y.pos]) (by rfl) (litRd (heap_alloc_new _ _)) (fun h => by cases h) (by intro u hu; simp at hu; (repeat' (rcases hu with rfl | hu)); all_goals (first | rfl | (subst hu; rfl))) (by omega) (by first | exact Nat.zero_le _ | omega | (simp; omega)) ?_; intro vA wA ownA gA atA; have HA := Hd1.appOthers (by with_reducible repeat constructor) (i := 18) (by decide) HV1.out gA; have hAf := Hd1.after2 (by with_reducible repeat constructor) (j := 18) (by decide) HV1.out gA; obtain ⟨a7, g7, la⟩ := hAf; have a7' : wA.cell? ⟨p.pb, 24, none⟩ = some (.slice Av1 (ns 18) cv1) := a7; have g7' : wA.frozen? ⟨p.pb, 24, none⟩ = false := g7; clear a7 g7; have kB := HS.box (z := zp) HA (by with_reducible repeat constructor); have kL := Box.lt kB; obtain ⟨hcB, hfB⟩ := Box.cells kB; have k0 := hcB 0; have kf0 := hfB 0; have k1 := hcB 1; have kf1 := hfB 1; have k2 := hcB 2; have kf2 := hfB 2; have k3 := hcB 3; have kf3 := hfB 3; have k4 := hcB 4; have kf4 := hfB 4; have k5 := hcB 5; have kf5 := hfB 5; have k6 := hcB 6; have kf6 := hfB 6; have k7 := hcB 7; have kf7 := hfB 7; clear hcB hfB; unfold plC at k0 k1 k2 k3 k4 k5 k6 k7; obtain ⟨AB1, cB1, rfl, -, -⟩ := own_slice ownA); refine hK.out _ _ ?_ (fun hHeld => ?_); (focus (try dsimp only); go_keep); clear hK K; (try simp only [Act.put, qqa]))
  (refine GG.tk 9 (v := ?_) rfl (by kernel_rfl) (fun _ _ _ h => h) (by rfl) (by assumption) ?_ ?_; rotate_left; (focus (intro w h; (try dsimp only at h); go_simp; (try with_reducible rfl))); (try simp only [Act.put]); refine GG.tk 10 (v := ?_) rfl (by kernel_rfl) (fun _ _ _ h => h) (by rfl) (by assumption) ?_ ?_; rotate_left; (focus (intro w h; (try dsimp only at h); go_simp; (try with_reducible rfl))); (try simp only [Act.put]); refine GG.tk 11 (v := ?_) rfl (by kernel_rfl) (fun _ _ _ h => h) (by rfl) (by assumption) ?_ ?_; rotate_left; (focus (intro w h; (try dsimp only at h); go_simp; (try with_reducible rfl))); (try simp only [Act.put]))
  (refine GG.last (by kernel_rfl) (by kernel_rfl) rfl (fun K hK => ?_); go_simp; refine hK.out _ _ ?_; clear hK K)
  have HP1 : HS (wA.setCell ⟨p.pb, 24, none⟩ (.slice AB1 (ns 18 + 1) cB1)) _ := Hd1.push2 (new2 := (plC (x, y)).toList) (by with_reducible repeat constructor) (j := 18) (by decide) (by decide) HV1.out ownA gA atA
  go_end0
  exact ⟨rfl, _, _, HP1.sub (by with_reducible repeat constructor)⟩
set_option maxRecDepth 100000 in
set_option maxHeartbeats 8000000 in
theorem cache_s (hN : p.e.okN) (hn4 : ns 4 ≤ 100000) (hn20 : ns 20 ≤ 100000) (H : HS w (dA p s ns cs pool :: l)) :
    Calls Tryz.prog 107 #[.pointer (some ⟨p.pb, 0, none⟩)] w (fun e w' => e = .returned (.tuple #[]) ∧ ∃ v1 v2, HS w' (dA ((p.withRow 4 v1).withRow 20 v2) (cacheP p.e s).2 (pushN (pushN ns 4) 20) (pushC (pushC cs 4 (cchC ⟨(cacheP p.e s).1.1, (cacheP p.e s).1.2.1.1.text, 0, (cacheP p.e s).1.2.2⟩).toList) 20 (plC (cacheP p.e s).1.2.1).toList) pool :: l)) := by
  obtain ⟨R, hR⟩ : ∃ R, cacheP p.e s = R := ⟨_, rfl⟩
  rw [hR]
  unfold cacheP nameP at hR
  try unfold numP at hR
  have h1 := fun w1 l1 l2 (H : HS w1 l1) (hp : Pick l1 (dA p s ns cs pool) l2) => name_s H hp
  generalize takeP p.e s 1 = q at h1 hR
  obtain ⟨t1, s1⟩ := q
  unfold PartPost at h1
  dsimp only at h1 hR
  rw [show ([wOn] : List Bs) = [[111, 110]] from rfl] at hR
  have h2 := fun w1 l1 l2 (H : HS w1 l1) (hp : Pick l1 (dA p s1 ns cs pool) l2) => exp1_s H hp [111, 110]
  generalize expectP p.e s1 [[111, 110]] = q at h2 hR
  obtain ⟨wd2, s2⟩ := q
  unfold PartPost at h2
  dsimp only at h2 hR
  have h3 := fun w1 l1 l2 (H : HS w1 l1) (hp : Pick l1 (dA p s2 ns cs pool) l2) => place_s H hp
  generalize placeP p.e s2 = q at h3 hR
  obtain ⟨⟨x, y⟩, s3⟩ := q
  unfold PartPost plC at h3
  dsimp only at h3 hR
  have h4 := fun w1 l1 l2 (H : HS w1 l1) (hp : Pick l1 (dA p s3 ns cs pool) l2) => exp1_s H hp [102, 111, 114]
  generalize expectP p.e s3 [[102, 111, 114]] = q at h4 hR
  obtain ⟨wd4, s4⟩ := q
  unfold PartPost at h4
  dsimp only at h4 hR
  have h5 := fun w1 l1 l2 (H : HS w1 l1) (hp : Pick l1 (dA p s4 ns cs pool) l2) => number_s hN H hp
  generalize takeP p.e s4 2 = q at h5 hR
  obtain ⟨t3, s5⟩ := q
  unfold PartPost at h5
  dsimp only at h5 hR
  subst hR
  go_enter Tryz.func107, Tryz.ntmps107
  go_upto_region 1 with (go_at_call 145; (with_reducible refine (h1 _ _ _ H (by with_reducible repeat constructor)).mono ?_); rintro e w1 ⟨rfl, H1⟩)
  clear H h1
  obtain ⟨z, w2, ez, ew, H2⟩ := H1.alloc_ex (cchC ⟨t1.text, [], 0, 0⟩) 149
  unfold cchC at ew
  try dsimp only at ew
  rw [ew, ez]
  clear ez ew H1
  go_upto_region 2 with (go_at_call 71; (with_reducible refine (h2 _ _ _ H2 (by with_reducible repeat constructor)).mono ?_); rintro e w3 ⟨rfl, H3⟩)
  clear H2 h2
  go_upto_region 3 with (go_at_call 155; (with_reducible refine (h3 _ _ _ H3 (by with_reducible repeat constructor)).mono ?_); rintro e w4 ⟨rfl, HX⟩)
  clear H3 h3
  obtain ⟨zp, w4b, ez, ew, H4⟩ := HX.alloc_ex (plC (x, y)) 141
  unfold plC at ew
  try dsimp only at ew
  rw [ew, ez]
  clear ez ew HX
  have hne := H4.ne (z := zp) (y := z) (by with_reducible repeat constructor) (by with_reducible repeat constructor)
  have dB := HS.box (z := z) H4 (by with_reducible repeat constructor); have dL := Box.lt dB; obtain ⟨hcB, hfB⟩ := Box.cells dB; have d1 := hcB 1; have df1 := hfB 1; clear hcB hfB; unfold cchC at d1
  have gB := HS.box (z := zp) H4 (by with_reducible repeat constructor); have gL := Box.lt gB; obtain ⟨hcB, hfB⟩ := Box.cells gB; have g1 := hcB 1; have gf1 := hfB 1; clear hcB hfB; unfold plC at g1
  go_upto_region 4 with fail
  have H5 := H4.storeTo (z := z) (by with_reducible repeat constructor) 1 (.string ⟨x.text.toArray⟩) (cchC ⟨t1.text, x.text, 0, 0⟩) rfl
  generalize World.setCell _ _ _ = w5 at H5 ⊢
  clear H4 dB dL d1 df1 gB gL g1 gf1
  go_upto_region 5 with (go_at_call 71; (with_reducible refine (h4 _ _ _ H5 (by with_reducible repeat constructor)).mono ?_); rintro e w6 ⟨rfl, H6⟩)
  clear H5 h4
  go_upto_region 6 with (go_at_call 149; (with_reducible refine (h5 _ _ _ H6 (by with_reducible repeat constructor)).mono ?_); rintro e w7 ⟨rfl, H7⟩; have dB := HS.box (z := z) H7 (by with_reducible repeat constructor); have dL := Box.lt dB; obtain ⟨hcB, hfB⟩ := Box.cells dB; have d3 := hcB 3; have df3 := hfB 3; clear hcB hfB; unfold cchC at d3)
  clear H6 h5
  have H8 := H7.storeTo (z := z) (by with_reducible repeat constructor) 3 (.int .i64 t3.int) (cchC ⟨t1.text, x.text, 0, t3.int⟩) rfl
  generalize World.setCell _ _ _ = w8 at H8 ⊢
  clear H7 dB dL d3 df3
  obtain ⟨Av0, cv0, hv, c7, f7, lp0, -⟩ := H8.rcell (i := 4) (by with_reducible repeat constructor) (by decide)
  have c70 : w8.cell? ⟨p.pb, 10, none⟩ = some (.slice Av0 (ns 4) cv0) := c7
  have HV0 := Lib.hid hv
  clear hv c7 f7
  have Hd0 := H8.drew.alloc (cchC ⟨t1.text, x.text, 0, t3.int⟩) 149
  have own0 : (w8.drew.alloc (.cells (cchC ⟨t1.text, x.text, 0, t3.int⟩) 149)).ownsRow (p.pb + 1) 149 4 (.slice Av0 (ns 4) cv0) (ns 4) (cs 4) := Hd0.rown (by with_reducible repeat constructor) (i := 4) (by decide) HV0.out
  unfold cchC at own0
  have yB := HS.box (z := z) H8 (by with_reducible repeat constructor); have yL := Box.lt yB; obtain ⟨hcB, hfB⟩ := Box.cells yB; have y0 := hcB 0; have yf0 := hfB 0; have y1 := hcB 1; have yf1 := hfB 1; have y2 := hcB 2; have yf2 := hfB 2; have y3 := hcB 3; have yf3 := hfB 3; clear hcB hfB; unfold cchC at y0 y1 y2 y3
  go_upto_region 6 with fail
  (refine wp_region_G 14 (fun w' => w'.cell? ⟨p.pb, 10, none⟩ = some (.slice Av0 (ns 4) cv0) ∧ w'.cell? ⟨z, 0, none⟩ = some (.string ⟨t1.text.toArray⟩) ∧ w'.cell? ⟨z, 1, none⟩ = some (.string ⟨x.text.toArray⟩) ∧ w'.cell? ⟨z, 2, none⟩ = some (.int .i64 0) ∧ w'.cell? ⟨z, 3, none⟩ = some (.int .i64 t3.int)) (by kernel_rfl) ?_ (fun hHeld => ?_); (focus (try dsimp only); go_keep))
  (refine GG.tk 0 (v := ?_) rfl (by kernel_rfl) (fun _ _ _ h => h) (by rfl) (by assumption) ?_ ?_; rotate_left; (focus (intro w h; (try dsimp only at h); go_simp; (try with_reducible rfl))); (try simp only [Act.put, qqa]); refine GG.tk 1 (v := ?_) rfl (by kernel_rfl) (fun _ _ _ h => h) (by rfl) (by assumption) ?_ ?_; rotate_left; (focus (intro w h; (try dsimp only at h); go_simp; (try with_reducible rfl))); (try simp only [Act.put]); refine GG.tk 2 (v := ?_) rfl (by kernel_rfl) (fun _ _ _ h => h) (by rfl) (by assumption) ?_ ?_; rotate_left; (focus (intro w h; (try dsimp only at h); go_simp; (try with_reducible rfl))); (try simp only [Act.put]); refine GG.tk 3 (v := ?_) rfl (by kernel_rfl) (fun _ _ _ h => h) (by rfl) (by assumption) ?_ ?_; rotate_left; (focus (intro w h; (try dsimp only at h); go_simp; (try with_reducible rfl))); (try simp only [Act.put]); refine GG.tk 4 (v := ?_) rfl (by kernel_rfl) (fun _ _ _ h => h) (by rfl) (by assumption) ?_ ?_; rotate_left; (focus (intro w h; (try dsimp only at h); go_simp; (try with_reducible rfl))); (try simp only [Act.put]); refine GG.tk 5 (v := ?_) rfl (by kernel_rfl) (fun _ _ _ h => h) (by rfl) (by assumption) ?_ ?_; rotate_left; (focus (intro w h; (try dsimp only at h); go_simp; (try with_reducible rfl))); (try simp only [Act.put]); refine GG.tk 6 (v := ?_) rfl (by kernel_rfl) (fun _ _ _ h => h) (by rfl) (by assumption) ?_ ?_; rotate_left; (focus (intro w h; (try dsimp only at h); go_simp; (try with_reducible rfl))); (try simp only [Act.put]); refine GG.tk 7 (v := ?_) rfl (by kernel_rfl) (fun _ _ _ h => h) (by rfl) (by assumption) ?_ ?_; rotate_left; (focus (intro w h; (try dsimp only at h); go_simp; (try with_reducible rfl))); (try simp only [Act.put]))
  (refine GG.one 8 (by kernel_rfl) (by decide) rfl (fun K hK => ?_); go_simp; refine hK.out _ _ ?_ (fun hHeld => ?_); (focus (try dsimp only); go_keep); clear hK K; (try simp only [Act.put, qqa, qqb, qqc]))
  (refine GG.one 9 (by kernel_rfl) (by decide) rfl (fun K hK => ?_); (refine step_app3 (v := .slice Av0 (ns 4) cv0) (by rfl) _ _ stCc (by rfl) (by rfl) own0 (by rfl) (news := [.string ⟨t1.text.toArray⟩, .string ⟨x.text.toArray⟩, .int .i64 0, .int .i64 t3.int]) (by rfl) (litRd (heap_alloc_new _ _)) (fun h => by cases h) (by intro u hu; simp at hu; (repeat' (rcases hu with rfl | hu)); all_goals (first | rfl | (subst hu; rfl))) (by omega) (by first | exact Nat.zero_le _ | omega | (simp; omega)) ?_; intro vA wA ownA gA atA; have HA := Hd0.appOthers (by with_reducible repeat constructor) (i := 4) (by decide) HV0.out gA; have hAf := Hd0.after (by with_reducible repeat constructor) (i := 4) (by decide) HV0.out gA; obtain ⟨a7, g7, la⟩ := hAf; have a7' : wA.cell? ⟨p.pb, 10, none⟩ = some (.slice Av0 (ns 4) cv0) := a7; have g7' : wA.frozen? ⟨p.pb, 10, none⟩ = false := g7; clear a7 g7; have kB := HS.box (z := z) HA (by with_reducible repeat constructor); have kL := Box.lt kB; obtain ⟨hcB, hfB⟩ := Box.cells kB; have k0 := hcB 0; have kf0 := hfB 0; have k1 := hcB 1; have kf1 := hfB 1; have k2 := hcB 2; have kf2 := hfB 2; have k3 := hcB 3; have kf3 := hfB 3; clear hcB hfB; unfold cchC at k0 k1 k2 k3; obtain ⟨AB0, cB0, rfl, -, -⟩ := own_slice ownA); refine hK.out _ _ ?_ (fun hHeld => ?_); (focus (try dsimp only); go_keep); clear hK K; (try simp only [Act.put, qqa]))
  (refine GG.tk 10 (v := ?_) rfl (by kernel_rfl) (fun _ _ _ h => h) (by rfl) (by assumption) ?_ ?_; rotate_left; (focus (intro w h; (try dsimp only at h); go_simp; (try with_reducible rfl))); (try simp only [Act.put]); refine GG.tk 11 (v := ?_) rfl (by kernel_rfl) (fun _ _ _ h => h) (by rfl) (by assumption) ?_ ?_; rotate_left; (focus (intro w h; (try dsimp only at h); go_simp; (try with_reducible rfl))); (try simp only [Act.put]); refine GG.tk 12 (v := ?_) rfl (by kernel_rfl) (fun _ _ _ h => h) (by rfl) (by assumption) ?_ ?_; rotate_left; (focus (intro w h; (try dsimp only at h); go_simp; (try with_reducible rfl))); (try simp only [Act.put]); refine GG.tk 13 (v := ?_) rfl (by kernel_rfl) (fun _ _ _ h => h) (by rfl) (by assumption) ?_ ?_; rotate_left; (focus (intro w h; (try dsimp only at h); go_simp; (try with_reducible rfl))); (try simp only [Act.put]))
  (refine GG.last (by kernel_rfl) (by kernel_rfl) rfl (fun K hK => ?_); go_simp; refine hK.out _ _ ?_; clear hK K)
  have HP0 : HS (wA.setCell ⟨p.pb, 10, none⟩ (.slice AB0 (ns 4 + 1) cB0)) _ := Hd0.push (new := (cchC ⟨t1.text, x.text, 0, t3.int⟩).toList) (by with_reducible repeat constructor) (i := 4) (by decide) HV0.out ownA gA atA
  generalize World.setCell _ _ _ = w9 at HP0 ⊢
  clear HA own0 Hd0 ownA gA atA kB kL yB yL k0 kf0 y0 yf0 k1 kf1 y1 yf1 k2 kf2 y2 yf2 k3 kf3 y3 yf3 a7' g7' c70 HV0 la lp0 hHeld H8
  obtain ⟨Av1, cv1, hv, c7, lp1⟩ := HP0.rcell2 (j := 20) (by with_reducible repeat constructor) (by decide) (by decide)
  have c71 : w9.cell? ⟨p.pb, 26, none⟩ = some (.slice Av1 (ns 20) cv1) := c7
  have HV1 := Lib.hid hv
  clear hv c7
  have Hd1 := HP0.drew.alloc (plC (x, y)) 141
  have own1 : (w9.drew.alloc (.cells (plC (x, y)) 141)).ownsRow (p.pb + 1) 141 8 (.slice Av1 (ns 20) cv1) (ns 20) (cs 20) := Hd1.rown2 (by with_reducible repeat constructor) (j := 20) (by decide) (by decide) HV1.out
  unfold plC at own1
  have yB := HS.box (z := zp) HP0 (by with_reducible repeat constructor); have yL := Box.lt yB; obtain ⟨hcB, hfB⟩ := Box.cells yB; have y0 := hcB 0; have yf0 := hfB 0; have y1 := hcB 1; have yf1 := hfB 1; have y2 := hcB 2; have yf2 := hfB 2; have y3 := hcB 3; have yf3 := hfB 3; have y4 := hcB 4; have yf4 := hfB 4; have y5 := hcB 5; have yf5 := hfB 5; have y6 := hcB 6; have yf6 := hfB 6; have y7 := hcB 7; have yf7 := hfB 7; clear hcB hfB; unfold plC at y0 y1 y2 y3 y4 y5 y6 y7
  go_upto_region 7 with fail
  (refine wp_region_G 12 (fun w' => w'.cell? ⟨p.pb, 26, none⟩ = some (.slice Av1 (ns 20) cv1) ∧ w'.cell? ⟨zp, 0, none⟩ = some (.int .i64 x.kind) ∧ w'.cell? ⟨zp, 1, none⟩ = some (.string ⟨x.text.toArray⟩) ∧ w'.cell? ⟨zp, 2, none⟩ = some (.int .i64 x.int) ∧ w'.cell? ⟨zp, 3, none⟩ = some (.int .i64 x.pos) ∧ w'.cell? ⟨zp, 4, none⟩ = some (.int .i64 y.kind) ∧ w'.cell? ⟨zp, 5, none⟩ = some (.string ⟨y.text.toArray⟩) ∧ w'.cell? ⟨zp, 6, none⟩ = some (.int .i64 y.int) ∧ w'.cell? ⟨zp, 7, none⟩ = some (.int .i64 y.pos)) (by kernel_rfl) ?_ (fun hHeld => ?_); (focus (try dsimp only); go_keep))
  (refine GG.tk 0 (v := ?_) rfl (by kernel_rfl) (fun _ _ _ h => h) (by rfl) (by assumption) ?_ ?_; rotate_left; (focus (intro w h; (try dsimp only at h); go_simp; (try with_reducible rfl))); (try simp only [Act.put, qqa]); refine GG.tk 1 (v := ?_) rfl (by kernel_rfl) (fun _ _ _ h => h) (by rfl) (by assumption) ?_ ?_; rotate_left; (focus (intro w h; (try dsimp only at h); go_simp; (try with_reducible rfl))); (try simp only [Act.put]); refine GG.tk 2 (v := ?_) rfl (by kernel_rfl) (fun _ _ _ h => h) (by rfl) (by assumption) ?_ ?_; rotate_left; (focus (intro w h; (try dsimp only at h); go_simp; (try with_reducible rfl))); (try simp only [Act.put]); refine GG.tk 3 (v := ?_) rfl (by kernel_rfl) (fun _ _ _ h => h) (by rfl) (by assumption) ?_ ?_; rotate_left; (focus (intro w h; (try dsimp only at h); go_simp; (try with_reducible rfl))); (try simp only [Act.put]); refine GG.tk 4 (v := ?_) rfl (by kernel_rfl) (fun _ _ _ h => h) (by rfl) (by assumption) ?_ ?_; rotate_left; (focus (intro w h; (try dsimp only at h); go_simp; (try with_reducible rfl))); (try simp only [Act.put]); refine GG.tk 5 (v := ?_) rfl (by kernel_rfl) (fun _ _ _ h => h) (by rfl) (by assumption) ?_ ?_; rotate_left; (focus (intro w h; (try dsimp only at h); go_simp; (try with_reducible rfl))); (try simp only [Act.put]); refine GG.tk 6 (v := ?_) rfl (by kernel_rfl) (fun _ _ _ h => h) (by rfl) (by assumption) ?_ ?_; rotate_left; (focus (intro w h; (try dsimp only at h); go_simp; (try with_reducible rfl))); (try simp only [Act.put]))
  (refine GG.one 7 (by kernel_rfl) (by decide) rfl (fun K hK => ?_); go_simp; refine hK.out _ _ ?_ (fun hHeld => ?_); (focus (try dsimp only); go_keep); clear hK K; (try simp only [Act.put, qqa, qqb, qqc]))
  (refine GG.one 8 (by kernel_rfl) (by decide) rfl (fun K hK => ?_); (refine step_app3 (v := .slice Av1 (ns 20) cv1) (by rfl) _ _ stPl (by rfl) (by rfl) own1 (by rfl) (news := [.int .i64 x.kind, .string ⟨x.text.toArray⟩, .int .i64 x.int, .int .i64 x.pos, .int .i64 y.kind, .string ⟨y.text.toArray⟩, .int .i64 y.int, .int .i64 y.pos]) (by rfl) (litRd (heap_alloc_new _ _)) (fun h => by cases h) (by intro u hu; simp at hu; (repeat' (rcases hu with rfl | hu)); all_goals (first | rfl | (subst hu; rfl))) (by omega) (by first | exact Nat.zero_le _ | omega | (simp; omega)) ?_; intro vA wA ownA gA atA; have HA := Hd1.appOthers (by with_reducible repeat constructor) (i := 20) (by decide) HV1.out gA; have hAf := Hd1.after2 (by with_reducible repeat constructor) (j := 20) (by decide) HV1.out gA; obtain ⟨a7, g7, la⟩ := hAf; have a7' : wA.cell? ⟨p.pb, 26, none⟩ = some (.slice Av1 (ns 20) cv1) := a7; have g7' : wA.frozen? ⟨p.pb, 26, none⟩ = false := g7; clear a7 g7; have kB := HS.box (z := zp) HA (by with_reducible repeat constructor); have kL := Box.lt kB; obtain ⟨hcB, hfB⟩ := Box.cells kB; have k0 := hcB 0; have kf0 := hfB 0; have k1 := hcB 1; have kf1 := hfB 1; have k2 := hcB 2; have kf2 := hfB 2; have k3 := hcB 3; have kf3 := hfB 3; have k4 := hcB 4; have kf4 := hfB 4; have k5 := hcB 5; have kf5 := hfB 5; have k6 := hcB 6; have kf6 := hfB 6; have k7 := hcB 7; have kf7 := hfB 7; clear hcB hfB; unfold plC at k0 k1 k2 k3 k4 k5 k6 k7; obtain ⟨AB1, cB1, rfl, -, -⟩ := own_slice ownA); refine hK.out _ _ ?_ (fun hHeld => ?_); (focus (try dsimp only); go_keep); clear hK K; (try simp only [Act.put, qqa]))
  (refine GG.tk 9 (v := ?_) rfl (by kernel_rfl) (fun _ _ _ h => h) (by rfl) (by assumption) ?_ ?_; rotate_left; (focus (intro w h; (try dsimp only at h); go_simp; (try with_reducible rfl))); (try simp only [Act.put]); refine GG.tk 10 (v := ?_) rfl (by kernel_rfl) (fun _ _ _ h => h) (by rfl) (by assumption) ?_ ?_; rotate_left; (focus (intro w h; (try dsimp only at h); go_simp; (try with_reducible rfl))); (try simp only [Act.put]); refine GG.tk 11 (v := ?_) rfl (by kernel_rfl) (fun _ _ _ h => h) (by rfl) (by assumption) ?_ ?_; rotate_left; (focus (intro w h; (try dsimp only at h); go_simp; (try with_reducible rfl))); (try simp only [Act.put]))
  (refine GG.last (by kernel_rfl) (by kernel_rfl) rfl (fun K hK => ?_); go_simp; refine hK.out _ _ ?_; clear hK K)
  have HP1 : HS (wA.setCell ⟨p.pb, 26, none⟩ (.slice AB1 (ns 20 + 1) cB1)) _ := Hd1.push2 (new2 := (plC (x, y)).toList) (by with_reducible repeat constructor) (j := 20) (by decide) (by decide) HV1.out ownA gA atA
  go_end0
  exact ⟨rfl, _, _, HP1.sub (by with_reducible repeat constructor)⟩
theorem find_sk {wd : Bs} (h0 : ¬ wd = [99, 111, 117, 110, 116]) (h1 : ¬ wd = [98, 108, 111, 111, 109]) (h2 : ¬ wd = [98, 111, 116, 116, 111, 109]) : findP [[99, 111, 117, 110, 116], [98, 108, 111, 111, 109], [98, 111, 116, 116, 111, 109]] wd = none := by
  unfold findP
  simp [Ne.symm h0, Ne.symm h1, Ne.symm h2]
set_option maxRecDepth 100000 in
set_option maxHeartbeats 8000000 in
theorem sketch_s (hN : p.e.okN) (hn3 : ns 3 ≤ 100000) (hn19 : ns 19 ≤ 100000) (H : HS w (dA p s ns cs pool :: l)) :
    Calls Tryz.prog 106 #[.pointer (some ⟨p.pb, 0, none⟩)] w (fun e w' => e = .returned (.tuple #[]) ∧ ∃ v1 v2, HS w' (dA ((p.withRow 3 v1).withRow 19 v2) (sketchP p.e s).2 (pushN (pushN ns 3) 19) (pushC (pushC cs 3 (sktC ⟨(sketchP p.e s).1.1, (sketchP p.e s).1.2.2.2.2.1.text, 0, ((findP wSketches (sketchP p.e s).1.2.1).getD 0 : Nat), (sketchP p.e s).1.2.2.1, (sketchP p.e s).1.2.2.2.1⟩).toList) 19 (plC (sketchP p.e s).1.2.2.2.2).toList) pool :: l)) := by
  obtain ⟨R, hR⟩ : ∃ R, sketchP p.e s = R := ⟨_, rfl⟩
  rw [hR]
  unfold sketchP nameP at hR
  try unfold numP at hR
  have h1 := fun w1 l1 l2 (H : HS w1 l1) (hp : Pick l1 (dA p s ns cs pool) l2) => name_s H hp
  generalize takeP p.e s 1 = q at h1 hR
  obtain ⟨t1, s1⟩ := q
  unfold PartPost at h1
  dsimp only at h1 hR
  rw [show wSketches = [[99, 111, 117, 110, 116], [98, 108, 111, 111, 109], [98, 111, 116, 116, 111, 109]] from rfl] at hR
  have h2 := fun w1 l1 l2 (H : HS w1 l1) (hp : Pick l1 (dA p s1 ns cs pool) l2) => exp3_s H hp [99, 111, 117, 110, 116] [98, 108, 111, 111, 109] [98, 111, 116, 116, 111, 109]
  generalize expectP p.e s1 [[99, 111, 117, 110, 116], [98, 108, 111, 111, 109], [98, 111, 116, 116, 111, 109]] = q at h2 hR
  obtain ⟨wd, s2⟩ := q
  unfold PartPost at h2
  dsimp only at h2 hR
  have h3 := fun w1 l1 l2 (H : HS w1 l1) (hp : Pick l1 (dA p s2 ns cs pool) l2) => number_s hN H hp
  generalize takeP p.e s2 2 = q at h3 hR
  obtain ⟨t2, s3⟩ := q
  unfold PartPost at h3
  dsimp only at h3 hR
  have h4 := fun w1 l1 l2 (H : HS w1 l1) (hp : Pick l1 (dA p s3 ns cs pool) l2) => number_s hN H hp
  generalize takeP p.e s3 2 = q at h4 hR
  obtain ⟨t3, s4⟩ := q
  unfold PartPost at h4
  dsimp only at h4 hR
  rw [show ([wOn] : List Bs) = [[111, 110]] from rfl] at hR
  have h5 := fun w1 l1 l2 (H : HS w1 l1) (hp : Pick l1 (dA p s4 ns cs pool) l2) => exp1_s H hp [111, 110]
  generalize expectP p.e s4 [[111, 110]] = q at h5 hR
  obtain ⟨wd5, s5⟩ := q
  unfold PartPost at h5
  dsimp only at h5 hR
  have h6 := fun w1 l1 l2 (H : HS w1 l1) (hp : Pick l1 (dA p s5 ns cs pool) l2) => place_s H hp
  generalize placeP p.e s5 = q at h6 hR
  obtain ⟨⟨x, y⟩, s6⟩ := q
  unfold PartPost plC at h6
  dsimp only at h6 hR
  subst hR
  dsimp only
  obtain ⟨kd, hkd⟩ : ∃ kd : Int, ((findP wSketches wd).getD 0 : Nat) = kd := ⟨_, rfl⟩
  rw [hkd]
  have HK := Lib.hid hkd
  clear hkd
  go_enter Tryz.func106, Tryz.ntmps106
  go_upto_region 1 with (go_at_call 145; (with_reducible refine (h1 _ _ _ H (by with_reducible repeat constructor)).mono ?_); rintro e w1 ⟨rfl, H1⟩)
  clear H h1
  obtain ⟨z, w2, ez, ew, H2⟩ := H1.alloc_ex (sktC ⟨t1.text, [], 0, 0, 0, 0⟩) 147
  unfold sktC at ew
  try dsimp only at ew
  rw [ew, ez]
  clear ez ew H1
  go_upto_block 0 with (go_at_call 71; (with_reducible refine (h2 _ _ _ H2 (by with_reducible repeat constructor)).mono ?_); rintro e w3 ⟨rfl, H3⟩)
  clear H2 h2
  go_cut [10] from 11 to 18 (fun _ wx => HS wx (boxA z (sktC ⟨t1.text, [], 0, kd, 0, 0⟩) 147 :: dA p s2 ns cs pool :: l))
  case first =>
    have dB := HS.box (z := z) H3 (by with_reducible repeat constructor); have dL := Box.lt dB; obtain ⟨hcB, hfB⟩ := Box.cells dB; have d3 := hcB 3; have df3 := hfB 3; clear hcB hfB; unfold sktC at d3
    by_cases e0 : wd = [99, 111, 117, 110, 116]
    · subst e0
      have hk := HK.out
      rw [show findP wSketches [99, 111, 117, 110, 116] = some 0 by decide] at hk
      have hk : (0 : Int) = kd := hk
      subst hk
      clear HK
      go_wp2_with fail
      go_meet
      exact (H3.storeTo (z := z) (by with_reducible repeat constructor) 3 _ (sktC ⟨t1.text, [], 0, 0, 0, 0⟩) rfl).sub (by with_reducible repeat constructor)
    have bb0 : (wd == [99, 111, 117, 110, 116]) = false := by simpa using e0
    by_cases e1 : wd = [98, 108, 111, 111, 109]
    · subst e1
      have hk := HK.out
      rw [show findP wSketches [98, 108, 111, 111, 109] = some 1 by decide] at hk
      have hk : (1 : Int) = kd := hk
      subst hk
      clear HK
      go_wp2_with fail
      go_meet
      exact (H3.storeTo (z := z) (by with_reducible repeat constructor) 3 _ (sktC ⟨t1.text, [], 0, 1, 0, 0⟩) rfl).sub (by with_reducible repeat constructor)
    have bb1 : (wd == [98, 108, 111, 111, 109]) = false := by simpa using e1
    by_cases e2 : wd = [98, 111, 116, 116, 111, 109]
    · subst e2
      have hk := HK.out
      rw [show findP wSketches [98, 111, 116, 116, 111, 109] = some 2 by decide] at hk
      have hk : (2 : Int) = kd := hk
      subst hk
      clear HK
      go_wp2_with fail
      go_meet
      exact (H3.storeTo (z := z) (by with_reducible repeat constructor) 3 _ (sktC ⟨t1.text, [], 0, 2, 0, 0⟩) rfl).sub (by with_reducible repeat constructor)
    have bb2 : (wd == [98, 111, 116, 116, 111, 109]) = false := by simpa using e2
    have hk := HK.out
    rw [show findP wSketches wd = none from find_sk e0 e1 e2] at hk
    have hk : (0 : Int) = kd := hk
    subst hk
    clear HK e0 e1 e2
    go_wp2_with fail
    go_meet
    exact H3.sub (by with_reducible repeat constructor)
  case rest =>
  have H4 := hcut
  clear hcut H3 HK
  go_upto_region 9 with (go_at_call 149; (with_reducible refine (h3 _ _ _ H4 (by with_reducible repeat constructor)).mono ?_); rintro e w5 ⟨rfl, H5⟩; have dB := HS.box (z := z) H5 (by with_reducible repeat constructor); have dL := Box.lt dB; obtain ⟨hcB, hfB⟩ := Box.cells dB; have d4 := hcB 4; have df4 := hfB 4; clear hcB hfB; unfold sktC at d4)
  clear H4 h3
  have H6 := H5.storeTo (z := z) (by with_reducible repeat constructor) 4 (.int .i64 t2.int) (sktC ⟨t1.text, [], 0, kd, t2.int, 0⟩) rfl
  generalize World.setCell _ _ _ = w6 at H6 ⊢
  clear H5 dB dL d4 df4
  go_upto_region 10 with (go_at_call 149; (with_reducible refine (h4 _ _ _ H6 (by with_reducible repeat constructor)).mono ?_); rintro e w7 ⟨rfl, H7⟩; have dB := HS.box (z := z) H7 (by with_reducible repeat constructor); have dL := Box.lt dB; obtain ⟨hcB, hfB⟩ := Box.cells dB; have d5 := hcB 5; have df5 := hfB 5; clear hcB hfB; unfold sktC at d5)
  clear H6 h4
  have H8 := H7.storeTo (z := z) (by with_reducible repeat constructor) 5 (.int .i64 t3.int) (sktC ⟨t1.text, [], 0, kd, t2.int, t3.int⟩) rfl
  generalize World.setCell _ _ _ = w8 at H8 ⊢
  clear H7 dB dL d5 df5
  go_upto_region 11 with (go_at_call 71; (with_reducible refine (h5 _ _ _ H8 (by with_reducible repeat constructor)).mono ?_); rintro e w9 ⟨rfl, H9⟩)
  clear H8 h5
  go_upto_region 12 with (go_at_call 155; (with_reducible refine (h6 _ _ _ H9 (by with_reducible repeat constructor)).mono ?_); rintro e w10 ⟨rfl, HX⟩)
  clear H9 h6
  obtain ⟨zp, w10b, ez, ew, H10⟩ := HX.alloc_ex (plC (x, y)) 141
  unfold plC at ew
  try dsimp only at ew
  rw [ew, ez]
  clear ez ew HX
  have hne := H10.ne (z := zp) (y := z) (by with_reducible repeat constructor) (by with_reducible repeat constructor)
  have dB := HS.box (z := z) H10 (by with_reducible repeat constructor); have dL := Box.lt dB; obtain ⟨hcB, hfB⟩ := Box.cells dB; have d1 := hcB 1; have df1 := hfB 1; clear hcB hfB; unfold sktC at d1
  have gB := HS.box (z := zp) H10 (by with_reducible repeat constructor); have gL := Box.lt gB; obtain ⟨hcB, hfB⟩ := Box.cells gB; have g1 := hcB 1; have gf1 := hfB 1; clear hcB hfB; unfold plC at g1
  go_upto_region 13 with fail
  have H11 := H10.storeTo (z := z) (by with_reducible repeat constructor) 1 (.string ⟨x.text.toArray⟩) (sktC ⟨t1.text, x.text, 0, kd, t2.int, t3.int⟩) rfl
  generalize World.setCell _ _ _ = w11 at H11 ⊢
  clear H10 dB dL d1 df1 gB gL g1 gf1
  obtain ⟨Av0, cv0, hv, c7, f7, lp0, -⟩ := H11.rcell (i := 3) (by with_reducible repeat constructor) (by decide)
  have c70 : w11.cell? ⟨p.pb, 9, none⟩ = some (.slice Av0 (ns 3) cv0) := c7
  have HV0 := Lib.hid hv
  clear hv c7 f7
  have Hd0 := H11.drew.alloc (sktC ⟨t1.text, x.text, 0, kd, t2.int, t3.int⟩) 147
  have own0 : (w11.drew.alloc (.cells (sktC ⟨t1.text, x.text, 0, kd, t2.int, t3.int⟩) 147)).ownsRow (p.pb + 1) 147 6 (.slice Av0 (ns 3) cv0) (ns 3) (cs 3) := Hd0.rown (by with_reducible repeat constructor) (i := 3) (by decide) HV0.out
  unfold sktC at own0
  have yB := HS.box (z := z) H11 (by with_reducible repeat constructor); have yL := Box.lt yB; obtain ⟨hcB, hfB⟩ := Box.cells yB; have y0 := hcB 0; have yf0 := hfB 0; have y1 := hcB 1; have yf1 := hfB 1; have y2 := hcB 2; have yf2 := hfB 2; have y3 := hcB 3; have yf3 := hfB 3; have y4 := hcB 4; have yf4 := hfB 4; have y5 := hcB 5; have yf5 := hfB 5; clear hcB hfB; unfold sktC at y0 y1 y2 y3 y4 y5
  go_upto_region 13 with fail
  (refine wp_region_G 14 (fun w' => w'.cell? ⟨p.pb, 9, none⟩ = some (.slice Av0 (ns 3) cv0) ∧ w'.cell? ⟨z, 0, none⟩ = some (.string ⟨t1.text.toArray⟩) ∧ w'.cell? ⟨z, 1, none⟩ = some (.string ⟨x.text.toArray⟩) ∧ w'.cell? ⟨z, 2, none⟩ = some (.int .i64 0) ∧ w'.cell? ⟨z, 3, none⟩ = some (.int .i64 kd) ∧ w'.cell? ⟨z, 4, none⟩ = some (.int .i64 t2.int) ∧ w'.cell? ⟨z, 5, none⟩ = some (.int .i64 t3.int)) (by kernel_rfl) ?_ (fun hHeld => ?_); (focus (try dsimp only); go_keep))
  (refine GG.tk 0 (v := ?_) rfl (by kernel_rfl) (fun _ _ _ h => h) (by rfl) (by assumption) ?_ ?_; rotate_left; (focus (intro w h; (try dsimp only at h); go_simp; (try with_reducible rfl))); (try simp only [Act.put, qqa]); refine GG.tk 1 (v := ?_) rfl (by kernel_rfl) (fun _ _ _ h => h) (by rfl) (by assumption) ?_ ?_; rotate_left; (focus (intro w h; (try dsimp only at h); go_simp; (try with_reducible rfl))); (try simp only [Act.put]); refine GG.tk 2 (v := ?_) rfl (by kernel_rfl) (fun _ _ _ h => h) (by rfl) (by assumption) ?_ ?_; rotate_left; (focus (intro w h; (try dsimp only at h); go_simp; (try with_reducible rfl))); (try simp only [Act.put]); refine GG.tk 3 (v := ?_) rfl (by kernel_rfl) (fun _ _ _ h => h) (by rfl) (by assumption) ?_ ?_; rotate_left; (focus (intro w h; (try dsimp only at h); go_simp; (try with_reducible rfl))); (try simp only [Act.put]); refine GG.tk 4 (v := ?_) rfl (by kernel_rfl) (fun _ _ _ h => h) (by rfl) (by assumption) ?_ ?_; rotate_left; (focus (intro w h; (try dsimp only at h); go_simp; (try with_reducible rfl))); (try simp only [Act.put]); refine GG.tk 5 (v := ?_) rfl (by kernel_rfl) (fun _ _ _ h => h) (by rfl) (by assumption) ?_ ?_; rotate_left; (focus (intro w h; (try dsimp only at h); go_simp; (try with_reducible rfl))); (try simp only [Act.put]); refine GG.tk 6 (v := ?_) rfl (by kernel_rfl) (fun _ _ _ h => h) (by rfl) (by assumption) ?_ ?_; rotate_left; (focus (intro w h; (try dsimp only at h); go_simp; (try with_reducible rfl))); (try simp only [Act.put]); refine GG.tk 7 (v := ?_) rfl (by kernel_rfl) (fun _ _ _ h => h) (by rfl) (by assumption) ?_ ?_; rotate_left; (focus (intro w h; (try dsimp only at h); go_simp; (try with_reducible rfl))); (try simp only [Act.put]))
  (refine GG.one 8 (by kernel_rfl) (by decide) rfl (fun K hK => ?_); go_simp; refine hK.out _ _ ?_ (fun hHeld => ?_); (focus (try dsimp only); go_keep); clear hK K; (try simp only [Act.put, qqa, qqb, qqc]))
  (refine GG.one 9 (by kernel_rfl) (by decide) rfl (fun K hK => ?_); (refine step_app3 (v := .slice Av0 (ns 3) cv0) (by rfl) _ _ stSk (by rfl) (by rfl) own0 (by rfl) (news := [.string ⟨t1.text.toArray⟩, .string ⟨x.text.toArray⟩, .int .i64 0, .int .i64 kd, .int .i64 t2.int, .int .i64 t3.int]) (by rfl) (litRd (heap_alloc_new _ _)) (fun h => by cases h) (by intro u hu; simp at hu; (repeat' (rcases hu with rfl | hu)); all_goals (first | rfl | (subst hu; rfl))) (by omega) (by first | exact Nat.zero_le _ | omega | (simp; omega)) ?_; intro vA wA ownA gA atA; have HA := Hd0.appOthers (by with_reducible repeat constructor) (i := 3) (by decide) HV0.out gA; have hAf := Hd0.after (by with_reducible repeat constructor) (i := 3) (by decide) HV0.out gA; obtain ⟨a7, g7, la⟩ := hAf; have a7' : wA.cell? ⟨p.pb, 9, none⟩ = some (.slice Av0 (ns 3) cv0) := a7; have g7' : wA.frozen? ⟨p.pb, 9, none⟩ = false := g7; clear a7 g7; have kB := HS.box (z := z) HA (by with_reducible repeat constructor); have kL := Box.lt kB; obtain ⟨hcB, hfB⟩ := Box.cells kB; have k0 := hcB 0; have kf0 := hfB 0; have k1 := hcB 1; have kf1 := hfB 1; have k2 := hcB 2; have kf2 := hfB 2; have k3 := hcB 3; have kf3 := hfB 3; have k4 := hcB 4; have kf4 := hfB 4; have k5 := hcB 5; have kf5 := hfB 5; clear hcB hfB; unfold sktC at k0 k1 k2 k3 k4 k5; obtain ⟨AB0, cB0, rfl, -, -⟩ := own_slice ownA); refine hK.out _ _ ?_ (fun hHeld => ?_); (focus (try dsimp only); go_keep); clear hK K; (try simp only [Act.put, qqa]))
  (refine GG.tk 10 (v := ?_) rfl (by kernel_rfl) (fun _ _ _ h => h) (by rfl) (by assumption) ?_ ?_; rotate_left; (focus (intro w h; (try dsimp only at h); go_simp; (try with_reducible rfl))); (try simp only [Act.put]); refine GG.tk 11 (v := ?_) rfl (by kernel_rfl) (fun _ _ _ h => h) (by rfl) (by assumption) ?_ ?_; rotate_left; (focus (intro w h; (try dsimp only at h); go_simp; (try with_reducible rfl))); (try simp only [Act.put]); refine GG.tk 12 (v := ?_) rfl (by kernel_rfl) (fun _ _ _ h => h) (by rfl) (by assumption) ?_ ?_; rotate_left; (focus (intro w h; (try dsimp only at h); go_simp; (try with_reducible rfl))); (try simp only [Act.put]); refine GG.tk 13 (v := ?_) rfl (by kernel_rfl) (fun _ _ _ h => h) (by rfl) (by assumption) ?_ ?_; rotate_left; (focus (intro w h; (try dsimp only at h); go_simp; (try with_reducible rfl))); (try simp only [Act.put]))
  (refine GG.last (by kernel_rfl) (by kernel_rfl) rfl (fun K hK => ?_); go_simp; refine hK.out _ _ ?_; clear hK K)
  have HP0 : HS (wA.setCell ⟨p.pb, 9, none⟩ (.slice AB0 (ns 3 + 1) cB0)) _ := Hd0.push (new := (sktC ⟨t1.text, x.text, 0, kd, t2.int, t3.int⟩).toList) (by with_reducible repeat constructor) (i := 3) (by decide) HV0.out ownA gA atA
  generalize World.setCell _ _ _ = w12 at HP0 ⊢
  clear HA own0 Hd0 ownA gA atA kB kL yB yL k0 kf0 y0 yf0 k1 kf1 y1 yf1 k2 kf2 y2 yf2 k3 kf3 y3 yf3 k4 kf4 y4 yf4 k5 kf5 y5 yf5 a7' g7' c70 HV0 la lp0 hHeld H11
  obtain ⟨Av1, cv1, hv, c7, lp1⟩ := HP0.rcell2 (j := 19) (by with_reducible repeat constructor) (by decide) (by decide)
  have c71 : w12.cell? ⟨p.pb, 25, none⟩ = some (.slice Av1 (ns 19) cv1) := c7
  have HV1 := Lib.hid hv
  clear hv c7
  have Hd1 := HP0.drew.alloc (plC (x, y)) 141
  have own1 : (w12.drew.alloc (.cells (plC (x, y)) 141)).ownsRow (p.pb + 1) 141 8 (.slice Av1 (ns 19) cv1) (ns 19) (cs 19) := Hd1.rown2 (by with_reducible repeat constructor) (j := 19) (by decide) (by decide) HV1.out
  unfold plC at own1
  have yB := HS.box (z := zp) HP0 (by with_reducible repeat constructor); have yL := Box.lt yB; obtain ⟨hcB, hfB⟩ := Box.cells yB; have y0 := hcB 0; have yf0 := hfB 0; have y1 := hcB 1; have yf1 := hfB 1; have y2 := hcB 2; have yf2 := hfB 2; have y3 := hcB 3; have yf3 := hfB 3; have y4 := hcB 4; have yf4 := hfB 4; have y5 := hcB 5; have yf5 := hfB 5; have y6 := hcB 6; have yf6 := hfB 6; have y7 := hcB 7; have yf7 := hfB 7; clear hcB hfB; unfold plC at y0 y1 y2 y3 y4 y5 y6 y7
  go_upto_region 14 with fail
  (refine wp_region_G 12 (fun w' => w'.cell? ⟨p.pb, 25, none⟩ = some (.slice Av1 (ns 19) cv1) ∧ w'.cell? ⟨zp, 0, none⟩ = some (.int .i64 x.kind) ∧ w'.cell? ⟨zp, 1, none⟩ = some (.string ⟨x.text.toArray⟩) ∧ w'.cell? ⟨zp, 2, none⟩ = some (.int .i64 x.int) ∧ w'.cell? ⟨zp, 3, none⟩ = some (.int .i64 x.pos) ∧ w'.cell? ⟨zp, 4, none⟩ = some (.int .i64 y.kind) ∧ w'.cell? ⟨zp, 5, none⟩ = some (.string ⟨y.text.toArray⟩) ∧ w'.cell? ⟨zp, 6, none⟩ = some (.int .i64 y.int) ∧ w'.cell? ⟨zp, 7, none⟩ = some (.int .i64 y.pos)) (by kernel_rfl) ?_ (fun hHeld => ?_); (focus (try dsimp only); go_keep))
  (refine GG.tk 0 (v := ?_) rfl (by kernel_rfl) (fun _ _ _ h => h) (by rfl) (by assumption) ?_ ?_; rotate_left; (focus (intro w h; (try dsimp only at h); go_simp; (try with_reducible rfl))); (try simp only [Act.put, qqa]); refine GG.tk 1 (v := ?_) rfl (by kernel_rfl) (fun _ _ _ h => h) (by rfl) (by assumption) ?_ ?_; rotate_left; (focus (intro w h; (try dsimp only at h); go_simp; (try with_reducible rfl))); (try simp only [Act.put]); refine GG.tk 2 (v := ?_) rfl (by kernel_rfl) (fun _ _ _ h => h) (by rfl) (by assumption) ?_ ?_; rotate_left; (focus (intro w h; (try dsimp only at h); go_simp; (try with_reducible rfl))); (try simp only [Act.put]); refine GG.tk 3 (v := ?_) rfl (by kernel_rfl) (fun _ _ _ h => h) (by rfl) (by assumption) ?_ ?_; rotate_left; (focus (intro w h; (try dsimp only at h); go_simp; (try with_reducible rfl))); (try simp only [Act.put]); refine GG.tk 4 (v := ?_) rfl (by kernel_rfl) (fun _ _ _ h => h) (by rfl) (by assumption) ?_ ?_; rotate_left; (focus (intro w h; (try dsimp only at h); go_simp; (try with_reducible rfl))); (try simp only [Act.put]); refine GG.tk 5 (v := ?_) rfl (by kernel_rfl) (fun _ _ _ h => h) (by rfl) (by assumption) ?_ ?_; rotate_left; (focus (intro w h; (try dsimp only at h); go_simp; (try with_reducible rfl))); (try simp only [Act.put]); refine GG.tk 6 (v := ?_) rfl (by kernel_rfl) (fun _ _ _ h => h) (by rfl) (by assumption) ?_ ?_; rotate_left; (focus (intro w h; (try dsimp only at h); go_simp; (try with_reducible rfl))); (try simp only [Act.put]))
  (refine GG.one 7 (by kernel_rfl) (by decide) rfl (fun K hK => ?_); go_simp; refine hK.out _ _ ?_ (fun hHeld => ?_); (focus (try dsimp only); go_keep); clear hK K; (try simp only [Act.put, qqa, qqb, qqc]))
  (refine GG.one 8 (by kernel_rfl) (by decide) rfl (fun K hK => ?_); (refine step_app3 (v := .slice Av1 (ns 19) cv1) (by rfl) _ _ stPl (by rfl) (by rfl) own1 (by rfl) (news := [.int .i64 x.kind, .string ⟨x.text.toArray⟩, .int .i64 x.int, .int .i64 x.pos, .int .i64 y.kind, .string ⟨y.text.toArray⟩, .int .i64 y.int, .int .i64 y.pos]) (by rfl) (litRd (heap_alloc_new _ _)) (fun h => by cases h) (by intro u hu; simp at hu; (repeat' (rcases hu with rfl | hu)); all_goals (first | rfl | (subst hu; rfl))) (by omega) (by first | exact Nat.zero_le _ | omega | (simp; omega)) ?_; intro vA wA ownA gA atA; have HA := Hd1.appOthers (by with_reducible repeat constructor) (i := 19) (by decide) HV1.out gA; have hAf := Hd1.after2 (by with_reducible repeat constructor) (j := 19) (by decide) HV1.out gA; obtain ⟨a7, g7, la⟩ := hAf; have a7' : wA.cell? ⟨p.pb, 25, none⟩ = some (.slice Av1 (ns 19) cv1) := a7; have g7' : wA.frozen? ⟨p.pb, 25, none⟩ = false := g7; clear a7 g7; have kB := HS.box (z := zp) HA (by with_reducible repeat constructor); have kL := Box.lt kB; obtain ⟨hcB, hfB⟩ := Box.cells kB; have k0 := hcB 0; have kf0 := hfB 0; have k1 := hcB 1; have kf1 := hfB 1; have k2 := hcB 2; have kf2 := hfB 2; have k3 := hcB 3; have kf3 := hfB 3; have k4 := hcB 4; have kf4 := hfB 4; have k5 := hcB 5; have kf5 := hfB 5; have k6 := hcB 6; have kf6 := hfB 6; have k7 := hcB 7; have kf7 := hfB 7; clear hcB hfB; unfold plC at k0 k1 k2 k3 k4 k5 k6 k7; obtain ⟨AB1, cB1, rfl, -, -⟩ := own_slice ownA); refine hK.out _ _ ?_ (fun hHeld => ?_); (focus (try dsimp only); go_keep); clear hK K; (try simp only [Act.put, qqa]))
  (refine GG.tk 9 (v := ?_) rfl (by kernel_rfl) (fun _ _ _ h => h) (by rfl) (by assumption) ?_ ?_; rotate_left; (focus (intro w h; (try dsimp only at h); go_simp; (try with_reducible rfl))); (try simp only [Act.put]); refine GG.tk 10 (v := ?_) rfl (by kernel_rfl) (fun _ _ _ h => h) (by rfl) (by assumption) ?_ ?_; rotate_left; (focus (intro w h; (try dsimp only at h); go_simp; (try with_reducible rfl))); (try simp only [Act.put]); refine GG.tk 11 (v := ?_) rfl (by kernel_rfl) (fun _ _ _ h => h) (by rfl) (by assumption) ?_ ?_; rotate_left; (focus (intro w h; (try dsimp only at h); go_simp; (try with_reducible rfl))); (try simp only [Act.put]))
  (refine GG.last (by kernel_rfl) (by kernel_rfl) rfl (fun K hK => ?_); go_simp; refine hK.out _ _ ?_; clear hK K)
  have HP1 : HS (wA.setCell ⟨p.pb, 25, none⟩ (.slice AB1 (ns 19 + 1) cB1)) _ := Hd1.push2 (new2 := (plC (x, y)).toList) (by with_reducible repeat constructor) (j := 19) (by decide) (by decide) HV1.out ownA gA atA
  go_end0
  exact ⟨rfl, _, _, HP1.sub (by with_reducible repeat constructor)⟩
theorem strV_snoc (l : List Bs) (b : Bs) : (l ++ [b]).map strV = l.map strV ++ [strV b] := by simp
/-- While the tables of a backup are read. -/
def BInv (p : Pp) (ns : Nat → Nat) (cs : Nat → List Value) (pool : Pool) (b1 zb : Nat) (name : Bs) (l : List HA) (w : World) (s : Ps) (acc : List Bs) : Prop :=
  ∃ v, HS w (dA p s ns cs pool :: boxA b1 (ptrC p.pb) 38 :: boxA zb (bkpC name v 0) 239 :: rowA 9 1 v acc.length (acc.map strV) :: l)
set_option maxRecDepth 100000 in
set_option maxHeartbeats 8000000 in
theorem backup1_c {b1 zb : Nat} {name : Bs} (w : World) (s : Ps) (acc : List Bs) (hl : acc.length ≤ 100000) (h : BInv p ns cs pool b1 zb name l w s acc) :
    Calls Tryz.prog 156 #[.pointer (some ⟨zb, 0, none⟩), .pointer (some ⟨b1, 0, none⟩)] w fun e w' => e = .returned (.tuple #[]) ∧ BInv p ns cs pool b1 zb name l w' (nameP p.e s).2 (acc ++ [(nameP p.e s).1]) := by
  obtain ⟨v, H⟩ := h
  obtain ⟨R, hR⟩ : ∃ R, nameP p.e s = R := ⟨_, rfl⟩
  rw [hR]
  unfold nameP at hR
  have h1 := fun w1 l1 l2 (H : HS w1 l1) (hp : Pick l1 (dA p s ns cs pool) l2) => name_s H hp
  generalize takeP p.e s 1 = q at h1 hR
  obtain ⟨t1, s1⟩ := q
  unfold PartPost at h1
  dsimp only at h1 hR
  subst hR
  obtain ⟨An, cn, rfl⟩ := H.slice (v := v) (by with_reducible repeat constructor)
  have Hd := H.drew
  have xB := HS.box (z := b1) H (by with_reducible repeat constructor); have xL := Box.lt xB; obtain ⟨hcB, hfB⟩ := Box.cells xB; have x0 := hcB 0; have xf0 := hfB 0; clear hcB hfB; unfold ptrC at x0
  have vB := HS.box (z := zb) H (by with_reducible repeat constructor); have vL := Box.lt vB; obtain ⟨hcB, hfB⟩ := Box.cells vB; have v1 := hcB 1; have vf1 := hfB 1; clear hcB hfB; unfold bkpC at v1
  go_enter Tryz.func156, Tryz.ntmps156
  (refine wp_region_G 7 (fun w' => w'.cell? ⟨b1, 0, none⟩ = some (.pointer (some ⟨p.pb, 0, none⟩)) ∧ w'.cell? ⟨zb, 1, none⟩ = some (.slice An acc.length cn)) (by kernel_rfl) ?_ (fun hHeld => ?_); (focus (try dsimp only); go_keep))
  (refine GG.tk 0 (v := ?_) rfl (by kernel_rfl) (fun _ _ _ h => h) (by rfl) (by assumption) ?_ ?_; rotate_left; (focus (intro w h; (try dsimp only at h); go_simp; (try with_reducible rfl))); (try simp only [Act.put, qqa]); refine GG.tk 1 (v := ?_) rfl (by kernel_rfl) (fun _ _ _ h => h) (by rfl) (by assumption) ?_ ?_; rotate_left; (focus (intro w h; (try dsimp only at h); go_simp; (try with_reducible rfl))); (try simp only [Act.put]); refine GG.tk 2 (v := ?_) rfl (by kernel_rfl) (fun _ _ _ h => h) (by rfl) (by assumption) ?_ ?_; rotate_left; (focus (intro w h; (try dsimp only at h); go_simp; (try with_reducible rfl))); (try simp only [Act.put]))
  (refine GG.one 3 (by kernel_rfl) (by decide) rfl (fun K hK => ?_); (go_simp; go_at_call 145; (with_reducible refine (h1 _ _ _ Hd (by with_reducible repeat constructor)).mono ?_); rintro e w5 ⟨rfl, H5⟩; have mB := HS.box (z := b1) H5 (by with_reducible repeat constructor); have mL := Box.lt mB; obtain ⟨hcB, hfB⟩ := Box.cells mB; have m0 := hcB 0; have mf0 := hfB 0; clear hcB hfB; unfold ptrC at m0; have kB := HS.box (z := zb) H5 (by with_reducible repeat constructor); have kL := Box.lt kB; obtain ⟨hcB, hfB⟩ := Box.cells kB; have k1 := hcB 1; have kf1 := hfB 1; clear hcB hfB; unfold bkpC at k1); refine hK.out _ _ ?_ (fun hHeld => ?_); (focus (try dsimp only); go_keep); clear hK K; (try simp only [Act.put, qqa, qqb, qqc]))
  have H7 := H5.alloc #[.string ⟨t1.text.toArray⟩] 9
  have own7 := H7.row (v := .slice An acc.length cn) (by with_reducible repeat constructor)
  (refine GG.one 4 (by kernel_rfl) (by decide) rfl (fun K hK => ?_); go_simp; refine hK.out _ _ ?_ (fun hHeld => ?_); (focus (try dsimp only); go_keep); clear hK K; (try simp only [Act.put, qqa, qqb, qqc]))
  (refine GG.one 5 (by kernel_rfl) (by decide) rfl (fun K hK => ?_); (refine step_app3 (v := .slice An acc.length cn) (by rfl) _ _ stS (by rfl) (by rfl) own7 (by rfl) (news := [.string ⟨t1.text.toArray⟩]) (by rfl) (litRd (heap_alloc_new _ _)) (fun h => by cases h) (by intro u hu; simp at hu; (repeat' (rcases hu with rfl | hu)); all_goals (first | rfl | (subst hu; rfl))) (by omega) (by first | exact Nat.zero_le _ | omega | (simp; omega)) ?_; intro vA wA ownA gA atA; have HA := H7.app (v := .slice An acc.length cn) (by with_reducible repeat constructor) ownA gA atA; have oB := HS.box (z := b1) HA (by with_reducible repeat constructor); have oL := Box.lt oB; obtain ⟨hcB, hfB⟩ := Box.cells oB; have o0 := hcB 0; have of0 := hfB 0; clear hcB hfB; unfold ptrC at o0; have gB := HS.box (z := zb) HA (by with_reducible repeat constructor); have gL := Box.lt gB; obtain ⟨hcB, hfB⟩ := Box.cells gB; have g1 := hcB 1; have gf1 := hfB 1; clear hcB hfB; unfold bkpC at g1; obtain ⟨AB, cB, rfl, -, -⟩ := own_slice ownA); refine hK.out _ _ ?_ (fun hHeld => ?_); (focus (try dsimp only); go_keep); clear hK K; (try simp only [Act.put, qqa]))
  (refine GG.tk 6 (v := ?_) rfl (by kernel_rfl) (fun _ _ _ h => h) (by rfl) (by assumption) ?_ ?_; rotate_left; (focus (intro w h; (try dsimp only at h); go_simp; (try with_reducible rfl))); (try simp only [Act.put]))
  (refine GG.last (by kernel_rfl) (by kernel_rfl) rfl (fun K hK => ?_); go_simp; refine hK.out _ _ ?_; clear hK K)
  go_end0
  refine ⟨rfl, .slice AB (acc.length + 1) cB, ?_⟩
  have e1 : (acc ++ [t1.text]).length = acc.length + 1 := by simp
  have e2 : ([strV t1.text] : List Value) = [.string ⟨t1.text.toArray⟩] := rfl
  rw [strV_snoc, e1, e2]
  exact (HA.storeTo (z := zb) (by with_reducible repeat constructor) 1 _ (bkpC name (.slice AB (acc.length + 1) cB) 0) rfl).sub (by with_reducible repeat constructor)
set_option maxRecDepth 100000 in
set_option maxHeartbeats 8000000 in
theorem backup_s (hN : p.e.okN) (hn7 : ns 7 ≤ 100000) (H : HS w (dA p s ns cs pool :: l)) :
    Calls Tryz.prog 110 #[.pointer (some ⟨p.pb, 0, none⟩)] w (fun e w' => e = .returned (.tuple #[]) ∧ ∃ v1 v, HS w' (dA (p.withRow 7 v1) (backupP p.e s).2 (pushN ns 7) (pushC cs 7 (bkpC (backupP p.e s).1.name v (backupP p.e s).1.keep).toList) pool :: rowA 9 1 v (backupP p.e s).1.tables.length ((backupP p.e s).1.tables.map strV) :: l)) := by
  obtain ⟨R, hR⟩ : ∃ R, backupP p.e s = R := ⟨_, rfl⟩
  rw [hR]
  have hfew := (H.few (by with_reducible repeat constructor)).1
  unfold backupP at hR
  rw [show nameP p.e s = ((takeP p.e s 1).1.text, (takeP p.e s 1).2) from rfl] at hR
  have h1 := fun w1 l1 l2 (H : HS w1 l1) (hp : Pick l1 (dA p s ns cs pool) l2) => name_s H hp
  generalize takeP p.e s 1 = q at h1 hR
  obtain ⟨t1, s1⟩ := q
  unfold PartPost at h1
  dsimp only at h1 hR
  rw [show ([wOf] : List Bs) = [[111, 102]] from rfl] at hR
  have h2 := fun w1 l1 l2 (H : HS w1 l1) (hp : Pick l1 (dA p s1 ns cs pool) l2) => exp1_s H hp [111, 102]
  generalize expectP p.e s1 [[111, 102]] = q at h2 hR
  obtain ⟨wd2, s2⟩ := q
  unfold PartPost at h2
  dsimp only at h2 hR
  obtain ⟨L, hL⟩ : ∃ L, listP p.e (nameP p.e) s2 = L := ⟨_, rfl⟩
  rw [hL] at hR
  obtain ⟨tbs, s3⟩ := L
  dsimp only at hR
  unfold numP at hR
  have h4 := fun w1 l1 l2 (H : HS w1 l1) (hp : Pick l1 (dA p s3 ns cs pool) l2) => exp1_s H hp [107, 101, 101, 112]
  generalize expectP p.e s3 [[107, 101, 101, 112]] = q at h4 hR
  obtain ⟨wd4, s4⟩ := q
  unfold PartPost at h4
  dsimp only at h4 hR
  have h5 := fun w1 l1 l2 (H : HS w1 l1) (hp : Pick l1 (dA p s4 ns cs pool) l2) => number_s hN H hp
  generalize takeP p.e s4 2 = q at h5 hR
  obtain ⟨t3, s5⟩ := q
  unfold PartPost at h5
  dsimp only at h5 hR
  subst hR
  go_enter Tryz.func110, Tryz.ntmps110
  go_upto_region 1 with fail
  obtain ⟨b1, w1, ez, ew, H1⟩ := H.alloc_ex (ptrC p.pb) 38
  unfold ptrC at ew
  rw [ew, ez]
  clear ez ew H
  have xB := HS.box (z := b1) H1 (by with_reducible repeat constructor); have xL := Box.lt xB; obtain ⟨hcB, hfB⟩ := Box.cells xB; have x0 := hcB 0; have xf0 := hfB 0; clear hcB hfB; unfold ptrC at x0
  go_upto_region 2 with (go_at_call 145; (with_reducible refine (h1 _ _ _ H1 (by with_reducible repeat constructor)).mono ?_); rintro e w2 ⟨rfl, H2⟩)
  clear xB x0 xf0 xL H1 h1
  obtain ⟨zb, w3, ez, ew, H3⟩ := H2.alloc_ex (bkpC t1.text (.slice none 0 0) 0) 239
  unfold bkpC at ew
  rw [ew, ez]
  clear ez ew H2
  have xB := HS.box (z := b1) H3 (by with_reducible repeat constructor); have xL := Box.lt xB; obtain ⟨hcB, hfB⟩ := Box.cells xB; have x0 := hcB 0; have xf0 := hfB 0; clear hcB hfB; unfold ptrC at x0
  go_upto_region 3 with (go_at_call 71; (with_reducible refine (h2 _ _ _ H3 (by with_reducible repeat constructor)).mono ?_); rintro e w4 ⟨rfl, H4⟩)
  clear xB x0 xf0 xL H3 h2
  have xB := HS.box (z := b1) H4 (by with_reducible repeat constructor); have xL := Box.lt xB; obtain ⟨hcB, hfB⟩ := Box.cells xB; have x0 := hcB 0; have xf0 := hfB 0; clear hcB hfB; unfold ptrC at x0
  have I0 : BInv p ns cs pool b1 zb t1.text l w4 s2 [] := ⟨.slice none 0 0, by
    simp only [List.length_nil, List.map_nil]
    exact (H4.rowNil 9 1).sub (by with_reducible repeat constructor)⟩
  have hLi := list_s (p := p) 156 (fun _ _ => rfl) #[] #[.pointer (some ⟨zb, 0, none⟩), .pointer (some ⟨b1, 0, none⟩)] (nameP p.e) (BInv p ns cs pool b1 zb t1.text l)
    (fun w s acc ⟨v, H⟩ => ⟨_, _, ns, cs, pool, H, .here, fun w' s' H' => ⟨v, H'⟩⟩)
    (fun sa hsa => (fwd_name hsa).1) (acc0 := []) (fun wa sa acc hl HI => backup1_c wa sa acc (by simp at hl; omega) HI) I0
  rw [hL, List.nil_append] at hLi
  dsimp only at hLi
  clear I0 hL
  go_upto_region 4 with (go_at_call 146; (with_reducible refine hLi.mono ?_); rintro e w5 ⟨rfl, v, H5⟩)
  clear hLi H4 xB x0 xf0 xL
  obtain ⟨An, cn, rfl⟩ := H5.slice (v := v) (by with_reducible repeat constructor)
  have xB := HS.box (z := b1) H5 (by with_reducible repeat constructor); have xL := Box.lt xB; obtain ⟨hcB, hfB⟩ := Box.cells xB; have x0 := hcB 0; have xf0 := hfB 0; clear hcB hfB; unfold ptrC at x0
  go_upto_region 5 with (go_at_call 71; (with_reducible refine (h4 _ _ _ H5 (by with_reducible repeat constructor)).mono ?_); rintro e w6 ⟨rfl, H6⟩)
  clear H5 h4 xB x0 xf0 xL
  have xB := HS.box (z := b1) H6 (by with_reducible repeat constructor); have xL := Box.lt xB; obtain ⟨hcB, hfB⟩ := Box.cells xB; have x0 := hcB 0; have xf0 := hfB 0; clear hcB hfB; unfold ptrC at x0
  go_upto_region 6 with (go_at_call 149; (with_reducible refine (h5 _ _ _ H6 (by with_reducible repeat constructor)).mono ?_); rintro e w7 ⟨rfl, H7⟩; have dB := HS.box (z := zb) H7 (by with_reducible repeat constructor); have dL := Box.lt dB; obtain ⟨hcB, hfB⟩ := Box.cells dB; have d2 := hcB 2; have df2 := hfB 2; clear hcB hfB; unfold bkpC at d2)
  clear H6 h5 xB x0 xf0 xL
  have H8 := H7.storeTo (z := zb) (by with_reducible repeat constructor) 2 (.int .i64 t3.int) (bkpC t1.text (.slice An tbs.length cn) t3.int) rfl
  generalize World.setCell _ _ _ = w8 at H8 ⊢
  clear H7 dB dL d2 df2
  obtain ⟨Av0, cv0, hv, c7, f7, lp0, -⟩ := H8.rcell (i := 7) (by with_reducible repeat constructor) (by decide)
  have c70 : w8.cell? ⟨p.pb, 13, none⟩ = some (.slice Av0 (ns 7) cv0) := c7
  have HV0 := Lib.hid hv
  clear hv c7 f7
  have Hd0 := H8.drew.alloc (bkpC t1.text (.slice An tbs.length cn) t3.int) 239
  have own0 : (w8.drew.alloc (.cells (bkpC t1.text (.slice An tbs.length cn) t3.int) 239)).ownsRow (p.pb + 1) 239 3 (.slice Av0 (ns 7) cv0) (ns 7) (cs 7) := Hd0.rown (by with_reducible repeat constructor) (i := 7) (by decide) HV0.out
  unfold bkpC at own0
  have yB := HS.box (z := zb) H8 (by with_reducible repeat constructor); have yL := Box.lt yB; obtain ⟨hcB, hfB⟩ := Box.cells yB; have y0 := hcB 0; have yf0 := hfB 0; have y1 := hcB 1; have yf1 := hfB 1; have y2 := hcB 2; have yf2 := hfB 2; clear hcB hfB; unfold bkpC at y0 y1 y2
  have xB := HS.box (z := b1) H8 (by with_reducible repeat constructor); have xL := Box.lt xB; obtain ⟨hcB, hfB⟩ := Box.cells xB; have x0 := hcB 0; have xf0 := hfB 0; clear hcB hfB; unfold ptrC at x0
  go_upto_region 6 with fail
  (refine wp_region_G 14 (fun w' => w'.cell? ⟨b1, 0, none⟩ = some (.pointer (some ⟨p.pb, 0, none⟩)) ∧ w'.cell? ⟨p.pb, 13, none⟩ = some (.slice Av0 (ns 7) cv0) ∧ w'.cell? ⟨zb, 0, none⟩ = some (.string ⟨t1.text.toArray⟩) ∧ w'.cell? ⟨zb, 1, none⟩ = some (.slice An tbs.length cn) ∧ w'.cell? ⟨zb, 2, none⟩ = some (.int .i64 t3.int)) (by kernel_rfl) ?_ (fun hHeld => ?_); (focus (try dsimp only); go_keep))
  (refine GG.tk 0 (v := ?_) rfl (by kernel_rfl) (fun _ _ _ h => h) (by rfl) (by assumption) ?_ ?_; rotate_left; (focus (intro w h; (try dsimp only at h); go_simp; (try with_reducible rfl))); (try simp only [Act.put, qqa]); refine GG.tk 1 (v := ?_) rfl (by kernel_rfl) (fun _ _ _ h => h) (by rfl) (by assumption) ?_ ?_; rotate_left; (focus (intro w h; (try dsimp only at h); go_simp; (try with_reducible rfl))); (try simp only [Act.put]); refine GG.tk 2 (v := ?_) rfl (by kernel_rfl) (fun _ _ _ h => h) (by rfl) (by assumption) ?_ ?_; rotate_left; (focus (intro w h; (try dsimp only at h); go_simp; (try with_reducible rfl))); (try simp only [Act.put]); refine GG.tk 3 (v := ?_) rfl (by kernel_rfl) (fun _ _ _ h => h) (by rfl) (by assumption) ?_ ?_; rotate_left; (focus (intro w h; (try dsimp only at h); go_simp; (try with_reducible rfl))); (try simp only [Act.put]); refine GG.tk 4 (v := ?_) rfl (by kernel_rfl) (fun _ _ _ h => h) (by rfl) (by assumption) ?_ ?_; rotate_left; (focus (intro w h; (try dsimp only at h); go_simp; (try with_reducible rfl))); (try simp only [Act.put]); refine GG.tk 5 (v := ?_) rfl (by kernel_rfl) (fun _ _ _ h => h) (by rfl) (by assumption) ?_ ?_; rotate_left; (focus (intro w h; (try dsimp only at h); go_simp; (try with_reducible rfl))); (try simp only [Act.put]); refine GG.tk 6 (v := ?_) rfl (by kernel_rfl) (fun _ _ _ h => h) (by rfl) (by assumption) ?_ ?_; rotate_left; (focus (intro w h; (try dsimp only at h); go_simp; (try with_reducible rfl))); (try simp only [Act.put]); refine GG.tk 7 (v := ?_) rfl (by kernel_rfl) (fun _ _ _ h => h) (by rfl) (by assumption) ?_ ?_; rotate_left; (focus (intro w h; (try dsimp only at h); go_simp; (try with_reducible rfl))); (try simp only [Act.put]))
  (refine GG.one 8 (by kernel_rfl) (by decide) rfl (fun K hK => ?_); go_simp; refine hK.out _ _ ?_ (fun hHeld => ?_); (focus (try dsimp only); go_keep); clear hK K; (try simp only [Act.put, qqa, qqb, qqc]))
  (refine GG.one 9 (by kernel_rfl) (by decide) rfl (fun K hK => ?_); (refine step_app3 (v := .slice Av0 (ns 7) cv0) (by rfl) _ _ stBk (by rfl) (by rfl) own0 (by rfl) (news := [.string ⟨t1.text.toArray⟩, .slice An tbs.length cn, .int .i64 t3.int]) (by rfl) (litRd (heap_alloc_new _ _)) (fun h => by cases h) (by intro u hu; simp at hu; (repeat' (rcases hu with rfl | hu)); all_goals (first | rfl | (subst hu; rfl))) (by omega) (by first | exact Nat.zero_le _ | omega | (simp; omega)) ?_; intro vA wA ownA gA atA; have HA := Hd0.appOthers (by with_reducible repeat constructor) (i := 7) (by decide) HV0.out gA; have hAf := Hd0.after (by with_reducible repeat constructor) (i := 7) (by decide) HV0.out gA; obtain ⟨a7, g7, la⟩ := hAf; have a7' : wA.cell? ⟨p.pb, 13, none⟩ = some (.slice Av0 (ns 7) cv0) := a7; have g7' : wA.frozen? ⟨p.pb, 13, none⟩ = false := g7; clear a7 g7; have mB := HS.box (z := b1) HA (by with_reducible repeat constructor); have mL := Box.lt mB; obtain ⟨hcB, hfB⟩ := Box.cells mB; have m0 := hcB 0; have mf0 := hfB 0; clear hcB hfB; unfold ptrC at m0; have kB := HS.box (z := zb) HA (by with_reducible repeat constructor); have kL := Box.lt kB; obtain ⟨hcB, hfB⟩ := Box.cells kB; have k0 := hcB 0; have kf0 := hfB 0; have k1 := hcB 1; have kf1 := hfB 1; have k2 := hcB 2; have kf2 := hfB 2; clear hcB hfB; unfold bkpC at k0 k1 k2; obtain ⟨AB0, cB0, rfl, -, -⟩ := own_slice ownA); refine hK.out _ _ ?_ (fun hHeld => ?_); (focus (try dsimp only); go_keep); clear hK K; (try simp only [Act.put, qqa]))
  (refine GG.tk 10 (v := ?_) rfl (by kernel_rfl) (fun _ _ _ h => h) (by rfl) (by assumption) ?_ ?_; rotate_left; (focus (intro w h; (try dsimp only at h); go_simp; (try with_reducible rfl))); (try simp only [Act.put]); refine GG.tk 11 (v := ?_) rfl (by kernel_rfl) (fun _ _ _ h => h) (by rfl) (by assumption) ?_ ?_; rotate_left; (focus (intro w h; (try dsimp only at h); go_simp; (try with_reducible rfl))); (try simp only [Act.put]); refine GG.tk 12 (v := ?_) rfl (by kernel_rfl) (fun _ _ _ h => h) (by rfl) (by assumption) ?_ ?_; rotate_left; (focus (intro w h; (try dsimp only at h); go_simp; (try with_reducible rfl))); (try simp only [Act.put]); refine GG.tk 13 (v := ?_) rfl (by kernel_rfl) (fun _ _ _ h => h) (by rfl) (by assumption) ?_ ?_; rotate_left; (focus (intro w h; (try dsimp only at h); go_simp; (try with_reducible rfl))); (try simp only [Act.put]))
  (refine GG.last (by kernel_rfl) (by kernel_rfl) rfl (fun K hK => ?_); go_simp; refine hK.out _ _ ?_; clear hK K)
  have HP0 : HS (wA.setCell ⟨p.pb, 13, none⟩ (.slice AB0 (ns 7 + 1) cB0)) _ := Hd0.push (new := (bkpC t1.text (.slice An tbs.length cn) t3.int).toList) (by with_reducible repeat constructor) (i := 7) (by decide) HV0.out ownA gA atA
  go_end0
  exact ⟨rfl, _, .slice An tbs.length cn, HP0.sub (by with_reducible repeat constructor)⟩
end
end Go.Proofs.YtgnmnaclndkmdaaGreatDoor
