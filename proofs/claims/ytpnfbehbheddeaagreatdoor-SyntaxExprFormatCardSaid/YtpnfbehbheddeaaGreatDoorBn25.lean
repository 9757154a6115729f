/- Contracts of items, of the closure that inputs hands to list, and of inputs. The numbers of the tokens are from 0 to 2^32. -/
import Derived.Test.YtpnfbehbheddeaaGreatDoorBn24
namespace Go.Proofs.YtpnfbehbheddeaaGreatDoor
set_option maxRecDepth 100000
set_option maxHeartbeats 8000000
set_option linter.unusedVariables false
set_option linter.unusedSimpArgs false
open Go.RowKit
def ItemsPost (p : Pp) (ns : Nat → Nat) (cs : Nat → List Value) (pool0 : Pool) (zv zn : Nat) (name : Bs) (kind : Int) (dis : Bool) (l : List HA) (r : List (Bs × Xr) × Ps) (e : Ending) (w : World) : Prop :=
  e = .returned (.tuple #[]) ∧ ∃ pool itv nv names qs, HS w (dA p r.2 ns cs pool :: boxA zv (vc0 name kind [] [] dis itv (.slice none 0 0)) 206 :: boxA zn (nc0 Tk.zero Tk.zero (.slice none 0 0) nv (.slice none 0 0) (.pointer none) (.slice none 0 0)) 210 :: rowA 214 2 itv names.length (itC names) :: rowA 72 2 nv qs.length (xsC qs) :: allA (qs.map xA) :: l) ∧ names = r.1.map Prod.fst ∧ qs.map Prod.fst = r.1.map Prod.snd ∧ (∀ q ∈ qs, XOk pool q) ∧ ∀ x ∈ pool0, x ∈ pool
section
variable {p : Pp} {w w' : World} {s s' : Ps} {ns : Nat → Nat} {cs : Nat → List Value} {pool : Pool} {l l' : List HA} {zv zn : Nat} {name : Bs} {kind : Int} {dis : Bool}
theorem items_s (hN : p.e.okN) (H : HS w (dA p s ns cs pool :: boxA zv (vc0 name kind [] [] dis (.slice none 0 0) (.slice none 0 0)) 206 :: boxA zn (nc0 Tk.zero Tk.zero (.slice none 0 0) (.slice none 0 0) (.slice none 0 0) (.pointer none) (.slice none 0 0)) 210 :: l)) :
    Calls Tryz.prog 194 #[.pointer (some ⟨p.pb, 0, none⟩), .pointer (some ⟨zv, 0, none⟩), .pointer (some ⟨zn, 0, none⟩)] w (ItemsPost p ns cs pool zv zn name kind dis l (listP p.e (itemP p.e) s)) := by
  have hfew := (H.few pkQ).1
  generalize hq : listP p.e (itemP p.e) s = R
  go_enter Tryz.func194, Tryz.ntmps194
  go_upto_region 1 with fail
  obtain ⟨b3, w1, ez, ew, H1⟩ := H.alloc3_ex (ptrC p.pb) 50 (ptrC zv) 201 (ptrC zn) 256
  unfold ptrC at ew
  rw [ew, ez]
  clear ez ew H
  obtain ⟨xB, xL, hcB⟩ := HS.get (z := b3) H1; obtain ⟨x0, xf0⟩ := hcB 0; clear hcB; unfold ptrC at x0
  have hI : HS w1 (itemsL p s ns cs pool b3 (b3 + 1) (b3 + 1 + 1) zv zn name kind dis (.slice none 0 0) (.slice none 0 0) [] [] l) := by
    have h := HS.mkAll (m := []) ((H1.rowNil 214 2).rowNil 72 2)
    unfold itemsL
    simp only [itC, xsC, List.length_nil, List.flatMap_nil, List.map_nil]
    exact h.sub pkQ
  have I0 : IInv p ns cs pool b3 (b3 + 1) (b3 + 1 + 1) zv zn name kind dis l w1 s [] := ⟨pool, _, _, [], [], hI, rfl, rfl, (fun q hq => by cases hq), fun _ h => h⟩
  have hL := list_s (p := p) 242 (fun _ _ => rfl) #[] #[.pointer (some ⟨b3, 0, none⟩), .pointer (some ⟨b3 + 1, 0, none⟩), .pointer (some ⟨b3 + 1 + 1, 0, none⟩)] (itemP p.e) (IInv p ns cs pool b3 (b3 + 1) (b3 + 1 + 1) zv zn name kind dis l)
    (fun w s acc ⟨pool', itv, nv, names, qs, H, h1, h2, h3, h4⟩ => ⟨_, _, ns, cs, pool', H, .here, fun w' s' H' => ⟨pool', itv, nv, names, qs, H', h1, h2, h3, h4⟩⟩)
    (fun sa hsa => (fwd_item hsa).1) (acc0 := []) (fun wa sa acc hl HI => items1_c hN wa sa acc (by simp at hl; omega) HI) I0
  rw [hq] at hL
  clear hI I0 hq
  go_wp2_with (go_at_call 190; (with_reducible refine hL.mono ?_); rintro e w2 ⟨rfl, I2⟩)
  go_end0
  obtain ⟨pool', itv, nv, names, qs, H, h1, h2, h3, h4⟩ := I2
  rw [List.nil_append] at h1 h2
  unfold itemsL at H
  exact ⟨rfl, pool', itv, nv, names, qs, H.sub pkQ, h1, h2, h3, h4⟩
def onC (l : List (Tk × Tk)) : List Value := l.flatMap fun x => x.1.cells ++ x.2.cells
theorem onC_snoc (l : List (Tk × Tk)) (x : Tk × Tk) : onC (l ++ [x]) = onC l ++ (x.1.cells ++ x.2.cells) := by simp [onC]
theorem stOn : SliceTy Tryz.prog 207 217 8 80 := SliceTy.mk' Tryz.underlying207 (z := .agg #[.int .i64 0, .string ⟨#[]⟩, .int .i64 0, .int .i64 0, .int .i64 0, .string ⟨#[]⟩, .int .i64 0, .int .i64 0]) (by kernel_rfl) rfl (by decide) (by decide)
end
def OInv (p : Pp) (ns : Nat → Nat) (cs : Nat → List Value) (pool : Pool) (b3 b5 zn : Nat) (lt rt : Tk) (nv nav wp wr : Value) (l : List HA) (w : World) (s : Ps) (acc : List (Tk × Tk)) : Prop :=
  ∃ onv, HS w (dA p s ns cs pool :: boxA b3 (ptrC p.pb) 50 :: boxA b5 (ptrC zn) 256 :: boxA zn (nc0 lt rt onv nv nav wp wr) 210 :: rowA 217 8 onv acc.length (onC acc) :: l)
def tkC (t : Tk) : Array Value := #[.int .i64 t.kind, .string ⟨t.text.toArray⟩, .int .i64 t.int, .int .i64 t.pos]
theorem inputs1_c {p : Pp} {ns : Nat → Nat} {cs : Nat → List Value} {pool : Pool} {b3 b5 zn : Nat} {lt rt : Tk} {nv nav wp wr : Value} {l : List HA} (w : World) (s : Ps) (acc : List (Tk × Tk)) (hl : acc.length ≤ 100000) (h : OInv p ns cs pool b3 b5 zn lt rt nv nav wp wr l w s acc) :
    Calls Tryz.prog 243 #[.pointer (some ⟨b3, 0, none⟩), .pointer (some ⟨b5, 0, none⟩)] w fun e w' => e = .returned (.tuple #[]) ∧ OInv p ns cs pool b3 b5 zn lt rt nv nav wp wr l w' (pairP p.e s).2 (acc ++ [(pairP p.e s).1]) := by
  obtain ⟨onv, H⟩ := h
  obtain ⟨R, hR⟩ : ∃ R, pairP p.e s = R := ⟨_, rfl⟩
  rw [hR]
  unfold pairP at hR
  have h1 := fun w1 l1 l2 (H : HS w1 l1) (hp : Pick l1 (dA p s ns cs pool) l2) => takeName_s H hp
  generalize takeP p.e s 1 = q at h1 hR
  obtain ⟨t1, s1⟩ := q
  unfold PartPost at h1
  dsimp only at h1 hR
  have h2 := fun w1 l1 l2 (H : HS w1 l1) (hp : Pick l1 (dA p s1 ns cs pool) l2) => exp1_s H hp [61]
  generalize expectP p.e s1 [[61]] = q at h2 hR
  obtain ⟨wd2, s2⟩ := q
  unfold PartPost at h2
  dsimp only at h2 hR
  have h3 := fun w1 l1 l2 (H : HS w1 l1) (hp : Pick l1 (dA p s2 ns cs pool) l2) => takeName_s H hp
  generalize takeP p.e s2 1 = q at h3 hR
  obtain ⟨t2, s3⟩ := q
  unfold PartPost at h3
  dsimp only at h3 hR
  subst hR
  obtain ⟨xB, xL, hcB⟩ := HS.get (z := b3) H; obtain ⟨x0, xf0⟩ := hcB 0; clear hcB; unfold ptrC at x0
  go_enter Tryz.func243, Tryz.ntmps243
  go_upto_region 1 with (go_at_call 198; (with_reducible refine (h1 _ _ _ H pkQ).mono ?_); rintro e w1 ⟨rfl, H1⟩)
  clear xB x0 xf0 xL H h1
  obtain ⟨z, w2, ez, ew, H⟩ := H1.alloc_ex (tkC t1) 100
  unfold tkC at ew
  rw [ew, ez]
  clear ez ew H1
  obtain ⟨xB, xL, hcB⟩ := HS.get (z := b3) H; obtain ⟨x0, xf0⟩ := hcB 0; clear hcB; unfold ptrC at x0
  go_upto_region 2 with (go_at_call 88; (with_reducible refine (h2 _ _ _ H pkQ).mono ?_); rintro e w3 ⟨rfl, H3⟩)
  clear xB x0 xf0 xL H h2
  obtain ⟨An, cn, rfl⟩ := H3.slice (v := onv) pkQ
  have Hd := H3.drew
  obtain ⟨xB, xL, hcB⟩ := HS.get (z := b5) H3; obtain ⟨x0, xf0⟩ := hcB 0; clear hcB; unfold ptrC at x0
  obtain ⟨yB, yL, hcB⟩ := HS.get (z := b3) H3; obtain ⟨y0, yf0⟩ := hcB 0; clear hcB; unfold ptrC at y0
  obtain ⟨vB, vL, hcB⟩ := HS.get (z := zn) H3; obtain ⟨v8, vf8⟩ := hcB 8; clear hcB; unfold nc0 at v8
  obtain ⟨dB, dL, hcB⟩ := HS.get (z := z) H3; obtain ⟨d0, df0⟩ := hcB 0; obtain ⟨d1, df1⟩ := hcB 1; obtain ⟨d2, df2⟩ := hcB 2; obtain ⟨d3, df3⟩ := hcB 3; clear hcB; unfold tkC at d0 d1 d2 d3
  (refine wp_region_G 13 (fun w' => w'.cell? ⟨b5, 0, none⟩ = some (.pointer (some ⟨zn, 0, none⟩)) ∧ w'.cell? ⟨zn, 8, none⟩ = some (.slice An acc.length cn) ∧ w'.cell? ⟨b3, 0, none⟩ = some (.pointer (some ⟨p.pb, 0, none⟩)) ∧ w'.cell? ⟨z, 0, none⟩ = some (.int .i64 t1.kind) ∧ w'.cell? ⟨z, 1, none⟩ = some (.string ⟨t1.text.toArray⟩) ∧ w'.cell? ⟨z, 2, none⟩ = some (.int .i64 t1.int) ∧ w'.cell? ⟨z, 3, none⟩ = some (.int .i64 t1.pos)) (by kernel_rfl) ?_ (fun hHeld => ?_); (focus (try dsimp only); go_keep))
  (refine GG.k 0 ?_; refine GG.k 1 ?_; refine GG.k 2 ?_; refine GG.k 3 ?_; refine GG.k 4 ?_; refine GG.k 5 ?_; refine GG.k 6 ?_)
  (refine GG.o 7 (fun K hK => ?_); (go_simp; go_at_call 198; (with_reducible refine (h3 _ _ _ Hd pkQ).mono ?_); rintro e w5 ⟨rfl, H5⟩; obtain ⟨mB, mL, hcB⟩ := HS.get (z := b5) H5; obtain ⟨m0, mf0⟩ := hcB 0; clear hcB; unfold ptrC at m0; obtain ⟨kB, kL, hcB⟩ := HS.get (z := zn) H5; obtain ⟨k8, kf8⟩ := hcB 8; clear hcB; unfold nc0 at k8; obtain ⟨jB, jL, hcB⟩ := HS.get (z := b3) H5; obtain ⟨j0, jf0⟩ := hcB 0; clear hcB; unfold ptrC at j0; obtain ⟨iB, iL, hcB⟩ := HS.get (z := z) H5; obtain ⟨i0, if0⟩ := hcB 0; obtain ⟨i1, if1⟩ := hcB 1; obtain ⟨i2, if2⟩ := hcB 2; obtain ⟨i3, if3⟩ := hcB 3; clear hcB; unfold tkC at i0 i1 i2 i3); refine hK.out _ _ ?_ (fun hHeld => ?_); (focus (try dsimp only); go_keep); clear hK K; (try simp only [Act.put, qqa, qqb, qqc]))
  (refine GG.k 8 ?_)
  have H7 := H5.alloc #[.int .i64 t1.kind, .string ⟨t1.text.toArray⟩, .int .i64 t1.int, .int .i64 t1.pos, .int .i64 t2.kind, .string ⟨t2.text.toArray⟩, .int .i64 t2.int, .int .i64 t2.pos] 217
  have own7 := H7.row (v := .slice An acc.length cn) pkQ
  (refine GG.o 9 (fun K hK => ?_); go_simp; refine hK.out _ _ ?_ (fun hHeld => ?_); (focus (try dsimp only); go_keep); clear hK K; (try simp only [Act.put, qqa, qqb, qqc]))
  (refine GG.o 10 (fun K hK => ?_); (refine step_app3 (v := .slice An acc.length cn) (by rfl) _ _ stOn (by rfl) (by rfl) own7 (by rfl) (news := [.int .i64 t1.kind, .string ⟨t1.text.toArray⟩, .int .i64 t1.int, .int .i64 t1.pos, .int .i64 t2.kind, .string ⟨t2.text.toArray⟩, .int .i64 t2.int, .int .i64 t2.pos]) (by rfl) (litRd (heap_alloc_new _ _)) (fun h => by cases h) (by intro u hu; simp at hu; (repeat' (rcases hu with rfl | hu)); all_goals (first | rfl | (subst hu; rfl))) (by omega) (by first | exact Nat.zero_le _ | omega | (simp; omega)) ?_; intro vA wA ownA gA atA; have HA := H7.app (v := .slice An acc.length cn) pkQ ownA gA atA; obtain ⟨oB, oL, hcB⟩ := HS.get (z := b5) HA; obtain ⟨o0, of0⟩ := hcB 0; clear hcB; unfold ptrC at o0; obtain ⟨gB, gL, hcB⟩ := HS.get (z := zn) HA; obtain ⟨g8, gf8⟩ := hcB 8; clear hcB; unfold nc0 at g8; obtain ⟨qB, qL, hcB⟩ := HS.get (z := b3) HA; obtain ⟨q0, qf0⟩ := hcB 0; clear hcB; unfold ptrC at q0; obtain ⟨fB, fL, hcB⟩ := HS.get (z := z) HA; obtain ⟨f0, ff0⟩ := hcB 0; obtain ⟨f1, ff1⟩ := hcB 1; obtain ⟨f2, ff2⟩ := hcB 2; obtain ⟨f3, ff3⟩ := hcB 3; clear hcB; unfold tkC at f0 f1 f2 f3; obtain ⟨AB, cB, rfl, -, -⟩ := own_slice ownA); refine hK.out _ _ ?_ (fun hHeld => ?_); (focus (try dsimp only); go_keep); clear hK K; (try simp only [Act.put, qqa, qqb, qqc]))
  (refine GG.k 11 ?_; refine GG.k 12 ?_)
  (refine GG.l (fun K hK => ?_); go_simp; refine hK.out _ _ ?_; clear hK K)
  go_end0
  refine ⟨rfl, .slice AB (acc.length + 1) cB, ?_⟩
  have e1 : (acc ++ [(t1, t2)]).length = acc.length + 1 := by simp
  have e2 : (t1, t2).1.cells ++ (t1, t2).2.cells = [.int .i64 t1.kind, .string ⟨t1.text.toArray⟩, .int .i64 t1.int, .int .i64 t1.pos, .int .i64 t2.kind, .string ⟨t2.text.toArray⟩, .int .i64 t2.int, .int .i64 t2.pos] := rfl
  rw [onC_snoc, e1, e2]
  exact (HA.storeTo (z := zn) pkQ 8 _ (nc0 lt rt (.slice AB (acc.length + 1) cB) nv nav wp wr) rfl).sub pkQ
def InpPost (p : Pp) (ns : Nat → Nat) (cs : Nat → List Value) (pool0 : Pool) (zn : Nat) (nv nav : Value) (l : List HA) (r : (Tk × (Tk × List (Tk × Tk)) × Xr) × Ps) (w : World) : Prop :=
  ∃ pool onv a v c0 c1, xC (r.1.2.2, a, v) = [c0, c1] ∧ ((∃ b, c0 = .pointer b) ∧ ∃ A n c, c1 = .slice A n c) ∧ HS w (dA p r.2 ns cs pool :: boxA zn (nc0 r.1.1 r.1.2.1.1 onv nv nav c0 c1) 210 :: rowA 217 8 onv r.1.2.1.2.length (onC r.1.2.1.2) :: xA (r.1.2.2, a, v) :: l) ∧ XOk pool (r.1.2.2, a, v) ∧ ∀ x ∈ pool0, x ∈ pool
section
variable {p : Pp} {w w' : World} {s s' : Ps} {ns : Nat → Nat} {cs : Nat → List Value} {pool : Pool} {l l' : List HA} {zv zn : Nat} {nv nav : Value}
theorem inputs_s (hN : p.e.okN) (vp : Value) (H : HS w (dA p s ns cs pool :: boxA zn (nc0 Tk.zero Tk.zero (.slice none 0 0) nv nav (.pointer none) (.slice none 0 0)) 210 :: l)) :
    Calls Tryz.prog 195 #[.pointer (some ⟨p.pb, 0, none⟩), vp, .pointer (some ⟨zn, 0, none⟩)] w fun e w' => e = .returned (.tuple #[]) ∧ InpPost p ns cs pool zn nv nav l (inputsP p.e s) w' := by
  have hfew := (H.few pkQ).1
  obtain ⟨R, hR⟩ : ∃ R, inputsP p.e s = R := ⟨_, rfl⟩
  rw [hR]
  unfold inputsP at hR
  have h1 := fun w1 l1 l2 (H : HS w1 l1) (hp : Pick l1 (dA p s ns cs pool) l2) => exp1_s H hp [102, 114, 111, 109]
  generalize expectP p.e s [[102, 114, 111, 109]] = q at h1 hR
  obtain ⟨wd1, s1⟩ := q
  unfold PartPost at h1
  dsimp only at h1 hR
  have h2 := fun w1 l1 l2 (H : HS w1 l1) (hp : Pick l1 (dA p s1 ns cs pool) l2) => takeName_s H hp
  generalize takeP p.e s1 1 = q at h2 hR
  obtain ⟨t1, s2⟩ := q
  unfold PartPost at h2
  dsimp only at h2 hR
  have HR := Lib.hid hR
  clear hR
  go_enter Tryz.func195, Tryz.ntmps195
  go_upto_region 1 with fail
  obtain ⟨b3, w1, ez, ew, H1⟩ := H.alloc2_ex (ptrC p.pb) 50 (ptrC zn) 256
  unfold ptrC at ew
  rw [ew, ez]
  clear ez ew H
  obtain ⟨xB, xL, hcB⟩ := HS.get (z := b3) H1; obtain ⟨x0, xf0⟩ := hcB 0; clear hcB; unfold ptrC at x0
  go_upto_region 2 with (go_at_call 88; (with_reducible refine (h1 _ _ _ H1 pkQ).mono ?_); rintro e w2 ⟨rfl, H2⟩)
  clear xB x0 xf0 xL H1 h1
  obtain ⟨b5, hb5⟩ : ∃ b5, b3 + 1 = b5 := ⟨_, rfl⟩
  rw [hb5] at H2 ⊢
  clear hb5
  have Hd := H2.drew
  obtain ⟨xB, xL, hcB⟩ := HS.get (z := b3) H2; obtain ⟨x0, xf0⟩ := hcB 0; clear hcB; unfold ptrC at x0
  obtain ⟨yB, yL, hcB⟩ := HS.get (z := b5) H2; obtain ⟨y0, yf0⟩ := hcB 0; clear hcB; unfold ptrC at y0
  (refine wp_region_G 5 (fun w' => w'.cell? ⟨b5, 0, none⟩ = some (.pointer (some ⟨zn, 0, none⟩)) ∧ w'.cell? ⟨b3, 0, none⟩ = some (.pointer (some ⟨p.pb, 0, none⟩))) (by kernel_rfl) ?_ (fun hHeld => ?_); (focus (try dsimp only); go_keep))
  (refine GG.k 0 ?_; refine GG.k 1 ?_)
  (refine GG.o 2 (fun K hK => ?_); (go_simp; go_at_call 198; (with_reducible refine (h2 _ _ _ Hd pkQ).mono ?_); rintro e w3 ⟨rfl, H3⟩; obtain ⟨mB, mL, hcB⟩ := HS.get (z := b5) H3; obtain ⟨m0, mf0⟩ := hcB 0; clear hcB; unfold ptrC at m0; obtain ⟨jB, jL, hcB⟩ := HS.get (z := b3) H3; obtain ⟨j0, jf0⟩ := hcB 0; clear hcB; unfold ptrC at j0; obtain ⟨kB, kL, hcB⟩ := HS.get (z := zn) H3; obtain ⟨k0, kf0⟩ := hcB 0; obtain ⟨k1, kf1⟩ := hcB 1; obtain ⟨k2, kf2⟩ := hcB 2; obtain ⟨k3, kf3⟩ := hcB 3; clear hcB; unfold nc0 at k0 k1 k2 k3); refine hK.out _ _ ?_ (fun hHeld => ?_); (focus (try dsimp only); go_keep); clear hK K; (try simp only [Act.put, qqa, qqb, qqc]))
  (refine GG.k 3 ?_; refine GG.k 4 ?_)
  (refine GG.l (fun K hK => ?_); go_simp; refine hK.out _ _ ?_; clear hK K)
  have H4 := (((H3.store (z := zn) pkQ 0 (.int .i64 t1.kind)).store (z := zn) pkQ 1 (.string ⟨t1.text.toArray⟩)).store (z := zn) pkQ 2 (.int .i64 t1.int)).storeTo (z := zn) pkQ 3 (.int .i64 t1.pos) (nc0 t1 Tk.zero (.slice none 0 0) nv nav (.pointer none) (.slice none 0 0)) rfl
  generalize World.setCell _ _ _ = w4 at H4 ⊢
  clear H3 mB m0 mf0 mL jB j0 jf0 jL kB kL k0 k1 k2 k3 kf0 kf1 kf2 kf3 xB x0 xf0 xL yB y0 yf0 yL Hd H2 h2 hHeld
  obtain ⟨b, s3, hq⟩ : ∃ b s3, acceptP p.e s2 [[106, 111, 105, 110]] = (b, s3) := ⟨_, _, rfl⟩
  have hA := fun w1 l1 l2 (H : HS w1 l1) (hp : Pick l1 (dA p s2 ns cs pool) l2) => acc1_s H hp [106, 111, 105, 110]
  unfold PartPost at hA
  rw [hq] at hA
  have HO := Lib.hid (opt_acc (d := (Tk.zero, ([] : List (Tk × Tk)))) (f := joinP p.e) hq)
  have hR := HR.out
  clear HR hq
  generalize optP p.e [106, 111, 105, 110] (Tk.zero, ([] : List (Tk × Tk))) (joinP p.e) s2 = q at hR HO
  obtain ⟨j, s4⟩ := q
  dsimp only at hR
  have HR := Lib.hid hR
  clear hR
  obtain ⟨xB, xL, hcB⟩ := HS.get (z := b3) H4; obtain ⟨x0, xf0⟩ := hcB 0; clear hcB; unfold ptrC at x0
  go_upto_if 16 with (go_at_call 142; (with_reducible refine (hA _ _ _ H4 pkQ).mono ?_); rintro e w5 ⟨rfl, H5⟩)
  clear H4 hA xB x0 xf0 xL
  go_cut [17] from 18 to 27 (fun _ wx => ∃ onv, HS wx (dA p s4 ns cs pool :: boxA b3 (ptrC p.pb) 50 :: boxA b5 (ptrC zn) 256 :: boxA zn (nc0 t1 j.1 onv nv nav (.pointer none) (.slice none 0 0)) 210 :: rowA 217 8 onv j.2.length (onC j.2) :: l))
  case first =>
    cases b
    · have h := HO.out
      rw [if_neg (by simp)] at h
      obtain ⟨rfl, rfl⟩ : j = (Tk.zero, []) ∧ s4 = s3 := ⟨congrArg Prod.fst h, congrArg Prod.snd h⟩
      go_wp2_with fail
      go_meet
      refine ⟨.slice none 0 0, ?_⟩
      simp only [onC, List.length_nil, List.flatMap_nil]
      exact (H5.rowNil 217 8).sub pkQ
    · have h := HO.out
      rw [if_pos rfl] at h
      clear HO
      unfold joinP at h
      have h3 := fun w1 l1 l2 (H : HS w1 l1) (hp : Pick l1 (dA p s3 ns cs pool) l2) => takeName_s H hp
      generalize takeP p.e s3 1 = q at h3 h
      obtain ⟨t2, s5⟩ := q
      unfold PartPost at h3
      dsimp only at h3 h
      obtain ⟨b, s6, hq⟩ : ∃ b s6, acceptP p.e s5 [[111, 110]] = (b, s6) := ⟨_, _, rfl⟩
      have hA := fun w1 l1 l2 (H : HS w1 l1) (hp : Pick l1 (dA p s5 ns cs pool) l2) => acc1_s H hp [111, 110]
      unfold PartPost at hA
      rw [hq] at hA
      have HO := Lib.hid (opt_acc (d := ([] : List (Tk × Tk))) (f := listP p.e (pairP p.e)) hq)
      generalize optP p.e [111, 110] ([] : List (Tk × Tk)) (listP p.e (pairP p.e)) s5 = q at h HO
      obtain ⟨prs, s7⟩ := q
      dsimp only at h
      obtain ⟨rfl, rfl⟩ : j = (t2, prs) ∧ s4 = s7 := ⟨congrArg Prod.fst h, congrArg Prod.snd h⟩
      clear h hq
      have Hd := H5.drew
      obtain ⟨xB, xL, hcB⟩ := HS.get (z := b3) H5; obtain ⟨x0, xf0⟩ := hcB 0; clear hcB; unfold ptrC at x0
      obtain ⟨yB, yL, hcB⟩ := HS.get (z := b5) H5; obtain ⟨y0, yf0⟩ := hcB 0; clear hcB; unfold ptrC at y0
      go_upto_region 4 with fail
      (refine wp_region_G 5 (fun w' => w'.cell? ⟨b5, 0, none⟩ = some (.pointer (some ⟨zn, 0, none⟩)) ∧ w'.cell? ⟨b3, 0, none⟩ = some (.pointer (some ⟨p.pb, 0, none⟩))) (by kernel_rfl) ?_ (fun hHeld => ?_); (focus (try dsimp only); go_keep))
      (refine GG.k 0 ?_; refine GG.k 1 ?_)
      (refine GG.o 2 (fun K hK => ?_); (go_simp; go_at_call 198; (with_reducible refine (h3 _ _ _ Hd pkQ).mono ?_); rintro e w6 ⟨rfl, H6⟩; obtain ⟨mB, mL, hcB⟩ := HS.get (z := b5) H6; obtain ⟨m0, mf0⟩ := hcB 0; clear hcB; unfold ptrC at m0; obtain ⟨jB, jL, hcB⟩ := HS.get (z := b3) H6; obtain ⟨j0, jf0⟩ := hcB 0; clear hcB; unfold ptrC at j0; obtain ⟨kB, kL, hcB⟩ := HS.get (z := zn) H6; obtain ⟨k4, kf4⟩ := hcB 4; obtain ⟨k5, kf5⟩ := hcB 5; obtain ⟨k6, kf6⟩ := hcB 6; obtain ⟨k7, kf7⟩ := hcB 7; clear hcB; unfold nc0 at k4 k5 k6 k7); refine hK.out _ _ ?_ (fun hHeld => ?_); (focus (try dsimp only); go_keep); clear hK K; (try simp only [Act.put, qqa, qqb, qqc]))
      (refine GG.k 3 ?_; refine GG.k 4 ?_)
      (refine GG.l (fun K hK => ?_); go_simp; refine hK.out _ _ ?_; clear hK K)
      have H7 := (((H6.store (z := zn) pkQ 4 (.int .i64 t2.kind)).store (z := zn) pkQ 5 (.string ⟨t2.text.toArray⟩)).store (z := zn) pkQ 6 (.int .i64 t2.int)).storeTo (z := zn) pkQ 7 (.int .i64 t2.pos) (nc0 t1 t2 (.slice none 0 0) nv nav (.pointer none) (.slice none 0 0)) rfl
      generalize World.setCell _ _ _ = w7 at H7 ⊢
      clear H6 mB m0 mf0 mL jB j0 jf0 jL kB kL k4 k5 k6 k7 kf4 kf5 kf6 kf7 xB x0 xf0 xL yB y0 yf0 yL Hd H5 h3 hHeld
      obtain ⟨xB, xL, hcB⟩ := HS.get (z := b3) H7; obtain ⟨x0, xf0⟩ := hcB 0; clear hcB; unfold ptrC at x0
      go_upto_if 24 with (go_at_call 142; (with_reducible refine (hA _ _ _ H7 pkQ).mono ?_); rintro e w8 ⟨rfl, H8⟩)
      clear H7 hA xB x0 xf0 xL
      cases b
      · have h := HO.out
        rw [if_neg (by simp)] at h
        obtain ⟨rfl, rfl⟩ : prs = [] ∧ s4 = s6 := ⟨congrArg Prod.fst h, congrArg Prod.snd h⟩
        go_wp2_with fail
        go_meet
        refine ⟨.slice none 0 0, ?_⟩
        simp only [onC, List.length_nil, List.flatMap_nil]
        exact (H8.rowNil 217 8).sub pkQ
      · have h := HO.out
        rw [if_pos rfl] at h
        clear HO
        obtain ⟨xB, xL, hcB⟩ := HS.get (z := b3) H8; obtain ⟨x0, xf0⟩ := hcB 0; clear hcB; unfold ptrC at x0
        have I0 : OInv p ns cs pool b3 b5 zn t1 t2 nv nav (.pointer none) (.slice none 0 0) l w8 s6 [] := ⟨.slice none 0 0, by
          simp only [onC, List.length_nil, List.flatMap_nil]
          exact (H8.rowNil 217 8).sub pkQ⟩
        have hL := list_s (p := p) 243 (fun _ _ => rfl) #[] #[.pointer (some ⟨b3, 0, none⟩), .pointer (some ⟨b5, 0, none⟩)] (pairP p.e) (OInv p ns cs pool b3 b5 zn t1 t2 nv nav (.pointer none) (.slice none 0 0) l)
          (fun w s acc ⟨onv, H⟩ => ⟨_, _, ns, cs, pool, H, .here, fun w' s' H' => ⟨onv, H'⟩⟩)
          (fun sa hsa => (fwd_pair hsa).1) (acc0 := []) (fun wa sa acc hl HI => inputs1_c wa sa acc (by simp at hl; omega) HI) I0
        rw [← h, List.nil_append] at hL
        clear I0 h
        go_wp2_with (go_at_call 190; (with_reducible refine hL.mono ?_); rintro e w9 ⟨rfl, onv, H9⟩)
        go_meet
        exact ⟨onv, H9⟩
  case rest =>
    obtain ⟨onv, H⟩ := hcut
    clear H5 HO
    obtain ⟨b, s5, hq⟩ : ∃ b s5, acceptP p.e s4 [[119, 104, 101, 114, 101]] = (b, s5) := ⟨_, _, rfl⟩
    have hA := fun w1 l1 l2 (H : HS w1 l1) (hp : Pick l1 (dA p s4 ns cs pool) l2) => acc1_s H hp [119, 104, 101, 114, 101]
    unfold PartPost at hA
    rw [hq] at hA
    have HO := Lib.hid (opt_acc (d := Xr.none_) (f := wholeP p.e) hq)
    have hR := HR.out
    clear HR hq
    generalize optP p.e [119, 104, 101, 114, 101] Xr.none_ (wholeP p.e) s4 = q at hR HO
    obtain ⟨x, s6⟩ := q
    dsimp only at hR
    subst hR
    obtain ⟨xB, xL, hcB⟩ := HS.get (z := b3) H; obtain ⟨x0, xf0⟩ := hcB 0; clear hcB; unfold ptrC at x0
    go_upto_if 30 with (go_at_call 142; (with_reducible refine (hA _ _ _ H pkQ).mono ?_); rintro e w6 ⟨rfl, H6⟩)
    clear H hA xB x0 xf0 xL
    cases b
    · have h := HO.out
      rw [if_neg (by simp)] at h
      obtain ⟨rfl, rfl⟩ : x = Xr.none_ ∧ s6 = s5 := ⟨congrArg Prod.fst h, congrArg Prod.snd h⟩
      go_wp2_with fail
      go_end0
      refine ⟨rfl, pool, onv, 0, .slice none 0 0, .pointer none, .slice none 0 0, rfl, ⟨⟨_, rfl⟩, _, _, _, rfl⟩, ?_, .inl rfl, fun _ h => h⟩
      have h2 := (H6.mkPure trivial).sub (l' := dA p s6 ns cs pool :: boxA zn (nc0 t1 j.1 onv nv nav (.pointer none) (.slice none 0 0)) 210 :: rowA 217 8 onv j.2.length (onC j.2) :: pureA True :: l) pkQ
      exact h2
    · have h := HO.out
      rw [if_pos rfl] at h
      clear HO
      have h3 := fun w1 l1 l2 (H : HS w1 l1) (hp : Pick l1 (dA p s5 ns cs pool) l2) => whole_x hN H hp
      rw [← h] at h3
      clear h
      unfold WhX ptrV at h3
      dsimp only at h3
      have Hd := H6.drew
      obtain ⟨xB, xL, hcB⟩ := HS.get (z := b3) H6; obtain ⟨x0, xf0⟩ := hcB 0; clear hcB; unfold ptrC at x0
      obtain ⟨yB, yL, hcB⟩ := HS.get (z := b5) H6; obtain ⟨y0, yf0⟩ := hcB 0; clear hcB; unfold ptrC at y0
      go_upto_region 8 with fail
      (refine wp_region_G 5 (fun w' => w'.cell? ⟨b5, 0, none⟩ = some (.pointer (some ⟨zn, 0, none⟩)) ∧ w'.cell? ⟨b3, 0, none⟩ = some (.pointer (some ⟨p.pb, 0, none⟩))) (by kernel_rfl) ?_ (fun hHeld => ?_); (focus (try dsimp only); go_keep))
      (refine GG.k 0 ?_; refine GG.k 1 ?_)
      (refine GG.o 2 (fun K hK => ?_); (go_simp; go_at_call 19; (with_reducible refine (h3 _ _ _ Hd pkQ).mono ?_); rintro e w7 ⟨r, a, A, c, hr, rfl, H7⟩; obtain ⟨mB, mL, hcB⟩ := HS.get (z := b5) H7; obtain ⟨m0, mf0⟩ := hcB 0; clear hcB; unfold ptrC at m0; obtain ⟨iB, iL, hcB⟩ := HS.get (z := b3) H7; obtain ⟨i0, if0⟩ := hcB 0; clear hcB; unfold ptrC at i0; obtain ⟨kB, kL, hcB⟩ := HS.get (z := zn) H7; obtain ⟨k11, kf11⟩ := hcB 11; obtain ⟨k12, kf12⟩ := hcB 12; clear hcB; unfold nc0 at k11 k12); refine hK.out _ _ ?_ (fun hHeld => ?_); (focus (try dsimp only); go_keep); clear hK K; (try simp only [Act.put, qqa, qqb, qqc]))
      (refine GG.k 3 ?_; refine GG.k 4 ?_)
      (refine GG.l (fun K hK => ?_); go_simp; refine hK.out _ _ ?_; clear hK K)
      go_end0
      refine ⟨rfl, _, onv, a, .slice A x.refs.length c, .pointer (some ⟨a, 0, none⟩), .slice A x.refs.length c, by unfold xC ptrV; simp only [hr], ⟨⟨_, rfl⟩, _, _, _, rfl⟩, ?_, .inr (List.mem_cons_self ..), fun _ h => List.mem_cons_of_mem _ h⟩
      have e1 : xA (x, a, .slice A x.refs.length c) = treeA r a := by unfold xA; simp only [hr]
      rw [e1]
      exact ((H7.store (z := zn) pkQ 11 (.pointer (some ⟨a, 0, none⟩))).storeTo (z := zn) pkQ 12 (.slice A x.refs.length c) (nc0 t1 j.1 onv nv nav (.pointer (some ⟨a, 0, none⟩)) (.slice A x.refs.length c)) rfl).sub pkQ
end
end Go.Proofs.YtpnfbehbheddeaaGreatDoor
