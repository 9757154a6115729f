/- Contracts of argument and aggregate. The numbers of the tokens are from 0 to 2^32. -/
import Derived.Test.YtpnfbehbheddeaaGreatDoorBn23
import Derived.Deep.CutRange
import Derived.Deep.CutBlock
namespace Go.Proofs.YtpnfbehbheddeaaGreatDoor
set_option maxRecDepth 100000
set_option maxHeartbeats 8000000
set_option linter.unusedVariables false
set_option linter.unusedSimpArgs false
open Go.RowKit
def WhX (p : Pp) (x : Xr) (s' : Ps) (ns : Nat → Nat) (cs : Nat → List Value) (pool : Pool) (l : List HA) (e : Ending) (w' : World) : Prop :=
  ∃ r a A c, x.root = some r ∧ e = .returned (.agg #[ptrV a, .slice A x.refs.length c]) ∧ HS w' (treeA r a :: dA p s' ns cs ((.slice A x.refs.length c, x.refs) :: pool) :: l)
section
variable {p : Pp} {w w' : World} {s s' : Ps} {ns : Nat → Nat} {cs : Nat → List Value} {pool : Pool} {l l' : List HA}
theorem whole_x (hN : p.e.okN) (H : HS w l) (hp : Pick l (dA p s ns cs pool) l') : Calls Tryz.prog 19 #[.pointer (some ⟨p.pb, 0, none⟩)] w (WhX p (wholeP p.e s).1 (wholeP p.e s).2 ns cs pool l') :=
  (whole_s hN H hp).mono fun e w' ⟨r, a, A, c, h1, h2, h3⟩ => by
    rw [h1]
    exact ⟨r, a, A, c, rfl, h2, h3⟩
theorem argument_s (hN : p.e.okN) (H : HS w (dA p s ns cs pool :: l)) : Calls Tryz.prog 244 #[.pointer (some ⟨p.pb, 0, none⟩)] w (WhX p (argP p.e s).1 (argP p.e s).2 ns cs pool l) := by
  obtain ⟨R, hR⟩ : ∃ R, argP p.e s = R := ⟨_, rfl⟩
  rw [hR]
  unfold argP at hR
  have h1 := fun w1 l1 l2 (H : HS w1 l1) (hp : Pick l1 (dA p s ns cs pool) l2) => exp1_s H hp [40]
  generalize expectP p.e s [[40]] = q at h1 hR
  obtain ⟨wd1, s1⟩ := q
  unfold PartPost at h1
  dsimp only at h1 hR
  have h2 := fun w1 l1 l2 (H : HS w1 l1) (hp : Pick l1 (dA p s1 ns cs pool) l2) => whole_x hN H hp
  generalize wholeP p.e s1 = q at h2 hR
  obtain ⟨x, s2⟩ := q
  unfold WhX ptrV at h2
  dsimp only at h2 hR
  have h3 := fun w1 l1 l2 pool (H : HS w1 l1) (hp : Pick l1 (dA p s2 ns cs pool) l2) => exp1_s H hp [41]
  generalize expectP p.e s2 [[41]] = q at h3 hR
  obtain ⟨wd3, s3⟩ := q
  unfold PartPost at h3
  dsimp only at h3 hR
  subst hR
  go_enter Tryz.func244, Tryz.ntmps244
  go_upto_region 1 with fail
  obtain ⟨z, w0, ez, ew, H0⟩ := H.alloc_ex #[.pointer none, .slice none 0 0] 72
  rw [ew, ez]
  clear ez ew H
  go_upto_region 2 with (go_at_call 88; (with_reducible refine (h1 _ _ _ H0 pkQ).mono ?_); rintro e w1 ⟨rfl, H1⟩)
  clear H0 h1
  go_upto_region 3 with (go_at_call 19; (with_reducible refine (h2 _ _ _ H1 pkQ).mono ?_); rintro e w2 ⟨r, a, A, c, hr, rfl, H2⟩)
  clear H1 h2
  obtain ⟨y, w3, ez, ew, H3⟩ := H2.alloc_ex #[.pointer (some ⟨a, 0, none⟩), .slice A x.refs.length c] 72
  rw [ew, ez]
  clear ez ew H2
  have hr' := Lib.hid hr
  clear hr
  go_upto_region 4 with (go_at_call 88; (with_reducible refine (h3 _ _ _ _ H3 pkQ).mono ?_); rintro e w4 ⟨rfl, H4⟩)
  clear H3 h3
  have hzy := H4.ne (z := z) (y := y) pkQ pkQ
  obtain ⟨dB, dL, hcB⟩ := HS.get (z := y) H4; obtain ⟨d0, df0⟩ := hcB 0; obtain ⟨d1, df1⟩ := hcB 1; clear hcB
  obtain ⟨kB, kL, hcB⟩ := HS.get (z := z) H4; obtain ⟨k0, kf0⟩ := hcB 0; obtain ⟨k1, kf1⟩ := hcB 1; clear hcB
  go_wp2_with fail
  refine bodyPost_ret (by simp [results, Tryz.results244, go_sem, k0, k1, hzy]; rfl) rfl ?_
  refine ⟨r, a, A, c, hr'.out, rfl, ?_⟩
  have H5 := H4.store (z := z) pkQ 0 (.pointer (some ⟨a, 0, none⟩))
  have H6 := H5.store (z := z) pkQ 1 (.slice A x.refs.length c)
  exact H6.sub pkQ
end
def agC (a : Agg) : Array Value := #[.string ⟨a.name.toArray⟩, .int .i64 a.fn, .slice none 0 0]
def agsC (l : List Agg) : List Value := l.flatMap fun a => (agC a).toList
theorem agsC_snoc (l : List Agg) (a : Agg) : agsC (l ++ [a]) = agsC l ++ (agC a).toList := by simp [agsC]
theorem stA : SliceTy Tryz.prog 204 216 3 48 := SliceTy.mk' Tryz.underlying204 (z := .agg #[.string ⟨#[]⟩, .int .i64 0, .slice none 0 0]) (by kernel_rfl) rfl (by decide) (by decide)
theorem XOk.none_ (pool : Pool) (a : Nat) (v : Value) : XOk pool (Xr.none_, a, v) := .inl rfl
def aggsL (p : Pp) (s : Ps) (ns : Nat → Nat) (cs : Nat → List Value) (pool : Pool) (zv zn : Nat) (name : Bs) (itv agv nv nav : Value) (ags : List Agg) (qs : List Xq) (l : List HA) : List HA :=
  dA p s ns cs pool :: boxA zv (vc0 name 1 [] [] false itv agv) 206 :: boxA zn (nc0 Tk.zero Tk.zero (.slice none 0 0) nv nav (.pointer none) (.slice none 0 0)) 210 :: rowA 216 3 agv ags.length (agsC ags) :: rowA 72 2 nav qs.length (xsC qs) :: allA (qs.map xA) :: l
def AInv (p : Pp) (ns : Nat → Nat) (cs : Nat → List Value) (pool0 : Pool) (zv zn : Nat) (name : Bs) (itv nv : Value) (l : List HA) (w : World) (s : Ps) (acc : List (Agg × Xr)) : Prop :=
  ∃ pool agv nav ags qs, HS w (aggsL p s ns cs pool zv zn name itv agv nv nav ags qs l) ∧ ags = acc.map Prod.fst ∧ qs.map Prod.fst = acc.map Prod.snd ∧ (∀ q ∈ qs, XOk pool q) ∧ ∀ x ∈ pool0, x ∈ pool
theorem AInv.next {p : Pp} {ns : Nat → Nat} {cs : Nat → List Value} {pool0 pool pool' : Pool} {zv zn : Nat} {name : Bs} {itv nv v1 v2 : Value} {l : List HA} {w : World} {s : Ps} {acc : List (Agg × Xr)} {ags : List Agg} {qs : List Xq} {a : Agg} {q : Xq}
    (hnm : ags = acc.map Prod.fst) (hqs : qs.map Prod.fst = acc.map Prod.snd) (hok : ∀ q ∈ qs, XOk pool q) (hq : XOk pool' q) (hpp : ∀ x ∈ pool, x ∈ pool') (hpo : ∀ x ∈ pool0, x ∈ pool)
    (H : HS w (boxA zn (nc0 Tk.zero Tk.zero (.slice none 0 0) nv v2 (.pointer none) (.slice none 0 0)) 210 :: rowA 72 2 v2 (qs.length + 1) (xsC qs ++ xC q) :: xA q :: allA (qs.map xA) :: dA p s ns cs pool' :: boxA zv (vc0 name 1 [] [] false itv v1) 206 :: rowA 216 3 v1 (ags.length + 1) (agsC ags ++ (agC a).toList) :: l)) :
    AInv p ns cs pool0 zv zn name itv nv l w s (acc ++ [(a, q.1)]) := by
  have e1 : xsC qs ++ xC q = xsC (qs ++ [q]) := by rw [xsC_snoc]
  have e2 : qs.length + 1 = (qs ++ [q]).length := by simp
  have e4 : agsC ags ++ (agC a).toList = agsC (ags ++ [a]) := by rw [agsC_snoc]
  have e5 : ags.length + 1 = (ags ++ [a]).length := by simp
  rw [e1, e2, e4, e5] at H
  have H2 := allA_snoc (A := xA q) (m := qs.map xA) (l := _) (H.sub (by
    refine Sub.cons (by with_reducible exact .there (.there .here)) (Sub.cons (by with_reducible exact .there (.there .here)) (Sub.refl _))))
  have e3 : qs.map xA ++ [xA q] = (qs ++ [q]).map xA := by rw [List.map_append]; rfl
  rw [e3] at H2
  refine ⟨pool', v1, v2, ags ++ [a], qs ++ [q], H2.sub ?_, by rw [hnm]; simp, by rw [List.map_append, hqs]; simp, fun y hy => ?_, fun x hx => hpp x (hpo x hx)⟩
  · unfold aggsL
    exact pkQ
  · rcases List.mem_append.1 hy with hy | hy
    · exact (hok y hy).imp_right (hpp _)
    · rw [List.mem_singleton] at hy
      subst hy
      exact hq
def AggMid (p : Pp) (ns : Nat → Nat) (cs : Nat → List Value) (pool : Pool) (za zx : Nat) (r : (Agg × Xr) × Ps) (l : List HA) (w : World) : Prop :=
  ∃ pool' a v, (∃ A n c, v = .slice A n c) ∧ HS w (boxA za (agC r.1.1) 216 :: boxA zx (xC (r.1.2, a, v)).toArray 72 :: xA (r.1.2, a, v) :: dA p r.2 ns cs pool' :: l) ∧ XOk pool' (r.1.2, a, v) ∧ ∀ x ∈ pool, x ∈ pool'
theorem AggMid.of {p : Pp} {ns : Nat → Nat} {cs : Nat → List Value} {pool : Pool} {za zx : Nat} {g : Agg} {x : Xr} {s' : Ps} {l : List HA} {w : World} {r : X} {a : Nat} {A : Option Addr} {c : Nat} (hr : x.root = some r)
    (H : HS w (boxA za (agC g) 216 :: boxA zx #[ptrV a, .slice A x.refs.length c] 72 :: treeA r a :: dA p s' ns cs ((.slice A x.refs.length c, x.refs) :: pool) :: l)) : AggMid p ns cs pool za zx ((g, x), s') l w := by
  refine ⟨_, a, .slice A x.refs.length c, ⟨_, _, _, rfl⟩, ?_, .inr (List.mem_cons_self ..), fun x hx => List.mem_cons_of_mem _ hx⟩
  have e1 : xA (x, a, .slice A x.refs.length c) = treeA r a := by unfold xA; simp only; rw [hr]
  have e2 : (xC (x, a, .slice A x.refs.length c)).toArray = #[ptrV a, .slice A x.refs.length c] := by unfold xC; simp only; rw [hr]
  dsimp only
  rw [e1, e2]
  exact H
theorem AggMid.none_ {p : Pp} {ns : Nat → Nat} {cs : Nat → List Value} {pool : Pool} {za zx : Nat} {g : Agg} {s' : Ps} {l : List HA} {w : World}
    (H : HS w (boxA za (agC g) 216 :: boxA zx #[.pointer none, .slice none 0 0] 72 :: dA p s' ns cs pool :: l)) : AggMid p ns cs pool za zx ((g, Xr.none_), s') l w :=
  ⟨pool, 0, .slice none 0 0, ⟨_, _, _, rfl⟩, (H.mkPure trivial).sub (.cons (by exact .there .here) (.cons (by exact .there .here) (.cons (by exact .here) (.refl _)))), XOk.none_ _ _ _, fun _ h => h⟩
theorem find_none {wd : Bs} (h0 : ¬ wd = [99, 111, 117, 110, 116]) (h1 : ¬ wd = [115, 117, 109]) (h2 : ¬ wd = [109, 105, 110]) (h3 : ¬ wd = [109, 97, 120]) (h4 : ¬ wd = [109, 101, 100, 105, 97, 110]) : findP wAggs wd = none := by
  unfold findP wAggs wCount
  simp [Ne.symm h0, Ne.symm h1, Ne.symm h2, Ne.symm h3, Ne.symm h4]
theorem aggregate_c {p : Pp} (hN : p.e.okN) {ns : Nat → Nat} {cs : Nat → List Value} {pool0 : Pool} {zv zn : Nat} {name : Bs} {itv nv : Value} {l : List HA} (w : World) (s : Ps) (acc : List (Agg × Xr)) (hl : acc.length ≤ 100000) (h : AInv p ns cs pool0 zv zn name itv nv l w s acc) :
    Calls Tryz.prog 197 #[.pointer (some ⟨p.pb, 0, none⟩), .pointer (some ⟨zv, 0, none⟩), .pointer (some ⟨zn, 0, none⟩)] w fun e w' => e = .returned (.tuple #[]) ∧ AInv p ns cs pool0 zv zn name itv nv l w' (aggP p.e s).2 (acc ++ [(aggP p.e s).1]) := by
  obtain ⟨pool, agv, nav, ags, qs, H, hnm, hqs, hok, hpo⟩ := h
  have hnl : ags.length ≤ 100000 := by rw [hnm]; simpa using hl
  have hql : qs.length ≤ 100000 := by have := congrArg List.length hqs; simp at this; omega
  have HNM := Lib.hid hnm
  have HQS := Lib.hid hqs
  clear hnm hqs
  unfold aggsL at H
  obtain ⟨R, hR⟩ : ∃ R, aggP p.e s = R := ⟨_, rfl⟩
  rw [hR]
  unfold aggP nameP at hR
  have h1 := fun w1 l1 l2 (H : HS w1 l1) (hp : Pick l1 (dA p s ns cs pool) l2) => name_s H hp
  generalize takeP p.e s 1 = q at h1 hR
  obtain ⟨t1, s1⟩ := q
  unfold PartPost at h1
  dsimp only at h1 hR
  have h2 := fun w1 l1 l2 (H : HS w1 l1) (hp : Pick l1 (dA p s1 ns cs pool) l2) => exp1_s H hp [61]
  generalize expectP p.e s1 [[61]] = q at h2 hR
  obtain ⟨wd2, s2⟩ := q
  unfold PartPost at h2
  dsimp only at h2 hR
  have h3 := fun w1 l1 l2 (H : HS w1 l1) (hp : Pick l1 (dA p s2 ns cs pool) l2) => exp5_s H hp [99, 111, 117, 110, 116] [115, 117, 109] [109, 105, 110] [109, 97, 120] [109, 101, 100, 105, 97, 110]
  rw [show (wAggs : List Bs) = [[99, 111, 117, 110, 116], [115, 117, 109], [109, 105, 110], [109, 97, 120], [109, 101, 100, 105, 97, 110]] from rfl] at hR
  generalize expectP p.e s2 [[99, 111, 117, 110, 116], [115, 117, 109], [109, 105, 110], [109, 97, 120], [109, 101, 100, 105, 97, 110]] = q at h3 hR
  obtain ⟨wd, s3⟩ := q
  unfold PartPost at h3
  dsimp only at h3 hR
  have h4 := fun w1 l1 (H : HS w1 (dA p s3 ns cs pool :: l1)) => argument_s hN H
  generalize argP p.e s3 = q at h4 hR
  obtain ⟨x, s4⟩ := q
  unfold WhX ptrV at h4
  dsimp only at h4 hR
  have HR := Lib.hid hR
  clear hR
  go_enter Tryz.func197, Tryz.ntmps197
  go_upto_region 1 with (go_at_call 189; (with_reducible refine (h1 _ _ _ H pkQ).mono ?_); rintro e w1 ⟨rfl, H1⟩)
  obtain ⟨za, w2, ez, ew, H2⟩ := H1.alloc_ex (agC ⟨t1.text, 0, []⟩) 216
  unfold agC at ew
  rw [ew, ez]
  clear ez ew H1 H h1
  go_upto_region 2 with fail
  obtain ⟨zx, w3, ez, ew, H3⟩ := H2.alloc_ex #[.pointer none, .slice none 0 0] 72
  rw [ew, ez]
  clear ez ew H2
  go_upto_block 0 with (first
    | (go_at_call 88; (with_reducible refine (h2 _ _ _ H3 pkQ).mono ?_); rintro e w4 ⟨rfl, H4⟩)
    | (go_at_call 88; (with_reducible refine (h3 _ _ _ H4 pkQ).mono ?_); rintro e w5 ⟨rfl, H5⟩))
  clear H3 H4 h2 h3
  go_cut [17] from 18 to 39 (fun _ wx => AggMid p ns cs pool za zx R (boxA zv (vc0 name 1 [] [] false itv agv) 206 :: boxA zn (nc0 Tk.zero Tk.zero (.slice none 0 0) nv nav (.pointer none) (.slice none 0 0)) 210 :: rowA 216 3 agv ags.length (agsC ags) :: rowA 72 2 nav qs.length (xsC qs) :: allA (qs.map xA) :: l) wx)
  case first =>
    obtain ⟨dB, dL, hcB⟩ := HS.get (z := za) H5; obtain ⟨d1, df1⟩ := hcB 1; clear hcB; unfold agC at d1
    have hne := H5.ne (z := za) (y := zx) pkQ pkQ
    by_cases e0 : wd = [99, 111, 117, 110, 116]
    · subst e0
      have hR := HR.out
      have hf : findP [[99, 111, 117, 110, 116], [115, 117, 109], [109, 105, 110], [109, 97, 120], [109, 101, 100, 105, 97, 110]] [99, 111, 117, 110, 116] = some 0 := by decide
      rw [hf] at hR
      dsimp only at hR
      subst hR
      clear HR h4 hf
      go_wp2_with fail
      go_meet
      exact AggMid.none_ ((H5.storeTo (z := za) pkQ 1 _ (agC ⟨t1.text, 0, []⟩) rfl).sub pkQ)
    have b0 : (wd == [99, 111, 117, 110, 116]) = false := by simpa using e0
    by_cases e1 : wd = [115, 117, 109]
    · subst e1
      have hR := HR.out
      have hf : findP [[99, 111, 117, 110, 116], [115, 117, 109], [109, 105, 110], [109, 97, 120], [109, 101, 100, 105, 97, 110]] [115, 117, 109] = some 1 := by decide
      rw [hf] at hR
      dsimp only at hR
      subst hR
      clear HR hf
      go_wp2_with (go_at_call 244; (with_reducible refine (h4 _ _ ((H5.storeTo (z := za) pkQ 1 _ (agC ⟨t1.text, 1, []⟩) rfl).pick pkQ)).mono ?_); rintro e w6 ⟨r, a, A, c, hr, rfl, H6⟩; obtain ⟨kB, kL, hcB⟩ := HS.get (z := zx) H6; obtain ⟨k0, kf0⟩ := hcB 0; obtain ⟨k1, kf1⟩ := hcB 1; clear hcB)
      go_meet
      exact AggMid.of (g := ⟨t1.text, 1, []⟩) hr ((H6.store (z := zx) pkQ 0 (.pointer (some ⟨a, 0, none⟩))).storeTo (z := zx) pkQ 1 _ #[ptrV a, .slice A x.refs.length c] rfl |>.sub pkQ)
    have b1 : (wd == [115, 117, 109]) = false := by simpa using e1
    by_cases e2 : wd = [109, 105, 110]
    · subst e2
      have hR := HR.out
      have hf : findP [[99, 111, 117, 110, 116], [115, 117, 109], [109, 105, 110], [109, 97, 120], [109, 101, 100, 105, 97, 110]] [109, 105, 110] = some 2 := by decide
      rw [hf] at hR
      dsimp only at hR
      subst hR
      clear HR hf
      go_wp2_with (go_at_call 244; (with_reducible refine (h4 _ _ ((H5.storeTo (z := za) pkQ 1 _ (agC ⟨t1.text, 2, []⟩) rfl).pick pkQ)).mono ?_); rintro e w6 ⟨r, a, A, c, hr, rfl, H6⟩; obtain ⟨kB, kL, hcB⟩ := HS.get (z := zx) H6; obtain ⟨k0, kf0⟩ := hcB 0; obtain ⟨k1, kf1⟩ := hcB 1; clear hcB)
      go_meet
      exact AggMid.of (g := ⟨t1.text, 2, []⟩) hr ((H6.store (z := zx) pkQ 0 (.pointer (some ⟨a, 0, none⟩))).storeTo (z := zx) pkQ 1 _ #[ptrV a, .slice A x.refs.length c] rfl |>.sub pkQ)
    have b2 : (wd == [109, 105, 110]) = false := by simpa using e2
    by_cases e3 : wd = [109, 97, 120]
    · subst e3
      have hR := HR.out
      have hf : findP [[99, 111, 117, 110, 116], [115, 117, 109], [109, 105, 110], [109, 97, 120], [109, 101, 100, 105, 97, 110]] [109, 97, 120] = some 3 := by decide
      rw [hf] at hR
      dsimp only at hR
      subst hR
      clear HR hf
      go_wp2_with (go_at_call 244; (with_reducible refine (h4 _ _ ((H5.storeTo (z := za) pkQ 1 _ (agC ⟨t1.text, 3, []⟩) rfl).pick pkQ)).mono ?_); rintro e w6 ⟨r, a, A, c, hr, rfl, H6⟩; obtain ⟨kB, kL, hcB⟩ := HS.get (z := zx) H6; obtain ⟨k0, kf0⟩ := hcB 0; obtain ⟨k1, kf1⟩ := hcB 1; clear hcB)
      go_meet
      exact AggMid.of (g := ⟨t1.text, 3, []⟩) hr ((H6.store (z := zx) pkQ 0 (.pointer (some ⟨a, 0, none⟩))).storeTo (z := zx) pkQ 1 _ #[ptrV a, .slice A x.refs.length c] rfl |>.sub pkQ)
    have b3 : (wd == [109, 97, 120]) = false := by simpa using e3
    by_cases e4 : wd = [109, 101, 100, 105, 97, 110]
    · subst e4
      have hR := HR.out
      have hf : findP [[99, 111, 117, 110, 116], [115, 117, 109], [109, 105, 110], [109, 97, 120], [109, 101, 100, 105, 97, 110]] [109, 101, 100, 105, 97, 110] = some 4 := by decide
      rw [hf] at hR
      dsimp only at hR
      subst hR
      clear HR hf
      go_wp2_with (go_at_call 244; (with_reducible refine (h4 _ _ ((H5.storeTo (z := za) pkQ 1 _ (agC ⟨t1.text, 4, []⟩) rfl).pick pkQ)).mono ?_); rintro e w6 ⟨r, a, A, c, hr, rfl, H6⟩; obtain ⟨kB, kL, hcB⟩ := HS.get (z := zx) H6; obtain ⟨k0, kf0⟩ := hcB 0; obtain ⟨k1, kf1⟩ := hcB 1; clear hcB)
      go_meet
      exact AggMid.of (g := ⟨t1.text, 4, []⟩) hr ((H6.store (z := zx) pkQ 0 (.pointer (some ⟨a, 0, none⟩))).storeTo (z := zx) pkQ 1 _ #[ptrV a, .slice A x.refs.length c] rfl |>.sub pkQ)
    have b4 : (wd == [109, 101, 100, 105, 97, 110]) = false := by simpa using e4
    have hR := HR.out
    rw [show findP [[99, 111, 117, 110, 116], [115, 117, 109], [109, 105, 110], [109, 97, 120], [109, 101, 100, 105, 97, 110]] wd = none from find_none e0 e1 e2 e3 e4] at hR
    dsimp only at hR
    subst hR
    clear HR h4 e0 e1 e2 e3 e4
    go_wp2_with fail
    go_meet
    exact AggMid.none_ (H5.sub pkQ)
  case rest =>
    obtain ⟨pool', a, v, ⟨Av, nv', cv, hv⟩, H, hq, hpp⟩ := hcut
    have HV := Lib.hid hv
    clear hv
    clear H5
    obtain ⟨⟨g, x⟩, sR⟩ := R
    dsimp only at H hq ⊢
    obtain ⟨Ag, cg, rfl⟩ := H.slice (v := agv) pkQ
    obtain ⟨An, cn, rfl⟩ := H.slice (v := nav) pkQ
    obtain ⟨yB, yL, hcB⟩ := HS.get (z := zv) H; obtain ⟨y8, yf8⟩ := hcB 8; clear hcB; unfold vc0 at y8
    obtain ⟨dB, dL, hcB⟩ := HS.get (z := za) H; obtain ⟨d0, df0⟩ := hcB 0; obtain ⟨d1, df1⟩ := hcB 1; obtain ⟨d2, df2⟩ := hcB 2; clear hcB; unfold agC at d0 d1 d2
    have Ha := H.drew.alloc (agC g) 216
    have own7 := Ha.row (v := .slice Ag ags.length cg) pkQ
    unfold agC at own7
    go_upto_region 18 with fail
    (refine wp_region_G 10 (fun w' => w'.cell? ⟨zv, 8, none⟩ = some (.slice Ag ags.length cg) ∧ w'.cell? ⟨za, 0, none⟩ = some (.string ⟨g.name.toArray⟩) ∧ w'.cell? ⟨za, 1, none⟩ = some (.int .i64 g.fn) ∧ w'.cell? ⟨za, 2, none⟩ = some (.slice none 0 0)) (by kernel_rfl) ?_ (fun hHeld => ?_); (focus (try dsimp only); go_keep))
    (refine GG.k 0 ?_; refine GG.k 1 ?_; refine GG.k 2 ?_; refine GG.k 3 ?_; refine GG.k 4 ?_; refine GG.k 5 ?_)
    (refine GG.o 6 (fun K hK => ?_); go_simp; refine hK.out _ _ ?_ (fun hHeld => ?_); (focus (try dsimp only); go_keep); clear hK K; (try simp only [Act.put, qqa, qqb, qqc]))
    (refine GG.o 7 (fun K hK => ?_); (refine step_app3 (v := .slice Ag ags.length cg) (by rfl) _ _ stA (by rfl) (by rfl) own7 (by rfl) (news := (agC g).toList) (by rfl) (litRd (heap_alloc_new _ _)) (fun h => by cases h) (by intro u hu; simp [agC] at hu; (repeat' (rcases hu with rfl | hu)); all_goals (first | rfl | (subst hu; rfl))) (by omega) (by first | exact Nat.zero_le _ | omega | (simp; omega)) ?_; intro vA wA ownA gA atA; have HA := Ha.app (v := .slice Ag ags.length cg) pkQ ownA gA atA; obtain ⟨kB, kL, hcB⟩ := HS.get (z := zv) HA; obtain ⟨k8, kf8⟩ := hcB 8; clear hcB; unfold vc0 at k8; obtain ⟨eB, eL, hcB⟩ := HS.get (z := za) HA; obtain ⟨e0, ef0⟩ := hcB 0; obtain ⟨e1, ef1⟩ := hcB 1; obtain ⟨e2, ef2⟩ := hcB 2; clear hcB; unfold agC at e0 e1 e2; obtain ⟨AB, cB, rfl, -, -⟩ := own_slice ownA); refine hK.out _ _ ?_ (fun hHeld => ?_); (focus (try dsimp only); go_keep); clear hK K; (try simp only [Act.put, qqa, qqb, qqc]))
    (refine GG.k 8 ?_; refine GG.k 9 ?_)
    (refine GG.l (fun K hK => ?_); go_simp; refine hK.out _ _ ?_; clear hK K)
    have HB := HA.storeTo (z := zv) pkQ 8 _ (vc0 name 1 [] [] false itv (.slice AB (ags.length + 1) cB)) rfl
    generalize wA.setCell ⟨zv, 8, none⟩ (.slice AB (ags.length + 1) cB) = wB at HB ⊢
    clear HA own7 Ha ownA gA atA kB eB kL eL k8 kf8 e0 e1 e2 ef0 ef1 ef2 H dB dL d0 d1 d2 df0 df1 df2 yB yL y8 yf8
    have hxC : ∃ c0 c1 : Value, xC (x, a, v) = [c0, c1] ∧ c0.oneCell' = true ∧ c1.oneCell' = true ∧ ((∃ b, c0 = .pointer b) ∧ ∃ A n c, c1 = .slice A n c) := by
      unfold xC
      dsimp only
      cases x.root
      · exact ⟨_, _, rfl, rfl, rfl, ⟨_, rfl⟩, _, _, _, rfl⟩
      · exact ⟨_, _, rfl, rfl, by rw [HV.out]; rfl, ⟨_, rfl⟩, _, _, _, HV.out⟩
    obtain ⟨c0, c1, hx2, ho0, ho1, ⟨b0, rfl⟩, ⟨Ax, nx, cx, rfl⟩⟩ := hxC
    have HX := Lib.hid hx2
    rw [hx2] at HB
    clear hx2
    obtain ⟨yB, yL, hcB⟩ := HS.get (z := zn) HB; obtain ⟨y10, yf10⟩ := hcB 10; clear hcB; unfold nc0 at y10
    obtain ⟨dB, dL, hcB⟩ := HS.get (z := zx) HB; obtain ⟨d0, df0⟩ := hcB 0; obtain ⟨d1, df1⟩ := hcB 1; clear hcB
    have Hb := HB.drew.alloc #[.pointer b0, .slice Ax nx cx] 72
    have own8 := Hb.row (v := .slice An qs.length cn) pkQ
    go_upto_region 19 with fail
    (refine wp_region_G 10 (fun w' => w'.cell? ⟨zn, 10, none⟩ = some (.slice An qs.length cn) ∧ w'.cell? ⟨zx, 0, none⟩ = some (.pointer b0) ∧ w'.cell? ⟨zx, 1, none⟩ = some (.slice Ax nx cx)) (by kernel_rfl) ?_ (fun hHeld => ?_); (focus (try dsimp only); go_keep))
    (refine GG.k 0 ?_; refine GG.k 1 ?_; refine GG.k 2 ?_; refine GG.k 3 ?_; refine GG.k 4 ?_; refine GG.k 5 ?_)
    (refine GG.o 6 (fun K hK => ?_); go_simp; refine hK.out _ _ ?_ (fun hHeld => ?_); (focus (try dsimp only); go_keep); clear hK K; (try simp only [Act.put, qqa, qqb, qqc]))
    (refine GG.o 7 (fun K hK => ?_); (refine step_app3 (v := .slice An qs.length cn) (by rfl) _ _ stX (by rfl) (by rfl) own8 (by rfl) (news := [.pointer b0, .slice Ax nx cx]) (by rfl) (litRd (heap_alloc_new _ _)) (fun h => by cases h) (by intro u hu; simp at hu; (repeat' (rcases hu with rfl | hu)); all_goals (first | rfl | (subst hu; rfl))) (by omega) (by first | exact Nat.zero_le _ | omega | (simp; omega)) ?_; intro vA wA ownA gA atA; have HA := Hb.app (v := .slice An qs.length cn) pkQ ownA gA atA; obtain ⟨kB, kL, hcB⟩ := HS.get (z := zn) HA; obtain ⟨k10, kf10⟩ := hcB 10; clear hcB; unfold nc0 at k10; obtain ⟨eB, eL, hcB⟩ := HS.get (z := zx) HA; obtain ⟨e0, ef0⟩ := hcB 0; obtain ⟨e1, ef1⟩ := hcB 1; clear hcB; obtain ⟨AC, cC, rfl, -, -⟩ := own_slice ownA); refine hK.out _ _ ?_ (fun hHeld => ?_); (focus (try dsimp only); go_keep); clear hK K; (try simp only [Act.put, qqa, qqb, qqc]))
    (refine GG.k 8 ?_; refine GG.k 9 ?_)
    (refine GG.l (fun K hK => ?_); go_simp; refine hK.out _ _ ?_; clear hK K)
    go_end0
    refine ⟨rfl, AInv.next (v1 := .slice AB (ags.length + 1) cB) (v2 := .slice AC (qs.length + 1) cC) (q := (x, a, v)) HNM.out HQS.out hok hq hpp hpo ?_⟩
    rw [HX.out]
    exact (HA.storeTo (z := zn) pkQ 10 _ (nc0 Tk.zero Tk.zero (.slice none 0 0) nv (.slice AC (qs.length + 1) cC) (.pointer none) (.slice none 0 0)) rfl).sub pkQ
end Go.Proofs.YtpnfbehbheddeaaGreatDoor
