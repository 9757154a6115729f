/- Contracts of argument and aggregate. The numbers of the tokens are from 0 to 2^32. -/
import Derived.Test.YtgnmnaclndkmdaaGreatDoorBn21
import Derived.Deep.CutRange
import Derived.Deep.CutBlock
namespace Go.Proofs.YtgnmnaclndkmdaaGreatDoor
open Go.RowKit

/-- What leaves an expression x that has been read. -/
def WhX (p : Pp) (x : Xr) (s' : Ps) (ns : Nat → Nat) (cs : Nat → List Value) (pool : Pool) (l : List HA) (e : Ending) (w' : World) : Prop :=
  ∃ r a A c, x.root = some r ∧ e = .returned (.agg #[ptrV a, .slice A x.refs.length c]) ∧ HS w' (treeA r a :: dA p s' ns cs ((.slice A x.refs.length c, x.refs) :: pool) :: l)
section
variable {p : Pp} {w w' : World} {s s' : Ps} {ns : Nat → Nat} {cs : Nat → List Value} {pool : Pool} {l l' : List HA}
theorem whole_x (hN : p.e.okN) (H : HS w l) (hp : Pick l (dA p s ns cs pool) l') : Calls Tryz.prog 11 #[.pointer (some ⟨p.pb, 0, none⟩)] w (WhX p (wholeP p.e s).1 (wholeP p.e s).2 ns cs pool l') :=
  (whole_s hN H hp).mono fun e w' ⟨r, a, A, c, h1, h2, h3⟩ => by
    rw [h1]
    exact ⟨r, a, A, c, rfl, h2, h3⟩
set_option maxRecDepth 100000 in
set_option maxHeartbeats 4000000 in
theorem argument_s (hN : p.e.okN) (H : HS w (dA p s ns cs pool :: l)) : Calls Tryz.prog 187 #[.pointer (some ⟨p.pb, 0, none⟩)] w (WhX p (argP p.e s).1 (argP p.e s).2 ns cs pool l) := by
  obtain ⟨R, hR⟩ : ∃ R, argP p.e s = R := ⟨_, rfl⟩
  rw [hR]
  unfold argP at hR
  have h1 := fun w1 l1 l2 (H : HS w1 l1) (hp : Pick l1 (dA p s ns cs pool) l2) => exp1_s H hp [40]
  generalize expectP p.e s [[40]] = q at h1 hR
  obtain ⟨wd1, s1⟩ := q
  unfold PartPost at h1
  dsimp only at h1 hR
  have h2 := fun w1 l1 l2 (H : HS w1 l1) (hp : Pick l1 (dA p s1 ns cs pool) l2) => whole_x hN H hp
  generalize wholeP p.e s1 = q at h2 hR
  obtain ⟨x, s2⟩ := q
  unfold WhX ptrV at h2
  dsimp only at h2 hR
  have h3 := fun w1 l1 l2 pool (H : HS w1 l1) (hp : Pick l1 (dA p s2 ns cs pool) l2) => exp1_s H hp [41]
  generalize expectP p.e s2 [[41]] = q at h3 hR
  obtain ⟨wd3, s3⟩ := q
  unfold PartPost at h3
  dsimp only at h3 hR
  subst hR
  go_enter Tryz.func187, Tryz.ntmps187
  go_upto_region 1 with fail
  obtain ⟨z, w0, ez, ew, H0⟩ := H.alloc_ex #[.pointer none, .slice none 0 0] 61
  rw [ew, ez]
  clear ez ew H
  go_upto_region 2 with (go_at_call 71; (with_reducible refine (h1 _ _ _ H0 (by with_reducible repeat constructor)).mono ?_); rintro e w1 ⟨rfl, H1⟩)
  clear H0 h1
  go_upto_region 3 with (go_at_call 11; (with_reducible refine (h2 _ _ _ H1 (by with_reducible repeat constructor)).mono ?_); rintro e w2 ⟨r, a, A, c, hr, rfl, H2⟩)
  clear H1 h2
  obtain ⟨y, w3, ez, ew, H3⟩ := H2.alloc_ex #[.pointer (some ⟨a, 0, none⟩), .slice A x.refs.length c] 61
  rw [ew, ez]
  clear ez ew H2
  have hr' := Lib.hid hr
  clear hr
  go_upto_region 4 with (go_at_call 71; (with_reducible refine (h3 _ _ _ _ H3 (by with_reducible repeat constructor)).mono ?_); rintro e w4 ⟨rfl, H4⟩)
  clear H3 h3
  have hzy := H4.ne (z := z) (y := y) (by with_reducible repeat constructor) (by with_reducible repeat constructor)
  have dB := HS.box (z := y) H4 (by with_reducible repeat constructor); have dL := Box.lt dB; obtain ⟨hcB, hfB⟩ := Box.cells dB; have d0 := hcB 0; have df0 := hfB 0; have d1 := hcB 1; have df1 := hfB 1; clear hcB hfB
  have kB := HS.box (z := z) H4 (by with_reducible repeat constructor); have kL := Box.lt kB; obtain ⟨hcB, hfB⟩ := Box.cells kB; have k0 := hcB 0; have kf0 := hfB 0; have k1 := hcB 1; have kf1 := hfB 1; clear hcB hfB
  go_wp2_with fail
  refine bodyPost_ret (by simp [results, Tryz.results187, go_sem, k0, k1]; rfl) rfl ?_
  refine ⟨r, a, A, c, hr'.out, rfl, ?_⟩
  have H5 := H4.store (z := z) (by with_reducible repeat constructor) 0 (.pointer (some ⟨a, 0, none⟩))
  have H6 := H5.store (z := z) (by with_reducible repeat constructor) 1 (.slice A x.refs.length c)
  exact H6.sub (by with_reducible repeat constructor)
end
/-- The cells of an aggregate without its expression. -/
def agC (a : Agg) : Array Value := #[.string ⟨a.name.toArray⟩, .int .i64 a.fn, .slice none 0 0]
def agsC (l : List Agg) : List Value := l.flatMap fun a => (agC a).toList
theorem agsC_snoc (l : List Agg) (a : Agg) : agsC (l ++ [a]) = agsC l ++ (agC a).toList := by simp [agsC]
theorem stA : SliceTy Tryz.prog 185 197 3 48 := SliceTy.mk' Tryz.underlying185 (z := .agg #[.string ⟨#[]⟩, .int .i64 0, .slice none 0 0]) (by kernel_rfl) rfl (by decide) (by decide)
theorem XOk.none_ (pool : Pool) (a : Nat) (v : Value) : XOk pool (Xr.none_, a, v) := .inl rfl
/-- While the aggregates of a view are read. -/
def aggsL (p : Pp) (s : Ps) (ns : Nat → Nat) (cs : Nat → List Value) (pool : Pool) (zv zn : Nat) (name : Bs) (itv agv nv nav : Value) (ags : List Agg) (qs : List Xq) (l : List HA) : List HA :=
  dA p s ns cs pool :: boxA zv (vc0 name 1 [] [] false itv agv) 187 :: boxA zn (nc0 Tk.zero Tk.zero (.slice none 0 0) nv nav (.pointer none) (.slice none 0 0)) 191 :: rowA 197 3 agv ags.length (agsC ags) :: rowA 61 2 nav qs.length (xsC qs) :: allA (qs.map xA) :: l
def AInv (p : Pp) (ns : Nat → Nat) (cs : Nat → List Value) (pool0 : Pool) (zv zn : Nat) (name : Bs) (itv nv : Value) (l : List HA) (w : World) (s : Ps) (acc : List (Agg × Xr)) : Prop :=
  ∃ pool agv nav ags qs, HS w (aggsL p s ns cs pool zv zn name itv agv nv nav ags qs l) ∧ ags = acc.map Prod.fst ∧ qs.map Prod.fst = acc.map Prod.snd ∧ (∀ q ∈ qs, XOk pool q) ∧ ∀ x ∈ pool0, x ∈ pool
theorem AInv.next {p : Pp} {ns : Nat → Nat} {cs : Nat → List Value} {pool0 pool pool' : Pool} {zv zn : Nat} {name : Bs} {itv nv v1 v2 : Value} {l : List HA} {w : World} {s : Ps} {acc : List (Agg × Xr)} {ags : List Agg} {qs : List Xq} {a : Agg} {q : Xq}
    (hnm : ags = acc.map Prod.fst) (hqs : qs.map Prod.fst = acc.map Prod.snd) (hok : ∀ q ∈ qs, XOk pool q) (hq : XOk pool' q) (hpp : ∀ x ∈ pool, x ∈ pool') (hpo : ∀ x ∈ pool0, x ∈ pool)
    (H : HS w (boxA zn (nc0 Tk.zero Tk.zero (.slice none 0 0) nv v2 (.pointer none) (.slice none 0 0)) 191 :: rowA 61 2 v2 (qs.length + 1) (xsC qs ++ xC q) :: xA q :: allA (qs.map xA) :: dA p s ns cs pool' :: boxA zv (vc0 name 1 [] [] false itv v1) 187 :: rowA 197 3 v1 (ags.length + 1) (agsC ags ++ (agC a).toList) :: l)) :
    AInv p ns cs pool0 zv zn name itv nv l w s (acc ++ [(a, q.1)]) := by
  have e1 : xsC qs ++ xC q = xsC (qs ++ [q]) := by rw [xsC_snoc]
  have e2 : qs.length + 1 = (qs ++ [q]).length := by simp
  have e4 : agsC ags ++ (agC a).toList = agsC (ags ++ [a]) := by rw [agsC_snoc]
  have e5 : ags.length + 1 = (ags ++ [a]).length := by simp
  rw [e1, e2, e4, e5] at H
  have H2 := allA_snoc (A := xA q) (m := qs.map xA) (l := _) (H.sub (by
    refine Sub.cons (by with_reducible exact .there (.there .here)) (Sub.cons (by with_reducible exact .there (.there .here)) (Sub.refl _))))
  have e3 : qs.map xA ++ [xA q] = (qs ++ [q]).map xA := by rw [List.map_append]; rfl
  rw [e3] at H2
  refine ⟨pool', v1, v2, ags ++ [a], qs ++ [q], H2.sub ?_, by rw [hnm]; simp, by rw [List.map_append, hqs]; simp, fun y hy => ?_, fun x hx => hpp x (hpo x hx)⟩
  · unfold aggsL
    exact (by with_reducible repeat constructor)
  · rcases List.mem_append.1 hy with hy | hy
    · exact (hok y hy).imp_right (hpp _)
    · rw [List.mem_singleton] at hy
      subst hy
      exact hq
/-- What the switch over the name of the aggregate has done. -/
def AggMid (p : Pp) (ns : Nat → Nat) (cs : Nat → List Value) (pool : Pool) (za zx : Nat) (r : (Agg × Xr) × Ps) (l : List HA) (w : World) : Prop :=
  ∃ pool' a v, (∃ A n c, v = .slice A n c) ∧ HS w (boxA za (agC r.1.1) 197 :: boxA zx (xC (r.1.2, a, v)).toArray 61 :: xA (r.1.2, a, v) :: dA p r.2 ns cs pool' :: l) ∧ XOk pool' (r.1.2, a, v) ∧ ∀ x ∈ pool, x ∈ pool'
theorem AggMid.of {p : Pp} {ns : Nat → Nat} {cs : Nat → List Value} {pool : Pool} {za zx : Nat} {g : Agg} {x : Xr} {s' : Ps} {l : List HA} {w : World} {r : X} {a : Nat} {A : Option Addr} {c : Nat} (hr : x.root = some r)
    (H : HS w (boxA za (agC g) 197 :: boxA zx #[ptrV a, .slice A x.refs.length c] 61 :: treeA r a :: dA p s' ns cs ((.slice A x.refs.length c, x.refs) :: pool) :: l)) : AggMid p ns cs pool za zx ((g, x), s') l w := by
  refine ⟨_, a, .slice A x.refs.length c, ⟨_, _, _, rfl⟩, ?_, .inr (List.mem_cons_self ..), fun x hx => List.mem_cons_of_mem _ hx⟩
  have e1 : xA (x, a, .slice A x.refs.length c) = treeA r a := by unfold xA; simp only; rw [hr]
  have e2 : (xC (x, a, .slice A x.refs.length c)).toArray = #[ptrV a, .slice A x.refs.length c] := by unfold xC; simp only; rw [hr]
  dsimp only
  rw [e1, e2]
  exact H
theorem AggMid.none_ {p : Pp} {ns : Nat → Nat} {cs : Nat → List Value} {pool : Pool} {za zx : Nat} {g : Agg} {s' : Ps} {l : List HA} {w : World}
    (H : HS w (boxA za (agC g) 197 :: boxA zx #[.pointer none, .slice none 0 0] 61 :: dA p s' ns cs pool :: l)) : AggMid p ns cs pool za zx ((g, Xr.none_), s') l w :=
  ⟨pool, 0, .slice none 0 0, ⟨_, _, _, rfl⟩, (H.mkPure trivial).sub (.cons (by exact .there .here) (.cons (by exact .there .here) (.cons (by exact .here) (.refl _)))), XOk.none_ _ _ _, fun _ h => h⟩
theorem find_none {wd : Bs} (h0 : ¬ wd = [99, 111, 117, 110, 116]) (h1 : ¬ wd = [115, 117, 109]) (h2 : ¬ wd = [109, 105, 110]) (h3 : ¬ wd = [109, 97, 120]) (h4 : ¬ wd = [109, 101, 100, 105, 97, 110]) : findP wAggs wd = none := by
  unfold findP wAggs wCount
  simp [Ne.symm h0, Ne.symm h1, Ne.symm h2, Ne.symm h3, Ne.symm h4]
set_option maxRecDepth 100000 in
set_option maxHeartbeats 8000000 in
theorem aggregate_c {p : Pp} (hN : p.e.okN) {ns : Nat → Nat} {cs : Nat → List Value} {pool0 : Pool} {zv zn : Nat} {name : Bs} {itv nv : Value} {l : List HA} (w : World) (s : Ps) (acc : List (Agg × Xr)) (hl : acc.length ≤ 100000) (h : AInv p ns cs pool0 zv zn name itv nv l w s acc) :
    Calls Tryz.prog 153 #[.pointer (some ⟨p.pb, 0, none⟩), .pointer (some ⟨zv, 0, none⟩), .pointer (some ⟨zn, 0, none⟩)] w fun e w' => e = .returned (.tuple #[]) ∧ AInv p ns cs pool0 zv zn name itv nv l w' (aggP p.e s).2 (acc ++ [(aggP p.e s).1]) := by
  obtain ⟨pool, agv, nav, ags, qs, H, hnm, hqs, hok, hpo⟩ := h
  have hnl : ags.length ≤ 100000 := by rw [hnm]; simpa using hl
  have hql : qs.length ≤ 100000 := by have := congrArg List.length hqs; simp at this; omega
  have HNM := Lib.hid hnm
  have HQS := Lib.hid hqs
  clear hnm hqs
  unfold aggsL at H
  obtain ⟨R, hR⟩ : ∃ R, aggP p.e s = R := ⟨_, rfl⟩
  rw [hR]
  unfold aggP nameP at hR
  have h1 := fun w1 l1 l2 (H : HS w1 l1) (hp : Pick l1 (dA p s ns cs pool) l2) => name_s H hp
  generalize takeP p.e s 1 = q at h1 hR
  obtain ⟨t1, s1⟩ := q
  unfold PartPost at h1
  dsimp only at h1 hR
  have h2 := fun w1 l1 l2 (H : HS w1 l1) (hp : Pick l1 (dA p s1 ns cs pool) l2) => exp1_s H hp [61]
  generalize expectP p.e s1 [[61]] = q at h2 hR
  obtain ⟨wd2, s2⟩ := q
  unfold PartPost at h2
  dsimp only at h2 hR
  have h3 := fun w1 l1 l2 (H : HS w1 l1) (hp : Pick l1 (dA p s2 ns cs pool) l2) => exp5_s H hp [99, 111, 117, 110, 116] [115, 117, 109] [109, 105, 110] [109, 97, 120] [109, 101, 100, 105, 97, 110]
  rw [show (wAggs : List Bs) = [[99, 111, 117, 110, 116], [115, 117, 109], [109, 105, 110], [109, 97, 120], [109, 101, 100, 105, 97, 110]] from rfl] at hR
  generalize expectP p.e s2 [[99, 111, 117, 110, 116], [115, 117, 109], [109, 105, 110], [109, 97, 120], [109, 101, 100, 105, 97, 110]] = q at h3 hR
  obtain ⟨wd, s3⟩ := q
  unfold PartPost at h3
  dsimp only at h3 hR
  have h4 := fun w1 l1 (H : HS w1 (dA p s3 ns cs pool :: l1)) => argument_s hN H
  generalize argP p.e s3 = q at h4 hR
  obtain ⟨x, s4⟩ := q
  unfold WhX ptrV at h4
  dsimp only at h4 hR
  have HR := Lib.hid hR
  clear hR
  go_enter Tryz.func153, Tryz.ntmps153
  go_upto_region 1 with (go_at_call 145; (with_reducible refine (h1 _ _ _ H (by with_reducible repeat constructor)).mono ?_); rintro e w1 ⟨rfl, H1⟩)
  obtain ⟨za, w2, ez, ew, H2⟩ := H1.alloc_ex (agC ⟨t1.text, 0, []⟩) 197
  unfold agC at ew
  rw [ew, ez]
  clear ez ew H1 H h1
  go_upto_region 2 with fail
  obtain ⟨zx, w3, ez, ew, H3⟩ := H2.alloc_ex #[.pointer none, .slice none 0 0] 61
  rw [ew, ez]
  clear ez ew H2
  go_upto_block 0 with (first
    | (go_at_call 71; (with_reducible refine (h2 _ _ _ H3 (by with_reducible repeat constructor)).mono ?_); rintro e w4 ⟨rfl, H4⟩)
    | (go_at_call 71; (with_reducible refine (h3 _ _ _ H4 (by with_reducible repeat constructor)).mono ?_); rintro e w5 ⟨rfl, H5⟩))
  clear H3 H4 h2 h3
  go_cut [17] from 18 to 39 (fun _ wx => AggMid p ns cs pool za zx R (boxA zv (vc0 name 1 [] [] false itv agv) 187 :: boxA zn (nc0 Tk.zero Tk.zero (.slice none 0 0) nv nav (.pointer none) (.slice none 0 0)) 191 :: rowA 197 3 agv ags.length (agsC ags) :: rowA 61 2 nav qs.length (xsC qs) :: allA (qs.map xA) :: l) wx)
  case first =>
    have dB := HS.box (z := za) H5 (by with_reducible repeat constructor); have dL := Box.lt dB; obtain ⟨hcB, hfB⟩ := Box.cells dB; have d1 := hcB 1; have df1 := hfB 1; clear hcB hfB; unfold agC at d1
    have hne := H5.ne (z := za) (y := zx) (by with_reducible repeat constructor) (by with_reducible repeat constructor)
    by_cases e0 : wd = [99, 111, 117, 110, 116]
    · subst e0
      have hR := HR.out
      have hf : findP [[99, 111, 117, 110, 116], [115, 117, 109], [109, 105, 110], [109, 97, 120], [109, 101, 100, 105, 97, 110]] [99, 111, 117, 110, 116] = some 0 := by decide
      rw [hf] at hR
      dsimp only at hR
      subst hR
      clear HR h4 hf
      go_wp2_with fail
      go_meet
      exact AggMid.none_ ((H5.storeTo (z := za) (by with_reducible repeat constructor) 1 _ (agC ⟨t1.text, 0, []⟩) rfl).sub (by with_reducible repeat constructor))
    have b0 : (wd == [99, 111, 117, 110, 116]) = false := by simpa using e0
    by_cases e1 : wd = [115, 117, 109]
    · subst e1
      have hR := HR.out
      have hf : findP [[99, 111, 117, 110, 116], [115, 117, 109], [109, 105, 110], [109, 97, 120], [109, 101, 100, 105, 97, 110]] [115, 117, 109] = some 1 := by decide
      rw [hf] at hR
      dsimp only at hR
      subst hR
      clear HR hf
      go_wp2_with (go_at_call 187; (with_reducible refine (h4 _ _ ((H5.storeTo (z := za) (by with_reducible repeat constructor) 1 _ (agC ⟨t1.text, 1, []⟩) rfl).pick (by with_reducible repeat constructor))).mono ?_); rintro e w6 ⟨r, a, A, c, hr, rfl, H6⟩; have kB := HS.box (z := zx) H6 (by with_reducible repeat constructor); have kL := Box.lt kB; obtain ⟨hcB, hfB⟩ := Box.cells kB; have k0 := hcB 0; have kf0 := hfB 0; have k1 := hcB 1; have kf1 := hfB 1; clear hcB hfB)
      go_meet
      exact AggMid.of (g := ⟨t1.text, 1, []⟩) hr ((H6.store (z := zx) (by with_reducible repeat constructor) 0 (.pointer (some ⟨a, 0, none⟩))).storeTo (z := zx) (by with_reducible repeat constructor) 1 _ #[ptrV a, .slice A x.refs.length c] rfl |>.sub (by with_reducible repeat constructor))
    have b1 : (wd == [115, 117, 109]) = false := by simpa using e1
    by_cases e2 : wd = [109, 105, 110]
    · subst e2
      have hR := HR.out
      have hf : findP [[99, 111, 117, 110, 116], [115, 117, 109], [109, 105, 110], [109, 97, 120], [109, 101, 100, 105, 97, 110]] [109, 105, 110] = some 2 := by decide
      rw [hf] at hR
      dsimp only at hR
      subst hR
      clear HR hf
      go_wp2_with (go_at_call 187; (with_reducible refine (h4 _ _ ((H5.storeTo (z := za) (by with_reducible repeat constructor) 1 _ (agC ⟨t1.text, 2, []⟩) rfl).pick (by with_reducible repeat constructor))).mono ?_); rintro e w6 ⟨r, a, A, c, hr, rfl, H6⟩; have kB := HS.box (z := zx) H6 (by with_reducible repeat constructor); have kL := Box.lt kB; obtain ⟨hcB, hfB⟩ := Box.cells kB; have k0 := hcB 0; have kf0 := hfB 0; have k1 := hcB 1; have kf1 := hfB 1; clear hcB hfB)
      go_meet
      exact AggMid.of (g := ⟨t1.text, 2, []⟩) hr ((H6.store (z := zx) (by with_reducible repeat constructor) 0 (.pointer (some ⟨a, 0, none⟩))).storeTo (z := zx) (by with_reducible repeat constructor) 1 _ #[ptrV a, .slice A x.refs.length c] rfl |>.sub (by with_reducible repeat constructor))
    have b2 : (wd == [109, 105, 110]) = false := by simpa using e2
    by_cases e3 : wd = [109, 97, 120]
    · subst e3
      have hR := HR.out
      have hf : findP [[99, 111, 117, 110, 116], [115, 117, 109], [109, 105, 110], [109, 97, 120], [109, 101, 100, 105, 97, 110]] [109, 97, 120] = some 3 := by decide
      rw [hf] at hR
      dsimp only at hR
      subst hR
      clear HR hf
      go_wp2_with (go_at_call 187; (with_reducible refine (h4 _ _ ((H5.storeTo (z := za) (by with_reducible repeat constructor) 1 _ (agC ⟨t1.text, 3, []⟩) rfl).pick (by with_reducible repeat constructor))).mono ?_); rintro e w6 ⟨r, a, A, c, hr, rfl, H6⟩; have kB := HS.box (z := zx) H6 (by with_reducible repeat constructor); have kL := Box.lt kB; obtain ⟨hcB, hfB⟩ := Box.cells kB; have k0 := hcB 0; have kf0 := hfB 0; have k1 := hcB 1; have kf1 := hfB 1; clear hcB hfB)
      go_meet
      exact AggMid.of (g := ⟨t1.text, 3, []⟩) hr ((H6.store (z := zx) (by with_reducible repeat constructor) 0 (.pointer (some ⟨a, 0, none⟩))).storeTo (z := zx) (by with_reducible repeat constructor) 1 _ #[ptrV a, .slice A x.refs.length c] rfl |>.sub (by with_reducible repeat constructor))
    have b3 : (wd == [109, 97, 120]) = false := by simpa using e3
    by_cases e4 : wd = [109, 101, 100, 105, 97, 110]
    · subst e4
      have hR := HR.out
      have hf : findP [[99, 111, 117, 110, 116], [115, 117, 109], [109, 105, 110], [109, 97, 120], [109, 101, 100, 105, 97, 110]] [109, 101, 100, 105, 97, 110] = some 4 := by decide
      rw [hf] at hR
      dsimp only at hR
      subst hR
      clear HR hf
      go_wp2_with (go_at_call 187; (with_reducible refine (h4 _ _ ((H5.storeTo (z := za) (by with_reducible repeat constructor) 1 _ (agC ⟨t1.text, 4, []⟩) rfl).pick (by with_reducible repeat constructor))).mono ?_); rintro e w6 ⟨r, a, A, c, hr, rfl, H6⟩; have kB := HS.box (z := zx) H6 (by with_reducible repeat constructor); have kL := Box.lt kB; obtain ⟨hcB, hfB⟩ := Box.cells kB; have k0 := hcB 0; have kf0 := hfB 0; have k1 := hcB 1; have kf1 := hfB 1; clear hcB hfB)
      go_meet
      exact AggMid.of (g := ⟨t1.text, 4, []⟩) hr ((H6.store (z := zx) (by with_reducible repeat constructor) 0 (.pointer (some ⟨a, 0, none⟩))).storeTo (z := zx) (by with_reducible repeat constructor) 1 _ #[ptrV a, .slice A x.refs.length c] rfl |>.sub (by with_reducible repeat constructor))
    have b4 : (wd == [109, 101, 100, 105, 97, 110]) = false := by simpa using e4
    have hR := HR.out
    rw [show findP [[99, 111, 117, 110, 116], [115, 117, 109], [109, 105, 110], [109, 97, 120], [109, 101, 100, 105, 97, 110]] wd = none from find_none e0 e1 e2 e3 e4] at hR
    dsimp only at hR
    subst hR
    clear HR h4 e0 e1 e2 e3 e4
    go_wp2_with fail
    go_meet
    exact AggMid.none_ (H5.sub (by with_reducible repeat constructor))
  case rest =>
    obtain ⟨pool', a, v, ⟨Av, nv', cv, hv⟩, H, hq, hpp⟩ := hcut
    have HV := Lib.hid hv
    clear hv
    clear H5
    obtain ⟨⟨g, x⟩, sR⟩ := R
    dsimp only at H hq ⊢
    obtain ⟨Ag, cg, rfl⟩ := H.slice (v := agv) (by with_reducible repeat constructor)
    obtain ⟨An, cn, rfl⟩ := H.slice (v := nav) (by with_reducible repeat constructor)
    have yB := HS.box (z := zv) H (by with_reducible repeat constructor); have yL := Box.lt yB; obtain ⟨hcB, hfB⟩ := Box.cells yB; have y8 := hcB 8; have yf8 := hfB 8; clear hcB hfB; unfold vc0 at y8
    have dB := HS.box (z := za) H (by with_reducible repeat constructor); have dL := Box.lt dB; obtain ⟨hcB, hfB⟩ := Box.cells dB; have d0 := hcB 0; have df0 := hfB 0; have d1 := hcB 1; have df1 := hfB 1; have d2 := hcB 2; have df2 := hfB 2; clear hcB hfB; unfold agC at d0 d1 d2
    have Ha := H.drew.alloc (agC g) 197
    have own7 := Ha.row (v := .slice Ag ags.length cg) (by with_reducible repeat constructor)
    unfold agC at own7
    go_upto_region 18 with fail
    (refine wp_region_G 10 (fun w' => w'.cell? ⟨zv, 8, none⟩ = some (.slice Ag ags.length cg) ∧ w'.cell? ⟨za, 0, none⟩ = some (.string ⟨g.name.toArray⟩) ∧ w'.cell? ⟨za, 1, none⟩ = some (.int .i64 g.fn) ∧ w'.cell? ⟨za, 2, none⟩ = some (.slice none 0 0)) (by kernel_rfl) ?_ (fun hHeld => ?_); (focus (try dsimp only); go_keep))
    (refine GG.tk 0 (v := ?_) rfl (by kernel_rfl) (fun _ _ _ h => h) (by rfl) (by assumption) ?_ ?_; rotate_left; (focus (intro w h; (try dsimp only at h); go_simp; (try with_reducible rfl))); (try simp only [Act.put, qqa]); refine GG.tk 1 (v := ?_) rfl (by kernel_rfl) (fun _ _ _ h => h) (by rfl) (by assumption) ?_ ?_; rotate_left; (focus (intro w h; (try dsimp only at h); go_simp; (try with_reducible rfl))); (try simp only [Act.put]); refine GG.tk 2 (v := ?_) rfl (by kernel_rfl) (fun _ _ _ h => h) (by rfl) (by assumption) ?_ ?_; rotate_left; (focus (intro w h; (try dsimp only at h); go_simp; (try with_reducible rfl))); (try simp only [Act.put]); refine GG.tk 3 (v := ?_) rfl (by kernel_rfl) (fun _ _ _ h => h) (by rfl) (by assumption) ?_ ?_; rotate_left; (focus (intro w h; (try dsimp only at h); go_simp; (try with_reducible rfl))); (try simp only [Act.put]); refine GG.tk 4 (v := ?_) rfl (by kernel_rfl) (fun _ _ _ h => h) (by rfl) (by assumption) ?_ ?_; rotate_left; (focus (intro w h; (try dsimp only at h); go_simp; (try with_reducible rfl))); (try simp only [Act.put]); refine GG.tk 5 (v := ?_) rfl (by kernel_rfl) (fun _ _ _ h => h) (by rfl) (by assumption) ?_ ?_; rotate_left; (focus (intro w h; (try dsimp only at h); go_simp; (try with_reducible rfl))); (try simp only [Act.put]))
    (refine GG.one 6 (by kernel_rfl) (by decide) rfl (fun K hK => ?_); go_simp; refine hK.out _ _ ?_ (fun hHeld => ?_); (focus (try dsimp only); go_keep); clear hK K; (try simp only [Act.put, qqa, qqb, qqc]))
    (refine GG.one 7 (by kernel_rfl) (by decide) rfl (fun K hK => ?_); (refine step_app3 (v := .slice Ag ags.length cg) (by rfl) _ _ stA (by rfl) (by rfl) own7 (by rfl) (news := (agC g).toList) (by rfl) (litRd (heap_alloc_new _ _)) (fun h => by cases h) (by intro u hu; simp [agC] at hu; (repeat' (rcases hu with rfl | hu)); all_goals (first | rfl | (subst hu; rfl))) (by omega) (by first | exact Nat.zero_le _ | omega | (simp; omega)) ?_; intro vA wA ownA gA atA; have HA := Ha.app (v := .slice Ag ags.length cg) (by with_reducible repeat constructor) ownA gA atA; have kB := HS.box (z := zv) HA (by with_reducible repeat constructor); have kL := Box.lt kB; obtain ⟨hcB, hfB⟩ := Box.cells kB; have k8 := hcB 8; have kf8 := hfB 8; clear hcB hfB; unfold vc0 at k8; have eB := HS.box (z := za) HA (by with_reducible repeat constructor); have eL := Box.lt eB; obtain ⟨hcB, hfB⟩ := Box.cells eB; have e0 := hcB 0; have ef0 := hfB 0; have e1 := hcB 1; have ef1 := hfB 1; have e2 := hcB 2; have ef2 := hfB 2; clear hcB hfB; unfold agC at e0 e1 e2; obtain ⟨AB, cB, rfl, -, -⟩ := own_slice ownA); refine hK.out _ _ ?_ (fun hHeld => ?_); (focus (try dsimp only); go_keep); clear hK K; (try simp only [Act.put, qqa]))
    (refine GG.tk 8 (v := ?_) rfl (by kernel_rfl) (fun _ _ _ h => h) (by rfl) (by assumption) ?_ ?_; rotate_left; (focus (intro w h; (try dsimp only at h); go_simp; (try with_reducible rfl))); (try simp only [Act.put]); refine GG.tk 9 (v := ?_) rfl (by kernel_rfl) (fun _ _ _ h => h) (by rfl) (by assumption) ?_ ?_; rotate_left; (focus (intro w h; (try dsimp only at h); go_simp; (try with_reducible rfl))); (try simp only [Act.put]))
    (refine GG.last (by kernel_rfl) (by kernel_rfl) rfl (fun K hK => ?_); go_simp; refine hK.out _ _ ?_; clear hK K)
    have HB := HA.storeTo (z := zv) (by with_reducible repeat constructor) 8 _ (vc0 name 1 [] [] false itv (.slice AB (ags.length + 1) cB)) rfl
    generalize wA.setCell ⟨zv, 8, none⟩ (.slice AB (ags.length + 1) cB) = wB at HB ⊢
    clear HA own7 Ha ownA gA atA kB eB kL eL k8 kf8 e0 e1 e2 ef0 ef1 ef2 H dB dL d0 d1 d2 df0 df1 df2 yB yL y8 yf8
    have hxC : ∃ c0 c1 : Value, xC (x, a, v) = [c0, c1] ∧ c0.oneCell' = true ∧ c1.oneCell' = true ∧ ((∃ b, c0 = .pointer b) ∧ ∃ A n c, c1 = .slice A n c) := by
      unfold xC
      dsimp only
      cases x.root
      · exact ⟨_, _, rfl, rfl, rfl, ⟨_, rfl⟩, _, _, _, rfl⟩
      · exact ⟨_, _, rfl, rfl, by rw [HV.out]; rfl, ⟨_, rfl⟩, _, _, _, HV.out⟩
    obtain ⟨c0, c1, hx2, ho0, ho1, ⟨b0, rfl⟩, ⟨Ax, nx, cx, rfl⟩⟩ := hxC
    have HX := Lib.hid hx2
    rw [hx2] at HB
    clear hx2
    have yB := HS.box (z := zn) HB (by with_reducible repeat constructor); have yL := Box.lt yB; obtain ⟨hcB, hfB⟩ := Box.cells yB; have y10 := hcB 10; have yf10 := hfB 10; clear hcB hfB; unfold nc0 at y10
    have dB := HS.box (z := zx) HB (by with_reducible repeat constructor); have dL := Box.lt dB; obtain ⟨hcB, hfB⟩ := Box.cells dB; have d0 := hcB 0; have df0 := hfB 0; have d1 := hcB 1; have df1 := hfB 1; clear hcB hfB
    have Hb := HB.drew.alloc #[.pointer b0, .slice Ax nx cx] 61
    have own8 := Hb.row (v := .slice An qs.length cn) (by with_reducible repeat constructor)
    go_upto_region 19 with fail
    (refine wp_region_G 10 (fun w' => w'.cell? ⟨zn, 10, none⟩ = some (.slice An qs.length cn) ∧ w'.cell? ⟨zx, 0, none⟩ = some (.pointer b0) ∧ w'.cell? ⟨zx, 1, none⟩ = some (.slice Ax nx cx)) (by kernel_rfl) ?_ (fun hHeld => ?_); (focus (try dsimp only); go_keep))
    (refine GG.tk 0 (v := ?_) rfl (by kernel_rfl) (fun _ _ _ h => h) (by rfl) (by assumption) ?_ ?_; rotate_left; (focus (intro w h; (try dsimp only at h); go_simp; (try with_reducible rfl))); (try simp only [Act.put, qqa]); refine GG.tk 1 (v := ?_) rfl (by kernel_rfl) (fun _ _ _ h => h) (by rfl) (by assumption) ?_ ?_; rotate_left; (focus (intro w h; (try dsimp only at h); go_simp; (try with_reducible rfl))); (try simp only [Act.put]); refine GG.tk 2 (v := ?_) rfl (by kernel_rfl) (fun _ _ _ h => h) (by rfl) (by assumption) ?_ ?_; rotate_left; (focus (intro w h; (try dsimp only at h); go_simp; (try with_reducible rfl))); (try simp only [Act.put]); refine GG.tk 3 (v := ?_) rfl (by kernel_rfl) (fun _ _ _ h => h) (by rfl) (by assumption) ?_ ?_; rotate_left; (focus (intro w h; (try dsimp only at h); go_simp; (try with_reducible rfl))); (try simp only [Act.put]); refine GG.tk 4 (v := ?_) rfl (by kernel_rfl) (fun _ _ _ h => h) (by rfl) (by assumption) ?_ ?_; rotate_left; (focus (intro w h; (try dsimp only at h); go_simp; (try with_reducible rfl))); (try simp only [Act.put]); refine GG.tk 5 (v := ?_) rfl (by kernel_rfl) (fun _ _ _ h => h) (by rfl) (by assumption) ?_ ?_; rotate_left; (focus (intro w h; (try dsimp only at h); go_simp; (try with_reducible rfl))); (try simp only [Act.put]))
    (refine GG.one 6 (by kernel_rfl) (by decide) rfl (fun K hK => ?_); go_simp; refine hK.out _ _ ?_ (fun hHeld => ?_); (focus (try dsimp only); go_keep); clear hK K; (try simp only [Act.put, qqa, qqb, qqc]))
    (refine GG.one 7 (by kernel_rfl) (by decide) rfl (fun K hK => ?_); (refine step_app3 (v := .slice An qs.length cn) (by rfl) _ _ stX (by rfl) (by rfl) own8 (by rfl) (news := [.pointer b0, .slice Ax nx cx]) (by rfl) (litRd (heap_alloc_new _ _)) (fun h => by cases h) (by intro u hu; simp at hu; (repeat' (rcases hu with rfl | hu)); all_goals (first | rfl | (subst hu; rfl))) (by omega) (by first | exact Nat.zero_le _ | omega | (simp; omega)) ?_; intro vA wA ownA gA atA; have HA := Hb.app (v := .slice An qs.length cn) (by with_reducible repeat constructor) ownA gA atA; have kB := HS.box (z := zn) HA (by with_reducible repeat constructor); have kL := Box.lt kB; obtain ⟨hcB, hfB⟩ := Box.cells kB; have k10 := hcB 10; have kf10 := hfB 10; clear hcB hfB; unfold nc0 at k10; have eB := HS.box (z := zx) HA (by with_reducible repeat constructor); have eL := Box.lt eB; obtain ⟨hcB, hfB⟩ := Box.cells eB; have e0 := hcB 0; have ef0 := hfB 0; have e1 := hcB 1; have ef1 := hfB 1; clear hcB hfB; obtain ⟨AC, cC, rfl, -, -⟩ := own_slice ownA); refine hK.out _ _ ?_ (fun hHeld => ?_); (focus (try dsimp only); go_keep); clear hK K; (try simp only [Act.put, qqa]))
    (refine GG.tk 8 (v := ?_) rfl (by kernel_rfl) (fun _ _ _ h => h) (by rfl) (by assumption) ?_ ?_; rotate_left; (focus (intro w h; (try dsimp only at h); go_simp; (try with_reducible rfl))); (try simp only [Act.put]); refine GG.tk 9 (v := ?_) rfl (by kernel_rfl) (fun _ _ _ h => h) (by rfl) (by assumption) ?_ ?_; rotate_left; (focus (intro w h; (try dsimp only at h); go_simp; (try with_reducible rfl))); (try simp only [Act.put]))
    (refine GG.last (by kernel_rfl) (by kernel_rfl) rfl (fun K hK => ?_); go_simp; refine hK.out _ _ ?_; clear hK K)
    go_end0
    refine ⟨rfl, AInv.next (v1 := .slice AB (ags.length + 1) cB) (v2 := .slice AC (qs.length + 1) cC) (q := (x, a, v)) HNM.out HQS.out hok hq hpp hpo ?_⟩
    rw [HX.out]
    exact (HA.storeTo (z := zn) (by with_reducible repeat constructor) 10 _ (nc0 Tk.zero Tk.zero (.slice none 0 0) nv (.slice AC (qs.length + 1) cC) (.pointer none) (.slice none 0 0)) rfl).sub (by with_reducible repeat constructor)
end Go.Proofs.YtgnmnaclndkmdaaGreatDoor
