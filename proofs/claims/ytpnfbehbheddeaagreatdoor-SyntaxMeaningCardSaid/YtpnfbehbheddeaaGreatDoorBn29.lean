/- Expressions that have been read, as parts of memory; the closure that items hands to list. The numbers of the tokens are from 0 to 2^32. -/
import Derived.Test.YtpnfbehbheddeaaGreatDoorBn28
import Derived.Test.YtpnfbehbheddeaaGreatDoorBn24
namespace Go.Proofs.YtpnfbehbheddeaaGreatDoor
set_option maxRecDepth 100000
set_option maxHeartbeats 8000000
set_option linter.unusedVariables false
set_option linter.unusedSimpArgs false
open Go.RowKit
abbrev Xq := Xr × Nat × Value
def xC (q : Xq) : List Value := match q.1.root with
  | none => [.pointer none, .slice none 0 0]
  | some _ => [ptrV q.2.1, q.2.2]
def xA (q : Xq) : HA := match q.1.root with
  | none => pureA True
  | some r => treeA r q.2.1
def XOk (pool : Pool) (q : Xq) : Prop := q.1.root = none ∨ (q.2.2, q.1.refs) ∈ pool
theorem XOk.more {pool : Pool} {q : Xq} {x : Value × List (Tk × Bool)} (h : XOk pool q) : XOk (x :: pool) q := h.imp_right fun h => List.mem_cons_of_mem _ h
def xsC (qs : List Xq) : List Value := qs.flatMap xC
def itC (l : List Bs) : List Value := l.flatMap fun b => [.string ⟨b.toArray⟩, .slice none 0 0]
theorem itC_snoc (l : List Bs) (b : Bs) : itC (l ++ [b]) = itC l ++ [.string ⟨b.toArray⟩, .slice none 0 0] := by simp [itC]
theorem xsC_snoc (l : List Xq) (q : Xq) : xsC (l ++ [q]) = xsC l ++ xC q := by simp [xsC]
def vc0 (name : Bs) (kind : Int) (lt rt : Bs) (dis : Bool) (itv agv : Value) : Array Value := #[.string ⟨name.toArray⟩, .int .i64 kind, .string ⟨lt.toArray⟩, .string ⟨rt.toArray⟩, .slice none 0 0, .slice none 0 0, itv, .bool dis, agv]
def nc0 (l r : Tk) (onv nv nav wp wr : Value) : Array Value := #[.int .i64 l.kind, .string ⟨l.text.toArray⟩, .int .i64 l.int, .int .i64 l.pos, .int .i64 r.kind, .string ⟨r.text.toArray⟩, .int .i64 r.int, .int .i64 r.pos, onv, nv, nav, wp, wr]
theorem stItem : SliceTy Tryz.prog 203 214 2 40 := SliceTy.mk' Tryz.underlying203 (z := .agg #[.string ⟨#[]⟩, .slice none 0 0]) (by kernel_rfl) rfl (by decide) (by decide)
theorem stX : SliceTy Tryz.prog 208 72 2 32 := SliceTy.mk' Tryz.underlying208 (z := .agg #[.pointer none, .slice none 0 0]) (by kernel_rfl) rfl (by decide) (by decide)
theorem HS.slice {w : World} {l l' : List HA} {e : TypeId} {size n : Nat} {v : Value} {xs : List Value} (h : HS w l) (hp : Pick l (rowA e size v n xs) l') : ∃ A c, v = .slice A n c := by
  obtain ⟨A, c, e, -, -⟩ := own_slice (h.row hp)
  exact ⟨A, c, e⟩
theorem list_s {p : Pp} {α : Type} (k : FuncId) (he : ∀ args w, (callFunc k args).run Tryz.prog w = .ok (.enter k args) w) (first cap : Array Value) (el : Ps → α × Ps) (Inv : World → Ps → List α → Prop)
    (hI : ∀ w s acc, Inv w s acc → ∃ l l' ns cs pool, HS w l ∧ Pick l (dA p s ns cs pool) l' ∧ ∀ w' s', HS w' (dA p s' ns cs pool :: l') → Inv w' s' acc)
    (hmo : ∀ s, s.pos ≤ p.e.toks.length → s.pos ≤ (el s).2.pos)
    {acc0 : List α} (hel : ∀ w s acc, acc.length ≤ acc0.length + p.e.toks.length → Inv w s acc → Calls Tryz.prog k (first ++ cap) w fun e w' => e = .returned (.tuple #[]) ∧ Inv w' (el s).2 (acc ++ [(el s).1]))
    {w : World} {s : Ps} (h : Inv w s acc0) :
    Calls Tryz.prog 190 #[.pointer (some ⟨p.pb, 0, none⟩), .func (.func k) first cap] w fun e w' => e = .returned (.tuple #[]) ∧ Inv w' (listP p.e el s).2 (acc0 ++ (listP p.e el s).1) :=
  list_c k he first cap el Inv (fun w s acc I => by
      obtain ⟨l, l', ns, cs, pool, H, hp, -⟩ := hI w s acc I
      obtain ⟨rv, P, -⟩ := H.ps hp
      exact ⟨rv, P⟩)
    (fun w s acc w' s' rv I P P' F => by
      obtain ⟨l, l', ns, cs, pool, H, hp, g⟩ := hI w s acc I
      obtain ⟨rv0, P0, h0⟩ := H.ps hp
      have e := P0.rv_eq P
      subst e
      exact g _ _ (h0 _ _ P' F)) hmo hel h
theorem HS.alloc_ex {w : World} {l : List HA} (h : HS w l) (cs : Array Value) (te : TypeId) : ∃ z w0, w.heap.size = z ∧ w.alloc (.cells cs te) = w0 ∧ HS w0 (boxA z cs te :: l) := ⟨_, _, rfl, rfl, h.alloc cs te⟩
theorem HS.alloc2_ex {w : World} {l : List HA} (h : HS w l) (cs : Array Value) (te : TypeId) (cs2 : Array Value) (te2 : TypeId) : ∃ z w0, w.heap.size = z ∧ (w.alloc (.cells cs te)).alloc (.cells cs2 te2) = w0 ∧ HS w0 (boxA (z + 1) cs2 te2 :: boxA z cs te :: l) := by
  refine ⟨_, _, rfl, rfl, ?_⟩
  have h2 := (h.alloc cs te).alloc cs2 te2
  rwa [show (w.alloc (.cells cs te)).heap.size = w.heap.size + 1 by simp] at h2
theorem HS.alloc3_ex {w : World} {l : List HA} (h : HS w l) (cs : Array Value) (te : TypeId) (cs2 : Array Value) (te2 : TypeId) (cs3 : Array Value) (te3 : TypeId) : ∃ z w0, w.heap.size = z ∧ ((w.alloc (.cells cs te)).alloc (.cells cs2 te2)).alloc (.cells cs3 te3) = w0 ∧ HS w0 (boxA (z + 1 + 1) cs3 te3 :: boxA (z + 1) cs2 te2 :: boxA z cs te :: l) := by
  refine ⟨_, _, rfl, rfl, ?_⟩
  have h2 := ((h.alloc cs te).alloc cs2 te2).alloc cs3 te3
  rwa [show ((w.alloc (.cells cs te)).alloc (.cells cs2 te2)).heap.size = w.heap.size + 1 + 1 by simp, show (w.alloc (.cells cs te)).heap.size = w.heap.size + 1 by simp] at h2
def ptrC (b : Nat) : Array Value := #[.pointer (some ⟨b, 0, none⟩)]
def itemsL (p : Pp) (s : Ps) (ns : Nat → Nat) (cs : Nat → List Value) (pool : Pool) (b3 b4 b5 zv zn : Nat) (name : Bs) (kind : Int) (dis : Bool) (itv nv : Value) (names : List Bs) (qs : List Xq) (l : List HA) : List HA :=
  dA p s ns cs pool :: boxA b3 (ptrC p.pb) 50 :: boxA b4 (ptrC zv) 201 :: boxA b5 (ptrC zn) 256 :: boxA zv (vc0 name kind [] [] dis itv (.slice none 0 0)) 206 :: boxA zn (nc0 Tk.zero Tk.zero (.slice none 0 0) nv (.slice none 0 0) (.pointer none) (.slice none 0 0)) 210 :: rowA 214 2 itv names.length (itC names) :: rowA 72 2 nv qs.length (xsC qs) :: allA (qs.map xA) :: l
def IInv (p : Pp) (ns : Nat → Nat) (cs : Nat → List Value) (pool0 : Pool) (b3 b4 b5 zv zn : Nat) (name : Bs) (kind : Int) (dis : Bool) (l : List HA) (w : World) (s : Ps) (acc : List (Bs × Xr)) : Prop :=
  ∃ pool itv nv names qs, HS w (itemsL p s ns cs pool b3 b4 b5 zv zn name kind dis itv nv names qs l) ∧ names = acc.map Prod.fst ∧ qs.map Prod.fst = acc.map Prod.snd ∧ (∀ q ∈ qs, XOk pool q) ∧ ∀ x ∈ pool0, x ∈ pool
theorem IInv.next {p : Pp} {ns : Nat → Nat} {cs : Nat → List Value} {pool0 pool : Pool} {b3 b4 b5 zv zn : Nat} {name : Bs} {kind : Int} {dis : Bool} {l : List HA} {w : World} {s : Ps} {acc : List (Bs × Xr)} {itv v' : Value} {names : List Bs} {qs : List Xq} {t : Bs} {x : Xr} {r : X} {a : Nat} {A : Option Addr} {c : Nat}
    (hx : x = ⟨some r, s.refs⟩) (hnm : names = acc.map Prod.fst) (hqs : qs.map Prod.fst = acc.map Prod.snd) (hok : ∀ q ∈ qs, XOk pool q) (hpo : ∀ x ∈ pool0, x ∈ pool)
    (H : HS w (boxA zn (nc0 Tk.zero Tk.zero (.slice none 0 0) v' (.slice none 0 0) (.pointer none) (.slice none 0 0)) 210 :: rowA 72 2 v' (qs.length + 1) (xsC qs ++ [ptrV a, .slice A s.refs.length c]) :: treeA r a :: allA (qs.map xA) :: dA p s ns cs ((.slice A s.refs.length c, s.refs) :: pool) :: boxA b3 (ptrC p.pb) 50 :: boxA b4 (ptrC zv) 201 :: boxA b5 (ptrC zn) 256 :: boxA zv (vc0 name kind [] [] dis itv (.slice none 0 0)) 206 :: rowA 214 2 itv (names ++ [t]).length (itC (names ++ [t])) :: l)) :
    IInv p ns cs pool0 b3 b4 b5 zv zn name kind dis l w s (acc ++ [(t, x)]) := by
  subst hx
  have e1 : xsC qs ++ [ptrV a, .slice A s.refs.length c] = xsC (qs ++ [((⟨some r, s.refs⟩, a, .slice A s.refs.length c) : Xq)]) := by rw [xsC_snoc]; rfl
  have e2 : qs.length + 1 = (qs ++ [((⟨some r, s.refs⟩, a, .slice A s.refs.length c) : Xq)]).length := by simp
  rw [e1, e2] at H
  have H2 := allA_snoc (A := treeA r a) (m := qs.map xA) (l := _) (H.sub (by
    refine Sub.cons (by with_reducible exact .there (.there .here)) (Sub.cons (by with_reducible exact .there (.there .here)) (Sub.refl _))))
  have e3 : qs.map xA ++ [treeA r a] = (qs ++ [((⟨some r, s.refs⟩, a, .slice A s.refs.length c) : Xq)]).map xA := by rw [List.map_append]; rfl
  rw [e3] at H2
  refine ⟨(.slice A s.refs.length c, s.refs) :: pool, itv, v', names ++ [t], qs ++ [((⟨some r, s.refs⟩, a, .slice A s.refs.length c) : Xq)], H2.sub ?_, by rw [hnm]; simp, by rw [List.map_append, hqs]; simp, fun q hq => ?_, fun x hx => List.mem_cons_of_mem _ (hpo x hx)⟩
  · unfold itemsL
    exact pkQ
  · rcases List.mem_append.1 hq with hq | hq
    · exact (hok q hq).more
    · rw [List.mem_singleton] at hq
      subst hq
      exact .inr (List.mem_cons_self ..)
theorem items1_c {p : Pp} (hN : p.e.okN) {ns : Nat → Nat} {cs : Nat → List Value} {pool0 : Pool} {b3 b4 b5 zv zn : Nat} {name : Bs} {kind : Int} {dis : Bool} {l : List HA} (w : World) (s : Ps) (acc : List (Bs × Xr)) (hl : acc.length ≤ 100000) (h : IInv p ns cs pool0 b3 b4 b5 zv zn name kind dis l w s acc) :
    Calls Tryz.prog 242 #[.pointer (some ⟨b3, 0, none⟩), .pointer (some ⟨b4, 0, none⟩), .pointer (some ⟨b5, 0, none⟩)] w fun e w' => e = .returned (.tuple #[]) ∧ IInv p ns cs pool0 b3 b4 b5 zv zn name kind dis l w' (itemP p.e s).2 (acc ++ [(itemP p.e s).1]) := by
  obtain ⟨pool, itv, nv, names, qs, H, hnm, hqs, hok, hpo⟩ := h
  have hnl : names.length ≤ 100000 := by rw [hnm]; simpa using hl
  have hql : qs.length ≤ 100000 := by have := congrArg List.length hqs; simp at this; omega
  have HNM := Lib.hid hnm
  have HQS := Lib.hid hqs
  clear hnm hqs
  unfold itemsL at H
  obtain ⟨R, hR⟩ : ∃ R, itemP p.e s = R := ⟨_, rfl⟩
  rw [hR]
  unfold itemP nameP at hR
  have h1 := fun w1 l1 l2 (H : HS w1 l1) (hp : Pick l1 (dA p s ns cs pool) l2) => name_s H hp
  generalize takeP p.e s 1 = q at h1 hR
  obtain ⟨t1, s1⟩ := q
  unfold PartPost at h1
  dsimp only at h1 hR
  have h2 := fun w1 l1 l2 (H : HS w1 l1) (hp : Pick l1 (dA p s1 ns cs pool) l2) => exp1_s H hp [61]
  generalize expectP p.e s1 [[61]] = q at h2 hR
  obtain ⟨wd2, s2⟩ := q
  unfold PartPost at h2
  dsimp only at h2 hR
  have h3 := fun w1 l1 l2 (H : HS w1 l1) (hp : Pick l1 (dA p s2 ns cs pool) l2) => whole_s hN H hp
  generalize wholeP p.e s2 = q at h3 hR
  obtain ⟨x, s3⟩ := q
  unfold WhS at h3
  dsimp only at h3 hR
  subst hR
  obtain ⟨xB, xL, hcB⟩ := HS.get (z := b3) H; obtain ⟨x0, xf0⟩ := hcB 0; clear hcB; unfold ptrC at x0
  go_enter Tryz.func242, Tryz.ntmps242
  go_upto_region 1 with (go_at_call 189; (with_reducible refine (h1 _ _ _ H pkQ).mono ?_); rintro e w1 ⟨rfl, H1⟩)
  clear xB x0 xf0 xL H h1
  obtain ⟨z, w2, ez, ew, H⟩ := H1.alloc_ex #[.string ⟨t1.text.toArray⟩, .slice none 0 0] 214
  rw [ew, ez]
  clear ez ew H1
  obtain ⟨xB, xL, hcB⟩ := HS.get (z := b3) H; obtain ⟨x0, xf0⟩ := hcB 0; clear hcB; unfold ptrC at x0
  go_upto_region 2 with (go_at_call 88; (with_reducible refine (h2 _ _ _ H pkQ).mono ?_); rintro e w3 ⟨rfl, H3⟩)
  clear xB x0 xf0 xL H h2
  obtain ⟨Ai, ci, rfl⟩ := H3.slice (v := itv) pkQ
  go_cut [10] (fun _ wx => ∃ itv, HS wx (rowA 214 2 itv (names ++ [t1.text]).length (itC (names ++ [t1.text])) :: boxA zv (vc0 name kind [] [] dis itv (.slice none 0 0)) 206 :: dA p s2 ns cs pool :: boxA b3 (ptrC p.pb) 50 :: boxA b4 (ptrC zv) 201 :: boxA b5 (ptrC zn) 256 :: boxA zn (nc0 Tk.zero Tk.zero (.slice none 0 0) nv (.slice none 0 0) (.pointer none) (.slice none 0 0)) 210 :: rowA 72 2 nv qs.length (xsC qs) :: allA (qs.map xA) :: l))
  case first =>
    have Ha := H3.drew.alloc #[.string ⟨t1.text.toArray⟩, .slice none 0 0] 214
    have own7 := Ha.row (v := .slice Ai names.length ci) pkQ
    obtain ⟨xB, xL, hcB⟩ := HS.get (z := b4) H3; obtain ⟨x0, xf0⟩ := hcB 0; clear hcB; unfold ptrC at x0
    obtain ⟨vB, vL, hcB⟩ := HS.get (z := zv) H3; obtain ⟨v6, vf6⟩ := hcB 6; clear hcB; unfold vc0 at v6
    obtain ⟨dB, dL, hcB⟩ := HS.get (z := z) H3; obtain ⟨d0, df0⟩ := hcB 0; obtain ⟨d1, df1⟩ := hcB 1; clear hcB
    (refine wp_region_G 10 (fun w' => w'.cell? ⟨b4, 0, none⟩ = some (.pointer (some ⟨zv, 0, none⟩)) ∧ w'.cell? ⟨zv, 6, none⟩ = some (.slice Ai names.length ci) ∧ w'.cell? ⟨z, 0, none⟩ = some (.string ⟨t1.text.toArray⟩) ∧ w'.cell? ⟨z, 1, none⟩ = some (.slice none 0 0)) (by kernel_rfl) ?_ (fun hHeld => ?_); (focus (try dsimp only); go_keep))
    (refine GG.k 0 ?_; refine GG.k 1 ?_; refine GG.k 2 ?_; refine GG.k 3 ?_; refine GG.k 4 ?_; refine GG.k 5 ?_)
    (refine GG.o 6 (fun K hK => ?_); go_simp; refine hK.out _ _ ?_ (fun hHeld => ?_); (focus (try dsimp only); go_keep); clear hK K; (try simp only [Act.put, qqa, qqb, qqc]))
    (refine GG.o 7 (fun K hK => ?_); (refine step_app3 (v := .slice Ai names.length ci) (by rfl) _ _ stItem (by rfl) (by rfl) own7 (by rfl) (news := [.string ⟨t1.text.toArray⟩, .slice none 0 0]) (by rfl) (litRd (heap_alloc_new _ _)) (fun h => by cases h) (by intro u hu; simp at hu; rcases hu with rfl | rfl <;> rfl) (by omega) (Nat.zero_le _) ?_; intro vA wA ownA gA atA; have HA := Ha.app (v := .slice Ai names.length ci) pkQ ownA gA atA; obtain ⟨yB, yL, hcB⟩ := HS.get (z := b4) HA; obtain ⟨y0, yf0⟩ := hcB 0; clear hcB; unfold ptrC at y0; obtain ⟨gB, gL, hcB⟩ := HS.get (z := zv) HA; obtain ⟨g6, gf6⟩ := hcB 6; clear hcB; unfold vc0 at g6; obtain ⟨eB, eL, hcB⟩ := HS.get (z := z) HA; obtain ⟨e0, ef0⟩ := hcB 0; obtain ⟨e1, ef1⟩ := hcB 1; clear hcB; obtain ⟨AB, cB, rfl, -, -⟩ := own_slice ownA); refine hK.out _ _ ?_ (fun hHeld => ?_); (focus (try dsimp only); go_keep); clear hK K; (try simp only [Act.put, qqa, qqb, qqc]))
    (refine GG.k 8 ?_; refine GG.k 9 ?_)
    (refine GG.l (fun K hK => ?_); go_simp; refine hK.out _ _ ?_; clear hK K)
    go_step
    go_step
    go_meet
    have e1 : names.length + 1 = (names ++ [t1.text]).length := by simp
    rw [← itC_snoc] at HA
    rw [e1] at HA ⊢
    exact ⟨_, (HA.storeTo (z := zv) pkQ 6 _ (vc0 name kind [] [] dis (.slice AB (names ++ [t1.text]).length cB) (.slice none 0 0)) rfl).sub pkQ⟩
  case rest =>
    obtain ⟨itv, H⟩ := hcut
    clear H3
    obtain ⟨An, cn, rfl⟩ := H.slice (v := nv) pkQ
    have Hd := H.drew
    obtain ⟨xB, xL, hcB⟩ := HS.get (z := b5) H; obtain ⟨x0, xf0⟩ := hcB 0; clear hcB; unfold ptrC at x0
    obtain ⟨yB, yL, hcB⟩ := HS.get (z := b3) H; obtain ⟨y0, yf0⟩ := hcB 0; clear hcB; unfold ptrC at y0
    obtain ⟨vB, vL, hcB⟩ := HS.get (z := zn) H; obtain ⟨v9, vf9⟩ := hcB 9; clear hcB; unfold nc0 at v9
    go_upto_region 3 with fail
    (refine wp_region_G 11 (fun w' => w'.cell? ⟨b5, 0, none⟩ = some (.pointer (some ⟨zn, 0, none⟩)) ∧ w'.cell? ⟨zn, 9, none⟩ = some (.slice An qs.length cn) ∧ w'.cell? ⟨b3, 0, none⟩ = some (.pointer (some ⟨p.pb, 0, none⟩))) (by kernel_rfl) ?_ (fun hHeld => ?_); (focus (try dsimp only); go_keep))
    (refine GG.k 0 ?_; refine GG.k 1 ?_; refine GG.k 2 ?_; refine GG.k 3 ?_; refine GG.k 4 ?_; refine GG.k 5 ?_)
    (refine GG.o 6 (fun K hK => ?_); (go_simp; go_at_call 19; (with_reducible refine (h3 _ _ _ Hd pkQ).mono ?_); rintro e w5 ⟨r, a, A2, c2, hx, rfl, H5⟩; obtain ⟨mB, mL, hcB⟩ := HS.get (z := b5) H5; obtain ⟨m0, mf0⟩ := hcB 0; clear hcB; unfold ptrC at m0; obtain ⟨kB, kL, hcB⟩ := HS.get (z := zn) H5; obtain ⟨k9, kf9⟩ := hcB 9; clear hcB; unfold nc0 at k9; obtain ⟨jB, jL, hcB⟩ := HS.get (z := b3) H5; obtain ⟨j0, jf0⟩ := hcB 0; clear hcB; unfold ptrC at j0); refine hK.out _ _ ?_ (fun hHeld => ?_); (focus (try dsimp only); go_keep); clear hK K; (try simp only [Act.put, qqa, qqb, qqc]))
    have H7 := H5.alloc #[ptrV a, .slice A2 s3.refs.length c2] 72
    have own7 := H7.row (v := .slice An qs.length cn) pkQ
    (refine GG.o 7 (fun K hK => ?_); go_simp; refine hK.out _ _ ?_ (fun hHeld => ?_); (focus (try dsimp only); go_keep); clear hK K; (try simp only [Act.put, qqa, qqb, qqc]))
    (refine GG.o 8 (fun K hK => ?_); (refine step_app3 (v := .slice An qs.length cn) (by rfl) _ _ stX (by rfl) (by rfl) own7 (by rfl) (news := [ptrV a, .slice A2 s3.refs.length c2]) (by rfl) (litRd (heap_alloc_new _ _)) (fun h => by cases h) (by intro u hu; simp at hu; rcases hu with rfl | rfl <;> rfl) (by omega) (Nat.zero_le _) ?_; intro vA wA ownA gA atA; have HA := H7.app (v := .slice An qs.length cn) pkQ ownA gA atA; obtain ⟨oB, oL, hcB⟩ := HS.get (z := b5) HA; obtain ⟨o0, of0⟩ := hcB 0; clear hcB; unfold ptrC at o0; obtain ⟨gB, gL, hcB⟩ := HS.get (z := zn) HA; obtain ⟨g9, gf9⟩ := hcB 9; clear hcB; unfold nc0 at g9; obtain ⟨qB, qL, hcB⟩ := HS.get (z := b3) HA; obtain ⟨q0, qf0⟩ := hcB 0; clear hcB; unfold ptrC at q0; obtain ⟨AB, cB, rfl, -, -⟩ := own_slice ownA); refine hK.out _ _ ?_ (fun hHeld => ?_); (focus (try dsimp only); go_keep); clear hK K; (try simp only [Act.put, qqa, qqb, qqc]))
    (refine GG.k 9 ?_; refine GG.k 10 ?_)
    (refine GG.l (fun K hK => ?_); go_simp; refine hK.out _ _ ?_; clear hK K)
    go_end0
    exact ⟨rfl, IInv.next hx HNM.out HQS.out hok hpo ((HA.storeTo (z := zn) pkQ 9 _ (nc0 Tk.zero Tk.zero (.slice none 0 0) (.slice AB (qs.length + 1) cB) (.slice none 0 0) (.pointer none) (.slice none 0 0)) rfl).sub pkQ)⟩
end Go.Proofs.YtpnfbehbheddeaaGreatDoor
