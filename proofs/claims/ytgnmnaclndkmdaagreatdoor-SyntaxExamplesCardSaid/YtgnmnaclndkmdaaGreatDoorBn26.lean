/- Contract of the closure that table hands to list, with memory in parts. The numbers of the tokens are from 0 to 2^32. -/
import Derived.Test.YtgnmnaclndkmdaaGreatDoorBn25
import Derived.Test.YtgnmnaclndkmdaaGreatDoorBn19
namespace Go.Proofs.YtgnmnaclndkmdaaGreatDoor
open Go.RowKit

theorem stC : SliceTy Tryz.prog 75 80 7 96 := SliceTy.mk' Tryz.underlying75 (z := .agg #[.string ⟨#[]⟩, .int .i64 0, .string ⟨#[]⟩, .string ⟨#[]⟩, .slice none 0 0, .int .i64 0, .int .i64 0]) (by kernel_rfl) rfl (by decide) (by decide)
theorem stKK : SliceTy Tryz.prog 179 35 1 24 := SliceTy.mk' Tryz.underlying179 (z := .slice none 0 0) (by kernel_rfl) rfl (by decide) (by decide)
theorem stTb : SliceTy Tryz.prog 40 77 4 56 := SliceTy.mk' Tryz.underlying40 (z := .agg #[.string ⟨#[]⟩, .slice none 0 0, .int .i64 0, .int .i64 0]) (by kernel_rfl) rfl (by decide) (by decide)
theorem stKKK : SliceTy Tryz.prog 52 179 1 24 := SliceTy.mk' Tryz.underlying52 (z := .slice none 0 0) (by kernel_rfl) rfl (by decide) (by decide)
def colL (c : Col) : List Value := (colC c (.slice none 0 0)).toList
def tabC (name : Bs) (cv : Value) (er rt : Int) : Array Value := #[.string ⟨name.toArray⟩, cv, .int .i64 er, .int .i64 rt]
/-- A row of tokens. -/
def tkRow (x : List Tk × Value) : HA := rowA 83 4 x.2 x.1.length (x.1.flatMap Tk.cells)
def colsC (l : List Col) : List Value := l.flatMap colL
theorem colsC_snoc (l : List Col) (c : Col) : colsC (l ++ [c]) = colsC l ++ colL c := by simp [colsC]
section
variable {p : Pp} {w w' : World} {s s' : Ps} {ns : Nat → Nat} {cs : Nat → List Value} {pool : Pool} {l l' : List HA}
def ColS (p : Pp) (r : (Col × List Tk) × Ps) (ns : Nat → Nat) (cs : Nat → List Value) (pool : Pool) (l : List HA) (e : Ending) (w' : World) : Prop :=
  ∃ A cc, e = .returned (.tuple #[.agg (colC r.1.1 (.slice none 0 0)), .slice A r.1.2.length cc]) ∧ HS w' (tkRow (r.1.2, .slice A r.1.2.length cc) :: dA p r.2 ns cs pool :: l)
theorem column_s (hN : p.e.okN) (H : HS w l) (hp : Pick l (dA p s ns cs pool) l') : Calls Tryz.prog 148 #[.pointer (some ⟨p.pb, 0, none⟩)] w (ColS p (columnP p.e s) ns cs pool l') := by
  obtain ⟨rv, P, h⟩ := H.psNew hp
  refine (column_c hN P).mono ?_
  rintro e w' ⟨A, cc, h1, h2, h3, h4⟩
  exact ⟨A, cc, h1, h _ _ _ _ h2 h3 ⟨own_base h4 (Nat.zero_le _), rfl⟩ fun k hk => (h4.lt k hk).1⟩
/-- While the columns of a table are read. -/
def TInv (p : Pp) (ns : Nat → Nat) (cs : Nat → List Value) (pool : Pool) (b1 tb ob : Nat) (name : Bs) (l : List HA) (w : World) (s : Ps) (acc : List (Col × List Tk)) : Prop :=
  ∃ (cv ov : Value) (cols : List Col) (tq : List (List Tk × Value)), HS w (dA p s ns cs pool :: boxA b1 (ptrC p.pb) 38 :: boxA tb (tabC name cv 0 0) 77 :: boxA ob #[ov] 179 :: rowA 80 7 cv cols.length (colsC cols) :: rowA 35 1 ov tq.length (tq.map Prod.snd) :: allA (tq.map tkRow) :: l) ∧ cols = acc.map Prod.fst ∧ tq.map Prod.fst = acc.map Prod.snd
theorem TInv.next {b1 tb ob : Nat} {name : Bs} {acc : List (Col × List Tk)} {cols : List Col} {tq : List (List Tk × Value)} {cv ov v : Value} {c : Col} {nm : List Tk} (h1 : cols = acc.map Prod.fst) (h2 : tq.map Prod.fst = acc.map Prod.snd)
    (H : HS w (tkRow (nm, v) :: allA (tq.map tkRow) :: dA p s ns cs pool :: boxA b1 (ptrC p.pb) 38 :: boxA tb (tabC name cv 0 0) 77 :: boxA ob #[ov] 179 :: rowA 80 7 cv (cols.length + 1) (colsC cols ++ colL c) :: rowA 35 1 ov (tq.length + 1) (tq.map Prod.snd ++ [v]) :: l)) :
    TInv p ns cs pool b1 tb ob name l w s (acc ++ [(c, nm)]) := by
  have H2 := allA_snoc H
  have e1 : tq.map tkRow ++ [tkRow (nm, v)] = (tq ++ [(nm, v)]).map tkRow := by simp
  have e2 : tq.map Prod.snd ++ [v] = (tq ++ [(nm, v)]).map Prod.snd := by simp
  have e3 : tq.length + 1 = (tq ++ [(nm, v)]).length := by simp
  have e4 : cols.length + 1 = (cols ++ [c]).length := by simp
  rw [e1, e2, e3, e4, ← colsC_snoc] at H2
  refine ⟨cv, ov, cols ++ [c], tq ++ [(nm, v)], H2.sub (by with_reducible repeat constructor), by rw [h1]; simp, by rw [List.map_append, h2]; simp⟩
set_option maxRecDepth 100000 in
set_option maxHeartbeats 8000000 in
theorem table1_c {p : Pp} (hN : p.e.okN) {ns : Nat → Nat} {cs : Nat → List Value} {pool : Pool} {b1 tb ob : Nat} {name : Bs} {l : List HA} (w : World) (s : Ps) (acc : List (Col × List Tk)) (hl : acc.length ≤ 100000) (h : TInv p ns cs pool b1 tb ob name l w s acc) :
    Calls Tryz.prog 147 #[.pointer (some ⟨b1, 0, none⟩), .pointer (some ⟨tb, 0, none⟩), .pointer (some ⟨ob, 0, none⟩)] w fun e w' => e = .returned (.tuple #[]) ∧ TInv p ns cs pool b1 tb ob name l w' (columnP p.e s).2 (acc ++ [(columnP p.e s).1]) := by
  obtain ⟨cv, ov, cols, tq, H, h1, h2⟩ := h
  have hcl : cols.length ≤ 100000 := by rw [h1]; simpa using hl
  have htl : tq.length ≤ 100000 := by have := congrArg List.length h2; simp at this; omega
  have HH1 := Lib.hid h1
  have HH2 := Lib.hid h2
  clear h1 h2
  have hC := column_s hN H (by with_reducible repeat constructor)
  generalize columnP p.e s = q at hC ⊢
  obtain ⟨⟨c, nm⟩, s1⟩ := q
  unfold ColS colC at hC
  dsimp only at hC ⊢
  have xB := HS.box (z := b1) H (by with_reducible repeat constructor); have xL := Box.lt xB; obtain ⟨hcB, hfB⟩ := Box.cells xB; have x0 := hcB 0; have xf0 := hfB 0; clear hcB hfB; unfold ptrC at x0
  go_enter Tryz.func147, Tryz.ntmps147
  go_upto_region 1 with (go_at_call 148; (with_reducible refine hC.mono ?_); rintro e w1 ⟨A1, c1, rfl, H1⟩)
  clear H hC xB xL x0 xf0
  obtain ⟨z, w2, ez, ew, H2⟩ := H1.alloc_ex (colC c (.slice none 0 0)) 80
  unfold colC at ew
  rw [ew, ez]
  clear ez ew H1
  obtain ⟨Ac, cc, rfl⟩ := H2.slice (v := cv) (by with_reducible repeat constructor)
  obtain ⟨Ao, co, rfl⟩ := H2.slice (v := ov) (by with_reducible repeat constructor)
  have hne := H2.ne (z := tb) (y := ob) (by with_reducible repeat constructor) (by with_reducible repeat constructor)
  have tB := HS.box (z := tb) H2 (by with_reducible repeat constructor); have tL := Box.lt tB; obtain ⟨hcB, hfB⟩ := Box.cells tB; have t1 := hcB 1; have tf1 := hfB 1; clear hcB hfB; unfold tabC at t1
  have oB := HS.box (z := ob) H2 (by with_reducible repeat constructor); have oL := Box.lt oB; obtain ⟨hcB, hfB⟩ := Box.cells oB; have o0 := hcB 0; have of0 := hfB 0; clear hcB hfB
  have dB := HS.box (z := z) H2 (by with_reducible repeat constructor); have dL := Box.lt dB; obtain ⟨hcB, hfB⟩ := Box.cells dB; have d0 := hcB 0; have df0 := hfB 0; have d1 := hcB 1; have df1 := hfB 1; have d2 := hcB 2; have df2 := hfB 2; have d3 := hcB 3; have df3 := hfB 3; have d4 := hcB 4; have df4 := hfB 4; have d5 := hcB 5; have df5 := hfB 5; have d6 := hcB 6; have df6 := hfB 6; clear hcB hfB; unfold colC at d0 d1 d2 d3 d4 d5 d6
  have Hd := H2.drew
  (refine wp_region_G 10 (fun w' => w'.cell? ⟨tb, 1, none⟩ = some (.slice Ac cols.length cc) ∧ w'.cell? ⟨ob, 0, none⟩ = some (.slice Ao tq.length co) ∧ w'.cell? ⟨z, 0, none⟩ = some (.string ⟨c.name.toArray⟩) ∧ w'.cell? ⟨z, 1, none⟩ = some (.int .i64 c.ty) ∧ w'.cell? ⟨z, 2, none⟩ = some (.string ⟨c.ns.toArray⟩) ∧ w'.cell? ⟨z, 3, none⟩ = some (.string ⟨c.rf.toArray⟩) ∧ w'.cell? ⟨z, 4, none⟩ = some (.slice none 0 0) ∧ w'.cell? ⟨z, 5, none⟩ = some (.int .i64 c.joint) ∧ w'.cell? ⟨z, 6, none⟩ = some (.int .i64 c.duty)) (by kernel_rfl) ?_ (fun hHeld => ?_); (focus (try dsimp only); go_keep))
  (refine GG.tk 0 (v := ?_) rfl (by kernel_rfl) (fun _ _ _ h => h) (by rfl) (by assumption) ?_ ?_; rotate_left; (focus (intro w h; (try dsimp only at h); go_simp; (try with_reducible rfl))); (try simp only [Act.put, qqa]); refine GG.tk 1 (v := ?_) rfl (by kernel_rfl) (fun _ _ _ h => h) (by rfl) (by assumption) ?_ ?_; rotate_left; (focus (intro w h; (try dsimp only at h); go_simp; (try with_reducible rfl))); (try simp only [Act.put]); refine GG.tk 2 (v := ?_) rfl (by kernel_rfl) (fun _ _ _ h => h) (by rfl) (by assumption) ?_ ?_; rotate_left; (focus (intro w h; (try dsimp only at h); go_simp; (try with_reducible rfl))); (try simp only [Act.put]); refine GG.tk 5 (v := ?_) rfl (by kernel_rfl) (fun _ _ _ h => h) (by rfl) (by assumption) ?_ ?_; rotate_left; (focus (intro w h; (try dsimp only at h); go_simp; (try with_reducible rfl))); (try simp only [Act.put]); refine GG.tk 6 (v := ?_) rfl (by kernel_rfl) (fun _ _ _ h => h) (by rfl) (by assumption) ?_ ?_; rotate_left; (focus (intro w h; (try dsimp only at h); go_simp; (try with_reducible rfl))); (try simp only [Act.put]))
  (refine GG.two 3 7 (by kernel_rfl) (by decide) rfl rfl (fun K hK => ?_) (fun K hK => ?_))
  · (go_simp; refine hK.out _ _ ?_ (fun hHeld => ?_); (focus (try dsimp only); go_keep); clear hK K; (try simp only [Act.put, qqa, qqb, qqc]))
    have Ha := Hd.alloc #[.string ⟨c.name.toArray⟩, .int .i64 c.ty, .string ⟨c.ns.toArray⟩, .string ⟨c.rf.toArray⟩, .slice none 0 0, .int .i64 c.joint, .int .i64 c.duty] 80
    (refine GG.two 4 7 (by kernel_rfl) (by decide) rfl rfl (fun K hK => ?_) (fun K hK => ?_))
    · have own7 := Ha.row (v := .slice Ac cols.length cc) (by with_reducible repeat constructor)
      ((refine step_app3 (v := .slice Ac cols.length cc) (by rfl) _ _ stC (by rfl) (by rfl) own7 (by rfl) (news := [.string ⟨c.name.toArray⟩, .int .i64 c.ty, .string ⟨c.ns.toArray⟩, .string ⟨c.rf.toArray⟩, .slice none 0 0, .int .i64 c.joint, .int .i64 c.duty]) (by rfl) (litRd (heap_alloc_new _ _)) (fun h => by cases h) (by intro u hu; simp at hu; (repeat' (rcases hu with rfl | hu)); all_goals (first | rfl | (subst hu; rfl))) (by omega) (by first | exact Nat.zero_le _ | omega | (simp; omega)) ?_; intro vA wA ownA gA atA; have HA := Ha.app (v := .slice Ac cols.length cc) (by with_reducible repeat constructor) ownA gA atA; have taB := HS.box (z := tb) HA (by with_reducible repeat constructor); have taL := Box.lt taB; obtain ⟨hcB, hfB⟩ := Box.cells taB; have ta1 := hcB 1; have taf1 := hfB 1; clear hcB hfB; unfold tabC at ta1; have oaB := HS.box (z := ob) HA (by with_reducible repeat constructor); have oaL := Box.lt oaB; obtain ⟨hcB, hfB⟩ := Box.cells oaB; have oa0 := hcB 0; have oaf0 := hfB 0; clear hcB hfB; have daB := HS.box (z := z) HA (by with_reducible repeat constructor); have daL := Box.lt daB; obtain ⟨hcB, hfB⟩ := Box.cells daB; have da0 := hcB 0; have daf0 := hfB 0; have da1 := hcB 1; have daf1 := hfB 1; have da2 := hcB 2; have daf2 := hfB 2; have da3 := hcB 3; have daf3 := hfB 3; have da4 := hcB 4; have daf4 := hfB 4; have da5 := hcB 5; have daf5 := hfB 5; have da6 := hcB 6; have daf6 := hfB 6; clear hcB hfB; unfold colC at da0 da1 da2 da3 da4 da5 da6; obtain ⟨AB, cB, rfl, -, -⟩ := own_slice ownA; clear ownA gA atA); refine hK.out _ _ ?_ (fun hHeld => ?_); (focus (try dsimp only); go_keep); clear hK K; (try simp only [Act.put, qqa]))
      (refine GG.tk 9 (v := ?_) rfl (by kernel_rfl) (fun _ _ _ h => h) (by rfl) (by assumption) ?_ ?_; rotate_left; (focus (intro w h; (try dsimp only at h); go_simp; (try with_reducible rfl))); (try simp only [Act.put]))
      have HA2 := HA.alloc #[.slice A1 nm.length c1] 35
      have own8 := HA2.row (v := .slice Ao tq.length co) (by with_reducible repeat constructor)
      (refine GG.one 7 (by kernel_rfl) (by decide) rfl (fun K hK => ?_); go_simp; refine hK.out _ _ ?_ (fun hHeld => ?_); (focus (try dsimp only); go_keep); clear hK K; (try simp only [Act.put, qqa, qqb, qqc]))
      (refine GG.one 8 (by kernel_rfl) (by decide) rfl (fun K hK => ?_); (refine step_app3 (v := .slice Ao tq.length co) (by rfl) _ _ stKK (by rfl) (by rfl) own8 (by rfl) (news := [.slice A1 nm.length c1]) (by rfl) (litRd (heap_alloc_new _ _)) (fun h => by cases h) (by intro u hu; simp at hu; (repeat' (rcases hu with rfl | hu)); all_goals (first | rfl | (subst hu; rfl))) (by omega) (by first | exact Nat.zero_le _ | omega | (simp; omega)) ?_; intro vA wA ownA gA atA; have HB := HA2.app (v := .slice Ao tq.length co) (by with_reducible repeat constructor) ownA gA atA; have tb2B := HS.box (z := tb) HB (by with_reducible repeat constructor); have tb2L := Box.lt tb2B; obtain ⟨hcB, hfB⟩ := Box.cells tb2B; have tb21 := hcB 1; have tb2f1 := hfB 1; clear hcB hfB; unfold tabC at tb21; have ob2B := HS.box (z := ob) HB (by with_reducible repeat constructor); have ob2L := Box.lt ob2B; obtain ⟨hcB, hfB⟩ := Box.cells ob2B; have ob20 := hcB 0; have ob2f0 := hfB 0; clear hcB hfB; have dbB := HS.box (z := z) HB (by with_reducible repeat constructor); have dbL := Box.lt dbB; obtain ⟨hcB, hfB⟩ := Box.cells dbB; have db0 := hcB 0; have dbf0 := hfB 0; have db1 := hcB 1; have dbf1 := hfB 1; have db2 := hcB 2; have dbf2 := hfB 2; have db3 := hcB 3; have dbf3 := hfB 3; have db4 := hcB 4; have dbf4 := hfB 4; have db5 := hcB 5; have dbf5 := hfB 5; have db6 := hcB 6; have dbf6 := hfB 6; clear hcB hfB; unfold colC at db0 db1 db2 db3 db4 db5 db6; obtain ⟨AC, cC, rfl, -, -⟩ := own_slice ownA); refine hK.out _ _ ?_ (fun hHeld => ?_); (focus (try dsimp only); go_keep); clear hK K; (try simp only [Act.put, qqa]))
      (refine GG.last2 (by kernel_rfl) (by kernel_rfl) (by kernel_rfl) rfl rfl (fun K hK => ?_); go_simp; refine hK.out _ _ ?_; clear hK K; refine (fun K hK => ?_); (try simp only [Act.put, qqa]); go_simp; refine hK.out _ _ ?_; clear hK K)
      go_end0
      refine ⟨rfl, TInv.next (cv := .slice AB (cols.length + 1) cB) (ov := .slice AC (tq.length + 1) cC) (v := .slice A1 nm.length c1) HH1.out HH2.out ?_⟩
      rw [show colL c = [.string ⟨c.name.toArray⟩, .int .i64 c.ty, .string ⟨c.ns.toArray⟩, .string ⟨c.rf.toArray⟩, .slice none 0 0, .int .i64 c.joint, .int .i64 c.duty] from rfl]
      exact (((HB.storeTo (z := tb) (by with_reducible repeat constructor) 1 _ (tabC name (.slice AB (cols.length + 1) cB) 0 0) rfl).storeTo (z := ob) (by with_reducible repeat constructor) 0 _ #[.slice AC (tq.length + 1) cC] rfl).sub (by with_reducible repeat constructor))
    · (go_simp; refine hK.out _ _ ?_ (fun hHeld => ?_); (focus (try dsimp only); go_keep); clear hK K; (try simp only [Act.put, qqa, qqb, qqc]))
      have hz1 : (w2.drew.alloc (.cells #[.string ⟨c.name.toArray⟩, .int .i64 c.ty, .string ⟨c.ns.toArray⟩, .string ⟨c.rf.toArray⟩, .slice none 0 0, .int .i64 c.joint, .int .i64 c.duty] 80)).heap.size = w2.heap.size + 1 := by simp
      have Hb := Ha.alloc #[.slice A1 nm.length c1] 35
      have own7 := Hb.row (v := .slice Ac cols.length cc) (by with_reducible repeat constructor)
      have lit1 := Hb.box (z := w2.drew.heap.size) (by with_reducible repeat constructor)
      (refine GG.one 4 (by kernel_rfl) (by decide) rfl (fun K hK => ?_); (refine step_app3 (v := .slice Ac cols.length cc) (by rfl) _ _ stC (by rfl) (by rfl) own7 (by rfl) (news := [.string ⟨c.name.toArray⟩, .int .i64 c.ty, .string ⟨c.ns.toArray⟩, .string ⟨c.rf.toArray⟩, .slice none 0 0, .int .i64 c.joint, .int .i64 c.duty]) (by rfl) (litRd lit1) (fun h => by cases h) (by intro u hu; simp at hu; (repeat' (rcases hu with rfl | hu)); all_goals (first | rfl | (subst hu; rfl))) (by omega) (by first | exact Nat.zero_le _ | omega | (simp; omega)) ?_; intro vA wA ownA gA atA; have HA := Hb.app (v := .slice Ac cols.length cc) (by with_reducible repeat constructor) ownA gA atA; have taB := HS.box (z := tb) HA (by with_reducible repeat constructor); have taL := Box.lt taB; obtain ⟨hcB, hfB⟩ := Box.cells taB; have ta1 := hcB 1; have taf1 := hfB 1; clear hcB hfB; unfold tabC at ta1; have oaB := HS.box (z := ob) HA (by with_reducible repeat constructor); have oaL := Box.lt oaB; obtain ⟨hcB, hfB⟩ := Box.cells oaB; have oa0 := hcB 0; have oaf0 := hfB 0; clear hcB hfB; have daB := HS.box (z := z) HA (by with_reducible repeat constructor); have daL := Box.lt daB; obtain ⟨hcB, hfB⟩ := Box.cells daB; have da0 := hcB 0; have daf0 := hfB 0; have da1 := hcB 1; have daf1 := hfB 1; have da2 := hcB 2; have daf2 := hfB 2; have da3 := hcB 3; have daf3 := hfB 3; have da4 := hcB 4; have daf4 := hfB 4; have da5 := hcB 5; have daf5 := hfB 5; have da6 := hcB 6; have daf6 := hfB 6; clear hcB hfB; unfold colC at da0 da1 da2 da3 da4 da5 da6; obtain ⟨AB, cB, rfl, -, -⟩ := own_slice ownA; clear ownA gA atA); refine hK.out _ _ ?_ (fun hHeld => ?_); (focus (try dsimp only); go_keep); clear hK K; (try simp only [Act.put, qqa]))
      (refine GG.tk 9 (v := ?_) rfl (by kernel_rfl) (fun _ _ _ h => h) (by rfl) (by assumption) ?_ ?_; rotate_left; (focus (intro w h; (try dsimp only at h); go_simp; (try with_reducible rfl))); (try simp only [Act.put]))
      have own8 := HA.row (v := .slice Ao tq.length co) (by with_reducible repeat constructor)
      have lit2 := HA.box (z := (w2.drew.alloc (.cells #[.string ⟨c.name.toArray⟩, .int .i64 c.ty, .string ⟨c.ns.toArray⟩, .string ⟨c.rf.toArray⟩, .slice none 0 0, .int .i64 c.joint, .int .i64 c.duty] 80)).heap.size) (by with_reducible repeat constructor)
      rw [hz1] at lit2
      clear hz1
      (refine GG.one 8 (by kernel_rfl) (by decide) rfl (fun K hK => ?_); (refine step_app3 (v := .slice Ao tq.length co) (by rfl) _ _ stKK (by rfl) (by rfl) own8 (by rfl) (news := [.slice A1 nm.length c1]) (by rfl) (litRd lit2) (fun h => by cases h) (by intro u hu; simp at hu; (repeat' (rcases hu with rfl | hu)); all_goals (first | rfl | (subst hu; rfl))) (by omega) (by first | exact Nat.zero_le _ | omega | (simp; omega)) ?_; intro vA wA ownA gA atA; have HB := HA.app (v := .slice Ao tq.length co) (by with_reducible repeat constructor) ownA gA atA; have tb2B := HS.box (z := tb) HB (by with_reducible repeat constructor); have tb2L := Box.lt tb2B; obtain ⟨hcB, hfB⟩ := Box.cells tb2B; have tb21 := hcB 1; have tb2f1 := hfB 1; clear hcB hfB; unfold tabC at tb21; have ob2B := HS.box (z := ob) HB (by with_reducible repeat constructor); have ob2L := Box.lt ob2B; obtain ⟨hcB, hfB⟩ := Box.cells ob2B; have ob20 := hcB 0; have ob2f0 := hfB 0; clear hcB hfB; have dbB := HS.box (z := z) HB (by with_reducible repeat constructor); have dbL := Box.lt dbB; obtain ⟨hcB, hfB⟩ := Box.cells dbB; have db0 := hcB 0; have dbf0 := hfB 0; have db1 := hcB 1; have dbf1 := hfB 1; have db2 := hcB 2; have dbf2 := hfB 2; have db3 := hcB 3; have dbf3 := hfB 3; have db4 := hcB 4; have dbf4 := hfB 4; have db5 := hcB 5; have dbf5 := hfB 5; have db6 := hcB 6; have dbf6 := hfB 6; clear hcB hfB; unfold colC at db0 db1 db2 db3 db4 db5 db6; obtain ⟨AC, cC, rfl, -, -⟩ := own_slice ownA); refine hK.out _ _ ?_ (fun hHeld => ?_); (focus (try dsimp only); go_keep); clear hK K; (try simp only [Act.put]))
      (refine GG.last2 (by kernel_rfl) (by kernel_rfl) (by kernel_rfl) rfl rfl (fun K hK => ?_); go_simp; refine hK.out _ _ ?_; clear hK K; refine (fun K hK => ?_); (try simp only [Act.put, qqa]); go_simp; refine hK.out _ _ ?_; clear hK K)
      go_end0
      refine ⟨rfl, TInv.next (cv := .slice AB (cols.length + 1) cB) (ov := .slice AC (tq.length + 1) cC) (v := .slice A1 nm.length c1) HH1.out HH2.out ?_⟩
      rw [show colL c = [.string ⟨c.name.toArray⟩, .int .i64 c.ty, .string ⟨c.ns.toArray⟩, .string ⟨c.rf.toArray⟩, .slice none 0 0, .int .i64 c.joint, .int .i64 c.duty] from rfl]
      exact (((HB.storeTo (z := tb) (by with_reducible repeat constructor) 1 _ (tabC name (.slice AB (cols.length + 1) cB) 0 0) rfl).storeTo (z := ob) (by with_reducible repeat constructor) 0 _ #[.slice AC (tq.length + 1) cC] rfl).sub (by with_reducible repeat constructor))
  · (go_simp; refine hK.out _ _ ?_ (fun hHeld => ?_); (focus (try dsimp only); go_keep); clear hK K; (try simp only [Act.put, qqa, qqb, qqc]))
    have Hc := Hd.alloc #[.slice A1 nm.length c1] 35
    have hz1 : (w2.drew.alloc (.cells #[.slice A1 nm.length c1] 35)).heap.size = w2.heap.size + 1 := by simp
    have Hb := Hc.alloc #[.string ⟨c.name.toArray⟩, .int .i64 c.ty, .string ⟨c.ns.toArray⟩, .string ⟨c.rf.toArray⟩, .slice none 0 0, .int .i64 c.joint, .int .i64 c.duty] 80
    have own7 := Hb.row (v := .slice Ac cols.length cc) (by with_reducible repeat constructor)
    have lit1 := Hb.box (z := (w2.drew.alloc (.cells #[.slice A1 nm.length c1] 35)).heap.size) (by with_reducible repeat constructor)
    rw [hz1] at lit1
    clear hz1
    (refine GG.one 3 (by kernel_rfl) (by decide) rfl (fun K hK => ?_); go_simp; refine hK.out _ _ ?_ (fun hHeld => ?_); (focus (try dsimp only); go_keep); clear hK K; (try simp only [Act.put, qqa, qqb, qqc]))
    (refine GG.one 4 (by kernel_rfl) (by decide) rfl (fun K hK => ?_); (refine step_app3 (v := .slice Ac cols.length cc) (by rfl) _ _ stC (by rfl) (by rfl) own7 (by rfl) (news := [.string ⟨c.name.toArray⟩, .int .i64 c.ty, .string ⟨c.ns.toArray⟩, .string ⟨c.rf.toArray⟩, .slice none 0 0, .int .i64 c.joint, .int .i64 c.duty]) (by rfl) (litRd lit1) (fun h => by cases h) (by intro u hu; simp at hu; (repeat' (rcases hu with rfl | hu)); all_goals (first | rfl | (subst hu; rfl))) (by omega) (by first | exact Nat.zero_le _ | omega | (simp; omega)) ?_; intro vA wA ownA gA atA; have HA := Hb.app (v := .slice Ac cols.length cc) (by with_reducible repeat constructor) ownA gA atA; have taB := HS.box (z := tb) HA (by with_reducible repeat constructor); have taL := Box.lt taB; obtain ⟨hcB, hfB⟩ := Box.cells taB; have ta1 := hcB 1; have taf1 := hfB 1; clear hcB hfB; unfold tabC at ta1; have oaB := HS.box (z := ob) HA (by with_reducible repeat constructor); have oaL := Box.lt oaB; obtain ⟨hcB, hfB⟩ := Box.cells oaB; have oa0 := hcB 0; have oaf0 := hfB 0; clear hcB hfB; have daB := HS.box (z := z) HA (by with_reducible repeat constructor); have daL := Box.lt daB; obtain ⟨hcB, hfB⟩ := Box.cells daB; have da0 := hcB 0; have daf0 := hfB 0; have da1 := hcB 1; have daf1 := hfB 1; have da2 := hcB 2; have daf2 := hfB 2; have da3 := hcB 3; have daf3 := hfB 3; have da4 := hcB 4; have daf4 := hfB 4; have da5 := hcB 5; have daf5 := hfB 5; have da6 := hcB 6; have daf6 := hfB 6; clear hcB hfB; unfold colC at da0 da1 da2 da3 da4 da5 da6; obtain ⟨AB, cB, rfl, -, -⟩ := own_slice ownA; clear ownA gA atA); refine hK.out _ _ ?_ (fun hHeld => ?_); (focus (try dsimp only); go_keep); clear hK K; (try simp only [Act.put, qqa]))
    (refine GG.tk 9 (v := ?_) rfl (by kernel_rfl) (fun _ _ _ h => h) (by rfl) (by assumption) ?_ ?_; rotate_left; (focus (intro w h; (try dsimp only at h); go_simp; (try with_reducible rfl))); (try simp only [Act.put]))
    have own8 := HA.row (v := .slice Ao tq.length co) (by with_reducible repeat constructor)
    have lit2 := HA.box (z := w2.drew.heap.size) (by with_reducible repeat constructor)
    (refine GG.one 8 (by kernel_rfl) (by decide) rfl (fun K hK => ?_); (refine step_app3 (v := .slice Ao tq.length co) (by rfl) _ _ stKK (by rfl) (by rfl) own8 (by rfl) (news := [.slice A1 nm.length c1]) (by rfl) (litRd lit2) (fun h => by cases h) (by intro u hu; simp at hu; (repeat' (rcases hu with rfl | hu)); all_goals (first | rfl | (subst hu; rfl))) (by omega) (by first | exact Nat.zero_le _ | omega | (simp; omega)) ?_; intro vA wA ownA gA atA; have HB := HA.app (v := .slice Ao tq.length co) (by with_reducible repeat constructor) ownA gA atA; have tb2B := HS.box (z := tb) HB (by with_reducible repeat constructor); have tb2L := Box.lt tb2B; obtain ⟨hcB, hfB⟩ := Box.cells tb2B; have tb21 := hcB 1; have tb2f1 := hfB 1; clear hcB hfB; unfold tabC at tb21; have ob2B := HS.box (z := ob) HB (by with_reducible repeat constructor); have ob2L := Box.lt ob2B; obtain ⟨hcB, hfB⟩ := Box.cells ob2B; have ob20 := hcB 0; have ob2f0 := hfB 0; clear hcB hfB; have dbB := HS.box (z := z) HB (by with_reducible repeat constructor); have dbL := Box.lt dbB; obtain ⟨hcB, hfB⟩ := Box.cells dbB; have db0 := hcB 0; have dbf0 := hfB 0; have db1 := hcB 1; have dbf1 := hfB 1; have db2 := hcB 2; have dbf2 := hfB 2; have db3 := hcB 3; have dbf3 := hfB 3; have db4 := hcB 4; have dbf4 := hfB 4; have db5 := hcB 5; have dbf5 := hfB 5; have db6 := hcB 6; have dbf6 := hfB 6; clear hcB hfB; unfold colC at db0 db1 db2 db3 db4 db5 db6; obtain ⟨AC, cC, rfl, -, -⟩ := own_slice ownA); refine hK.out _ _ ?_ (fun hHeld => ?_); (focus (try dsimp only); go_keep); clear hK K; (try simp only [Act.put]))
    (refine GG.last2 (by kernel_rfl) (by kernel_rfl) (by kernel_rfl) rfl rfl (fun K hK => ?_); go_simp; refine hK.out _ _ ?_; clear hK K; refine (fun K hK => ?_); (try simp only [Act.put, qqa]); go_simp; refine hK.out _ _ ?_; clear hK K)
    go_end0
    refine ⟨rfl, TInv.next (cv := .slice AB (cols.length + 1) cB) (ov := .slice AC (tq.length + 1) cC) (v := .slice A1 nm.length c1) HH1.out HH2.out ?_⟩
    rw [show colL c = [.string ⟨c.name.toArray⟩, .int .i64 c.ty, .string ⟨c.ns.toArray⟩, .string ⟨c.rf.toArray⟩, .slice none 0 0, .int .i64 c.joint, .int .i64 c.duty] from rfl]
    exact (((HB.storeTo (z := tb) (by with_reducible repeat constructor) 1 _ (tabC name (.slice AB (cols.length + 1) cB) 0 0) rfl).storeTo (z := ob) (by with_reducible repeat constructor) 0 _ #[.slice AC (tq.length + 1) cC] rfl).sub (by with_reducible repeat constructor))
end
end Go.Proofs.YtgnmnaclndkmdaaGreatDoor
