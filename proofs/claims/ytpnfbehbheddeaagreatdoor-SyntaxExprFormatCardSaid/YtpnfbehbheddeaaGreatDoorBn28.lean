/- Contract of the closure that table hands to list, with memory in parts. The numbers of the tokens are from 0 to 2^32. -/
import Derived.Test.YtpnfbehbheddeaaGreatDoorBn27
import Derived.Test.YtpnfbehbheddeaaGreatDoorBn21
namespace Go.Proofs.YtpnfbehbheddeaaGreatDoor
set_option maxRecDepth 100000
set_option maxHeartbeats 8000000
set_option linter.unusedVariables false
set_option linter.unusedSimpArgs false
open Go.RowKit
theorem stC : SliceTy Tryz.prog 77 82 7 96 := SliceTy.mk' Tryz.underlying77 (z := .agg #[.string ⟨#[]⟩, .int .i64 0, .string ⟨#[]⟩, .string ⟨#[]⟩, .slice none 0 0, .int .i64 0, .int .i64 0]) (by kernel_rfl) rfl (by decide) (by decide)
theorem stKK : SliceTy Tryz.prog 198 47 1 24 := SliceTy.mk' Tryz.underlying198 (z := .slice none 0 0) (by kernel_rfl) rfl (by decide) (by decide)
theorem stTb : SliceTy Tryz.prog 52 79 4 56 := SliceTy.mk' Tryz.underlying52 (z := .agg #[.string ⟨#[]⟩, .slice none 0 0, .int .i64 0, .int .i64 0]) (by kernel_rfl) rfl (by decide) (by decide)
theorem stKKK : SliceTy Tryz.prog 63 198 1 24 := SliceTy.mk' Tryz.underlying63 (z := .slice none 0 0) (by kernel_rfl) rfl (by decide) (by decide)
def colL (c : Col) : List Value := (colC c (.slice none 0 0)).toList
def tabC (name : Bs) (cv : Value) (er rt : Int) : Array Value := #[.string ⟨name.toArray⟩, cv, .int .i64 er, .int .i64 rt]
def tkRow (x : List Tk × Value) : HA := rowA 100 4 x.2 x.1.length (x.1.flatMap Tk.cells)
def colsC (l : List Col) : List Value := l.flatMap colL
theorem colsC_snoc (l : List Col) (c : Col) : colsC (l ++ [c]) = colsC l ++ colL c := by simp [colsC]
section
variable {p : Pp} {w w' : World} {s s' : Ps} {ns : Nat → Nat} {cs : Nat → List Value} {pool : Pool} {l l' : List HA}
def ColS (p : Pp) (r : (Col × List Tk) × Ps) (ns : Nat → Nat) (cs : Nat → List Value) (pool : Pool) (l : List HA) (e : Ending) (w' : World) : Prop :=
  ∃ A cc, e = .returned (.tuple #[.agg (colC r.1.1 (.slice none 0 0)), .slice A r.1.2.length cc]) ∧ HS w' (tkRow (r.1.2, .slice A r.1.2.length cc) :: dA p r.2 ns cs pool :: l)
theorem column_s (hN : p.e.okN) (H : HS w l) (hp : Pick l (dA p s ns cs pool) l') : Calls Tryz.prog 192 #[.pointer (some ⟨p.pb, 0, none⟩)] w (ColS p (columnP p.e s) ns cs pool l') := by
  obtain ⟨rv, P, h⟩ := H.psNew hp
  refine (column_c hN P).mono ?_
  rintro e w' ⟨A, cc, h1, h2, h3, h4⟩
  exact ⟨A, cc, h1, h _ _ _ _ h2 h3 ⟨own_base h4 (Nat.zero_le _), rfl⟩ fun k hk => (h4.lt k hk).1⟩
def TInv (p : Pp) (ns : Nat → Nat) (cs : Nat → List Value) (pool : Pool) (b1 tb ob : Nat) (name : Bs) (l : List HA) (w : World) (s : Ps) (acc : List (Col × List Tk)) : Prop :=
  ∃ (cv ov : Value) (cols : List Col) (tq : List (List Tk × Value)), HS w (dA p s ns cs pool :: boxA b1 (ptrC p.pb) 50 :: boxA tb (tabC name cv 0 0) 79 :: boxA ob #[ov] 198 :: rowA 82 7 cv cols.length (colsC cols) :: rowA 47 1 ov tq.length (tq.map Prod.snd) :: allA (tq.map tkRow) :: l) ∧ cols = acc.map Prod.fst ∧ tq.map Prod.fst = acc.map Prod.snd
theorem TInv.next {b1 tb ob : Nat} {name : Bs} {acc : List (Col × List Tk)} {cols : List Col} {tq : List (List Tk × Value)} {cv ov v : Value} {c : Col} {nm : List Tk} (h1 : cols = acc.map Prod.fst) (h2 : tq.map Prod.fst = acc.map Prod.snd)
    (H : HS w (tkRow (nm, v) :: allA (tq.map tkRow) :: dA p s ns cs pool :: boxA b1 (ptrC p.pb) 50 :: boxA tb (tabC name cv 0 0) 79 :: boxA ob #[ov] 198 :: rowA 82 7 cv (cols.length + 1) (colsC cols ++ colL c) :: rowA 47 1 ov (tq.length + 1) (tq.map Prod.snd ++ [v]) :: l)) :
    TInv p ns cs pool b1 tb ob name l w s (acc ++ [(c, nm)]) := by
  have H2 := allA_snoc H
  have e1 : tq.map tkRow ++ [tkRow (nm, v)] = (tq ++ [(nm, v)]).map tkRow := by simp
  have e2 : tq.map Prod.snd ++ [v] = (tq ++ [(nm, v)]).map Prod.snd := by simp
  have e3 : tq.length + 1 = (tq ++ [(nm, v)]).length := by simp
  have e4 : cols.length + 1 = (cols ++ [c]).length := by simp
  rw [e1, e2, e3, e4, ← colsC_snoc] at H2
  refine ⟨cv, ov, cols ++ [c], tq ++ [(nm, v)], H2.sub pkQ, by rw [h1]; simp, by rw [List.map_append, h2]; simp⟩
theorem table1_c {p : Pp} (hN : p.e.okN) {ns : Nat → Nat} {cs : Nat → List Value} {pool : Pool} {b1 tb ob : Nat} {name : Bs} {l : List HA} (w : World) (s : Ps) (acc : List (Col × List Tk)) (hl : acc.length ≤ 100000) (h : TInv p ns cs pool b1 tb ob name l w s acc) :
    Calls Tryz.prog 191 #[.pointer (some ⟨b1, 0, none⟩), .pointer (some ⟨tb, 0, none⟩), .pointer (some ⟨ob, 0, none⟩)] w fun e w' => e = .returned (.tuple #[]) ∧ TInv p ns cs pool b1 tb ob name l w' (columnP p.e s).2 (acc ++ [(columnP p.e s).1]) := by
  obtain ⟨cv, ov, cols, tq, H, h1, h2⟩ := h
  have hcl : cols.length ≤ 100000 := by rw [h1]; simpa using hl
  have htl : tq.length ≤ 100000 := by have := congrArg List.length h2; simp at this; omega
  have HH1 := Lib.hid h1
  have HH2 := Lib.hid h2
  clear h1 h2
  have hC := column_s hN H pkQ
  generalize columnP p.e s = q at hC ⊢
  obtain ⟨⟨c, nm⟩, s1⟩ := q
  unfold ColS colC at hC
  dsimp only at hC ⊢
  obtain ⟨xB, xL, hcB⟩ := HS.get (z := b1) H; obtain ⟨x0, xf0⟩ := hcB 0; clear hcB; unfold ptrC at x0
  go_enter Tryz.func191, Tryz.ntmps191
  go_upto_region 1 with (go_at_call 192; (with_reducible refine hC.mono ?_); rintro e w1 ⟨A1, c1, rfl, H1⟩)
  clear H hC xB xL x0 xf0
  obtain ⟨z, w2, ez, ew, H2⟩ := H1.alloc_ex (colC c (.slice none 0 0)) 82
  unfold colC at ew
  rw [ew, ez]
  clear ez ew H1
  obtain ⟨Ac, cc, rfl⟩ := H2.slice (v := cv) pkQ
  obtain ⟨Ao, co, rfl⟩ := H2.slice (v := ov) pkQ
  have hne := H2.ne (z := tb) (y := ob) pkQ pkQ
  obtain ⟨tB, tL, hcB⟩ := HS.get (z := tb) H2; obtain ⟨t1, tf1⟩ := hcB 1; clear hcB; unfold tabC at t1
  obtain ⟨oB, oL, hcB⟩ := HS.get (z := ob) H2; obtain ⟨o0, of0⟩ := hcB 0; clear hcB
  obtain ⟨dB, dL, hcB⟩ := HS.get (z := z) H2; obtain ⟨d0, df0⟩ := hcB 0; obtain ⟨d1, df1⟩ := hcB 1; obtain ⟨d2, df2⟩ := hcB 2; obtain ⟨d3, df3⟩ := hcB 3; obtain ⟨d4, df4⟩ := hcB 4; obtain ⟨d5, df5⟩ := hcB 5; obtain ⟨d6, df6⟩ := hcB 6; clear hcB; unfold colC at d0 d1 d2 d3 d4 d5 d6
  have Hd := H2.drew
  (refine wp_region_G 10 (fun w' => w'.cell? ⟨tb, 1, none⟩ = some (.slice Ac cols.length cc) ∧ w'.cell? ⟨ob, 0, none⟩ = some (.slice Ao tq.length co) ∧ w'.cell? ⟨z, 0, none⟩ = some (.string ⟨c.name.toArray⟩) ∧ w'.cell? ⟨z, 1, none⟩ = some (.int .i64 c.ty) ∧ w'.cell? ⟨z, 2, none⟩ = some (.string ⟨c.ns.toArray⟩) ∧ w'.cell? ⟨z, 3, none⟩ = some (.string ⟨c.rf.toArray⟩) ∧ w'.cell? ⟨z, 4, none⟩ = some (.slice none 0 0) ∧ w'.cell? ⟨z, 5, none⟩ = some (.int .i64 c.joint) ∧ w'.cell? ⟨z, 6, none⟩ = some (.int .i64 c.duty)) (by kernel_rfl) ?_ (fun hHeld => ?_); (focus (try dsimp only); go_keep))
  (refine GG.k 0 ?_; refine GG.k 1 ?_; refine GG.k 2 ?_; refine GG.k 5 ?_; refine GG.k 6 ?_)
  (refine GG.two 3 7 (by kernel_rfl) (by decide) rfl rfl (fun K hK => ?_) (fun K hK => ?_))
  · (go_simp; refine hK.out _ _ ?_ (fun hHeld => ?_); (focus (try dsimp only); go_keep); clear hK K; (try simp only [Act.put, qqa, qqb, qqc]))
    have Ha := Hd.alloc #[.string ⟨c.name.toArray⟩, .int .i64 c.ty, .string ⟨c.ns.toArray⟩, .string ⟨c.rf.toArray⟩, .slice none 0 0, .int .i64 c.joint, .int .i64 c.duty] 82
    (refine GG.two 4 7 (by kernel_rfl) (by decide) rfl rfl (fun K hK => ?_) (fun K hK => ?_))
    · have own7 := Ha.row (v := .slice Ac cols.length cc) pkQ
      ((refine step_app3 (v := .slice Ac cols.length cc) (by rfl) _ _ stC (by rfl) (by rfl) own7 (by rfl) (news := [.string ⟨c.name.toArray⟩, .int .i64 c.ty, .string ⟨c.ns.toArray⟩, .string ⟨c.rf.toArray⟩, .slice none 0 0, .int .i64 c.joint, .int .i64 c.duty]) (by rfl) (litRd (heap_alloc_new _ _)) (fun h => by cases h) (by intro u hu; simp at hu; (repeat' (rcases hu with rfl | hu)); all_goals (first | rfl | (subst hu; rfl))) (by omega) (by first | exact Nat.zero_le _ | omega | (simp; omega)) ?_; intro vA wA ownA gA atA; have HA := Ha.app (v := .slice Ac cols.length cc) pkQ ownA gA atA; obtain ⟨taB, taL, hcB⟩ := HS.get (z := tb) HA; obtain ⟨ta1, taf1⟩ := hcB 1; clear hcB; unfold tabC at ta1; obtain ⟨oaB, oaL, hcB⟩ := HS.get (z := ob) HA; obtain ⟨oa0, oaf0⟩ := hcB 0; clear hcB; obtain ⟨daB, daL, hcB⟩ := HS.get (z := z) HA; obtain ⟨da0, daf0⟩ := hcB 0; obtain ⟨da1, daf1⟩ := hcB 1; obtain ⟨da2, daf2⟩ := hcB 2; obtain ⟨da3, daf3⟩ := hcB 3; obtain ⟨da4, daf4⟩ := hcB 4; obtain ⟨da5, daf5⟩ := hcB 5; obtain ⟨da6, daf6⟩ := hcB 6; clear hcB; unfold colC at da0 da1 da2 da3 da4 da5 da6; obtain ⟨AB, cB, rfl, -, -⟩ := own_slice ownA; clear ownA gA atA); refine hK.out _ _ ?_ (fun hHeld => ?_); (focus (try dsimp only); go_keep); clear hK K; (try simp only [Act.put, qqa, qqb, qqc]))
      (refine GG.k 9 ?_)
      have HA2 := HA.alloc #[.slice A1 nm.length c1] 47
      have own8 := HA2.row (v := .slice Ao tq.length co) pkQ
      (refine GG.o 7 (fun K hK => ?_); go_simp; refine hK.out _ _ ?_ (fun hHeld => ?_); (focus (try dsimp only); go_keep); clear hK K; (try simp only [Act.put, qqa, qqb, qqc]))
      (refine GG.o 8 (fun K hK => ?_); (refine step_app3 (v := .slice Ao tq.length co) (by rfl) _ _ stKK (by rfl) (by rfl) own8 (by rfl) (news := [.slice A1 nm.length c1]) (by rfl) (litRd (heap_alloc_new _ _)) (fun h => by cases h) (by intro u hu; simp at hu; (repeat' (rcases hu with rfl | hu)); all_goals (first | rfl | (subst hu; rfl))) (by omega) (by first | exact Nat.zero_le _ | omega | (simp; omega)) ?_; intro vA wA ownA gA atA; have HB := HA2.app (v := .slice Ao tq.length co) pkQ ownA gA atA; obtain ⟨tb2B, tb2L, hcB⟩ := HS.get (z := tb) HB; obtain ⟨tb21, tb2f1⟩ := hcB 1; clear hcB; unfold tabC at tb21; obtain ⟨ob2B, ob2L, hcB⟩ := HS.get (z := ob) HB; obtain ⟨ob20, ob2f0⟩ := hcB 0; clear hcB; obtain ⟨dbB, dbL, hcB⟩ := HS.get (z := z) HB; obtain ⟨db0, dbf0⟩ := hcB 0; obtain ⟨db1, dbf1⟩ := hcB 1; obtain ⟨db2, dbf2⟩ := hcB 2; obtain ⟨db3, dbf3⟩ := hcB 3; obtain ⟨db4, dbf4⟩ := hcB 4; obtain ⟨db5, dbf5⟩ := hcB 5; obtain ⟨db6, dbf6⟩ := hcB 6; clear hcB; unfold colC at db0 db1 db2 db3 db4 db5 db6; obtain ⟨AC, cC, rfl, -, -⟩ := own_slice ownA); refine hK.out _ _ ?_ (fun hHeld => ?_); (focus (try dsimp only); go_keep); clear hK K; (try simp only [Act.put, qqa, qqb, qqc]))
      (refine GG.last2 (by kernel_rfl) (by kernel_rfl) (by kernel_rfl) rfl rfl (fun K hK => ?_); go_simp; refine hK.out _ _ ?_; clear hK K; refine (fun K hK => ?_); (try simp only [Act.put, qqa]); go_simp; refine hK.out _ _ ?_; clear hK K)
      go_end0
      refine ⟨rfl, TInv.next (cv := .slice AB (cols.length + 1) cB) (ov := .slice AC (tq.length + 1) cC) (v := .slice A1 nm.length c1) HH1.out HH2.out ?_⟩
      rw [show colL c = [.string ⟨c.name.toArray⟩, .int .i64 c.ty, .string ⟨c.ns.toArray⟩, .string ⟨c.rf.toArray⟩, .slice none 0 0, .int .i64 c.joint, .int .i64 c.duty] from rfl]
      exact (((HB.storeTo (z := tb) pkQ 1 _ (tabC name (.slice AB (cols.length + 1) cB) 0 0) rfl).storeTo (z := ob) pkQ 0 _ #[.slice AC (tq.length + 1) cC] rfl).sub pkQ)
    · (go_simp; refine hK.out _ _ ?_ (fun hHeld => ?_); (focus (try dsimp only); go_keep); clear hK K; (try simp only [Act.put, qqa, qqb, qqc]))
      have hz1 : (w2.drew.alloc (.cells #[.string ⟨c.name.toArray⟩, .int .i64 c.ty, .string ⟨c.ns.toArray⟩, .string ⟨c.rf.toArray⟩, .slice none 0 0, .int .i64 c.joint, .int .i64 c.duty] 82)).heap.size = w2.heap.size + 1 := by simp
      have Hb := Ha.alloc #[.slice A1 nm.length c1] 47
      have own7 := Hb.row (v := .slice Ac cols.length cc) pkQ
      have lit1 := Hb.box (z := w2.drew.heap.size) pkQ
      (refine GG.o 4 (fun K hK => ?_); (refine step_app3 (v := .slice Ac cols.length cc) (by rfl) _ _ stC (by rfl) (by rfl) own7 (by rfl) (news := [.string ⟨c.name.toArray⟩, .int .i64 c.ty, .string ⟨c.ns.toArray⟩, .string ⟨c.rf.toArray⟩, .slice none 0 0, .int .i64 c.joint, .int .i64 c.duty]) (by rfl) (litRd lit1) (fun h => by cases h) (by intro u hu; simp at hu; (repeat' (rcases hu with rfl | hu)); all_goals (first | rfl | (subst hu; rfl))) (by omega) (by first | exact Nat.zero_le _ | omega | (simp; omega)) ?_; intro vA wA ownA gA atA; have HA := Hb.app (v := .slice Ac cols.length cc) pkQ ownA gA atA; obtain ⟨taB, taL, hcB⟩ := HS.get (z := tb) HA; obtain ⟨ta1, taf1⟩ := hcB 1; clear hcB; unfold tabC at ta1; obtain ⟨oaB, oaL, hcB⟩ := HS.get (z := ob) HA; obtain ⟨oa0, oaf0⟩ := hcB 0; clear hcB; obtain ⟨daB, daL, hcB⟩ := HS.get (z := z) HA; obtain ⟨da0, daf0⟩ := hcB 0; obtain ⟨da1, daf1⟩ := hcB 1; obtain ⟨da2, daf2⟩ := hcB 2; obtain ⟨da3, daf3⟩ := hcB 3; obtain ⟨da4, daf4⟩ := hcB 4; obtain ⟨da5, daf5⟩ := hcB 5; obtain ⟨da6, daf6⟩ := hcB 6; clear hcB; unfold colC at da0 da1 da2 da3 da4 da5 da6; obtain ⟨AB, cB, rfl, -, -⟩ := own_slice ownA; clear ownA gA atA); refine hK.out _ _ ?_ (fun hHeld => ?_); (focus (try dsimp only); go_keep); clear hK K; (try simp only [Act.put, qqa, qqb, qqc]))
      (refine GG.k 9 ?_)
      have own8 := HA.row (v := .slice Ao tq.length co) pkQ
      have lit2 := HA.box (z := (w2.drew.alloc (.cells #[.string ⟨c.name.toArray⟩, .int .i64 c.ty, .string ⟨c.ns.toArray⟩, .string ⟨c.rf.toArray⟩, .slice none 0 0, .int .i64 c.joint, .int .i64 c.duty] 82)).heap.size) pkQ
      rw [hz1] at lit2
      clear hz1
      (refine GG.o 8 (fun K hK => ?_); (refine step_app3 (v := .slice Ao tq.length co) (by rfl) _ _ stKK (by rfl) (by rfl) own8 (by rfl) (news := [.slice A1 nm.length c1]) (by rfl) (litRd lit2) (fun h => by cases h) (by intro u hu; simp at hu; (repeat' (rcases hu with rfl | hu)); all_goals (first | rfl | (subst hu; rfl))) (by omega) (by first | exact Nat.zero_le _ | omega | (simp; omega)) ?_; intro vA wA ownA gA atA; have HB := HA.app (v := .slice Ao tq.length co) pkQ ownA gA atA; obtain ⟨tb2B, tb2L, hcB⟩ := HS.get (z := tb) HB; obtain ⟨tb21, tb2f1⟩ := hcB 1; clear hcB; unfold tabC at tb21; obtain ⟨ob2B, ob2L, hcB⟩ := HS.get (z := ob) HB; obtain ⟨ob20, ob2f0⟩ := hcB 0; clear hcB; obtain ⟨dbB, dbL, hcB⟩ := HS.get (z := z) HB; obtain ⟨db0, dbf0⟩ := hcB 0; obtain ⟨db1, dbf1⟩ := hcB 1; obtain ⟨db2, dbf2⟩ := hcB 2; obtain ⟨db3, dbf3⟩ := hcB 3; obtain ⟨db4, dbf4⟩ := hcB 4; obtain ⟨db5, dbf5⟩ := hcB 5; obtain ⟨db6, dbf6⟩ := hcB 6; clear hcB; unfold colC at db0 db1 db2 db3 db4 db5 db6; obtain ⟨AC, cC, rfl, -, -⟩ := own_slice ownA); refine hK.out _ _ ?_ (fun hHeld => ?_); (focus (try dsimp only); go_keep); clear hK K; (try simp only [Act.put, qqa, qqb, qqc]))
      (refine GG.last2 (by kernel_rfl) (by kernel_rfl) (by kernel_rfl) rfl rfl (fun K hK => ?_); go_simp; refine hK.out _ _ ?_; clear hK K; refine (fun K hK => ?_); (try simp only [Act.put, qqa]); go_simp; refine hK.out _ _ ?_; clear hK K)
      go_end0
      refine ⟨rfl, TInv.next (cv := .slice AB (cols.length + 1) cB) (ov := .slice AC (tq.length + 1) cC) (v := .slice A1 nm.length c1) HH1.out HH2.out ?_⟩
      rw [show colL c = [.string ⟨c.name.toArray⟩, .int .i64 c.ty, .string ⟨c.ns.toArray⟩, .string ⟨c.rf.toArray⟩, .slice none 0 0, .int .i64 c.joint, .int .i64 c.duty] from rfl]
      exact (((HB.storeTo (z := tb) pkQ 1 _ (tabC name (.slice AB (cols.length + 1) cB) 0 0) rfl).storeTo (z := ob) pkQ 0 _ #[.slice AC (tq.length + 1) cC] rfl).sub pkQ)
  · (go_simp; refine hK.out _ _ ?_ (fun hHeld => ?_); (focus (try dsimp only); go_keep); clear hK K; (try simp only [Act.put, qqa, qqb, qqc]))
    have Hc := Hd.alloc #[.slice A1 nm.length c1] 47
    have hz1 : (w2.drew.alloc (.cells #[.slice A1 nm.length c1] 47)).heap.size = w2.heap.size + 1 := by simp
    have Hb := Hc.alloc #[.string ⟨c.name.toArray⟩, .int .i64 c.ty, .string ⟨c.ns.toArray⟩, .string ⟨c.rf.toArray⟩, .slice none 0 0, .int .i64 c.joint, .int .i64 c.duty] 82
    have own7 := Hb.row (v := .slice Ac cols.length cc) pkQ
    have lit1 := Hb.box (z := (w2.drew.alloc (.cells #[.slice A1 nm.length c1] 47)).heap.size) pkQ
    rw [hz1] at lit1
    clear hz1
    (refine GG.o 3 (fun K hK => ?_); go_simp; refine hK.out _ _ ?_ (fun hHeld => ?_); (focus (try dsimp only); go_keep); clear hK K; (try simp only [Act.put, qqa, qqb, qqc]))
    (refine GG.o 4 (fun K hK => ?_); (refine step_app3 (v := .slice Ac cols.length cc) (by rfl) _ _ stC (by rfl) (by rfl) own7 (by rfl) (news := [.string ⟨c.name.toArray⟩, .int .i64 c.ty, .string ⟨c.ns.toArray⟩, .string ⟨c.rf.toArray⟩, .slice none 0 0, .int .i64 c.joint, .int .i64 c.duty]) (by rfl) (litRd lit1) (fun h => by cases h) (by intro u hu; simp at hu; (repeat' (rcases hu with rfl | hu)); all_goals (first | rfl | (subst hu; rfl))) (by omega) (by first | exact Nat.zero_le _ | omega | (simp; omega)) ?_; intro vA wA ownA gA atA; have HA := Hb.app (v := .slice Ac cols.length cc) pkQ ownA gA atA; obtain ⟨taB, taL, hcB⟩ := HS.get (z := tb) HA; obtain ⟨ta1, taf1⟩ := hcB 1; clear hcB; unfold tabC at ta1; obtain ⟨oaB, oaL, hcB⟩ := HS.get (z := ob) HA; obtain ⟨oa0, oaf0⟩ := hcB 0; clear hcB; obtain ⟨daB, daL, hcB⟩ := HS.get (z := z) HA; obtain ⟨da0, daf0⟩ := hcB 0; obtain ⟨da1, daf1⟩ := hcB 1; obtain ⟨da2, daf2⟩ := hcB 2; obtain ⟨da3, daf3⟩ := hcB 3; obtain ⟨da4, daf4⟩ := hcB 4; obtain ⟨da5, daf5⟩ := hcB 5; obtain ⟨da6, daf6⟩ := hcB 6; clear hcB; unfold colC at da0 da1 da2 da3 da4 da5 da6; obtain ⟨AB, cB, rfl, -, -⟩ := own_slice ownA; clear ownA gA atA); refine hK.out _ _ ?_ (fun hHeld => ?_); (focus (try dsimp only); go_keep); clear hK K; (try simp only [Act.put, qqa, qqb, qqc]))
    (refine GG.k 9 ?_)
    have own8 := HA.row (v := .slice Ao tq.length co) pkQ
    have lit2 := HA.box (z := w2.drew.heap.size) pkQ
    (refine GG.o 8 (fun K hK => ?_); (refine step_app3 (v := .slice Ao tq.length co) (by rfl) _ _ stKK (by rfl) (by rfl) own8 (by rfl) (news := [.slice A1 nm.length c1]) (by rfl) (litRd lit2) (fun h => by cases h) (by intro u hu; simp at hu; (repeat' (rcases hu with rfl | hu)); all_goals (first | rfl | (subst hu; rfl))) (by omega) (by first | exact Nat.zero_le _ | omega | (simp; omega)) ?_; intro vA wA ownA gA atA; have HB := HA.app (v := .slice Ao tq.length co) pkQ ownA gA atA; obtain ⟨tb2B, tb2L, hcB⟩ := HS.get (z := tb) HB; obtain ⟨tb21, tb2f1⟩ := hcB 1; clear hcB; unfold tabC at tb21; obtain ⟨ob2B, ob2L, hcB⟩ := HS.get (z := ob) HB; obtain ⟨ob20, ob2f0⟩ := hcB 0; clear hcB; obtain ⟨dbB, dbL, hcB⟩ := HS.get (z := z) HB; obtain ⟨db0, dbf0⟩ := hcB 0; obtain ⟨db1, dbf1⟩ := hcB 1; obtain ⟨db2, dbf2⟩ := hcB 2; obtain ⟨db3, dbf3⟩ := hcB 3; obtain ⟨db4, dbf4⟩ := hcB 4; obtain ⟨db5, dbf5⟩ := hcB 5; obtain ⟨db6, dbf6⟩ := hcB 6; clear hcB; unfold colC at db0 db1 db2 db3 db4 db5 db6; obtain ⟨AC, cC, rfl, -, -⟩ := own_slice ownA); refine hK.out _ _ ?_ (fun hHeld => ?_); (focus (try dsimp only); go_keep); clear hK K; (try simp only [Act.put, qqa, qqb, qqc]))
    (refine GG.last2 (by kernel_rfl) (by kernel_rfl) (by kernel_rfl) rfl rfl (fun K hK => ?_); go_simp; refine hK.out _ _ ?_; clear hK K; refine (fun K hK => ?_); (try simp only [Act.put, qqa]); go_simp; refine hK.out _ _ ?_; clear hK K)
    go_end0
    refine ⟨rfl, TInv.next (cv := .slice AB (cols.length + 1) cB) (ov := .slice AC (tq.length + 1) cC) (v := .slice A1 nm.length c1) HH1.out HH2.out ?_⟩
    rw [show colL c = [.string ⟨c.name.toArray⟩, .int .i64 c.ty, .string ⟨c.ns.toArray⟩, .string ⟨c.rf.toArray⟩, .slice none 0 0, .int .i64 c.joint, .int .i64 c.duty] from rfl]
    exact (((HB.storeTo (z := tb) pkQ 1 _ (tabC name (.slice AB (cols.length + 1) cB) 0 0) rfl).storeTo (z := ob) pkQ 0 _ #[.slice AC (tq.length + 1) cC] rfl).sub pkQ)
end
end Go.Proofs.YtpnfbehbheddeaaGreatDoor
