/- Contract of declaration. The numbers of the tokens are from 0 to 2^32. Written by wip/declgen2.py. -/
import Derived.Test.YtpnfbehbheddeaaGreatDoorBn29
namespace Go.Proofs.YtpnfbehbheddeaaGreatDoor
set_option maxRecDepth 100000
set_option maxHeartbeats 8000000
set_option linter.unusedVariables false
set_option linter.unusedSimpArgs false
open Go.RowKit
section
variable {p : Pp} {w w' : World} {s s' : Ps} {pool pool' : Pool} {l : List HA} {m : Dm}
theorem dc_start {k : Nat} (hk : k < 8) (x : Int) : (m.start k x).dc = { m.dc with starts := addAt m.dc.starts k x } := by
  match k, hk with
  | 0, _ => simp [Dm.dc, Dm.start, addAt, List.modify]
  | 1, _ => simp [Dm.dc, Dm.start, addAt, List.modify]
  | 2, _ => simp [Dm.dc, Dm.start, addAt, List.modify]
  | 3, _ => simp [Dm.dc, Dm.start, addAt, List.modify]
  | 4, _ => simp [Dm.dc, Dm.start, addAt, List.modify]
  | 5, _ => simp [Dm.dc, Dm.start, addAt, List.modify]
  | 6, _ => simp [Dm.dc, Dm.start, addAt, List.modify]
  | 7, _ => simp [Dm.dc, Dm.start, addAt, List.modify]
theorem end_table {pp : Pp} (hpb : pp.pb = p.pb) (he : pp.e = p.e) (hok : m.ok pool) (hns : ∀ i, i < 21 → m.ns i ≤ s.pos) {x : Int} {s2 : Ps} {r : (Tab × List (List Tk)) × Ps} (hr : tableP p.e s2 = r) (hle : s.pos + 1 ≤ r.2.pos) {q : Tq} (hq : q.tq.map Prod.fst = r.1.2)
    (H : HS w (dA pp r.2 (pushN (pushN (m.start 0 x).ns 0) 16) (pushC (pushC (m.start 0 x).cs 0 (tabC r.1.1.name q.cv r.1.1.erase r.1.1.retain).toList) 16 [q.ov]) pool :: (q.parts r.1.1 ++ (allA m.tparts :: allA m.vparts :: allA m.bparts :: l)))) :
    DInv p l w (kindP p.e 0 s2 { m.dc with starts := addAt m.dc.starts 0 x }).2 (kindP p.e 0 s2 { m.dc with starts := addAt m.dc.starts 0 x }).1 := by
  subst hr
  rw [← dc_start (by decide)]
  refine ⟨pp, (m.start 0 x).addT ((tableP p.e s2).1.1, (tableP p.e s2).1.2, q), pool, hpb, he, by simp [kindP, Dm.dc, Dm.addT], ⟨fun y hy => ?_, hok.v⟩, fun i hi => Nat.le_trans (both_table hns i hi) hle, ?_⟩
  · rcases List.mem_append.1 hy with hy | hy
    · exact hok.t y hy
    · rw [List.mem_singleton] at hy
      subst hy
      exact hq
  · have H2 := HS.congr H (Dm.addT_rows (m := m.start 0 x) ((tableP p.e s2).1.1, (tableP p.e s2).1.2, q))
    have H3 := allA_app (n := q.parts (tableP p.e s2).1.1) (m := m.tparts) (l := allA m.vparts :: allA m.bparts :: dA pp (tableP p.e s2).2 ((m.start 0 x).addT ((tableP p.e s2).1.1, (tableP p.e s2).1.2, q)).ns ((m.start 0 x).addT ((tableP p.e s2).1.1, (tableP p.e s2).1.2, q)).cs pool :: l) (H2.sub (by unfold Tq.parts; dsimp only [List.cons_append, List.nil_append]; exact pkQ))
    have e1 : m.tparts ++ q.parts (tableP p.e s2).1.1 = ((m.start 0 x).addT ((tableP p.e s2).1.1, (tableP p.e s2).1.2, q)).tparts := by simp [Dm.tparts, Dm.addT, Dm.start]
    rw [e1] at H3
    have H4 := H3.sub (l' := dA pp (tableP p.e s2).2 ((m.start 0 x).addT ((tableP p.e s2).1.1, (tableP p.e s2).1.2, q)).ns ((m.start 0 x).addT ((tableP p.e s2).1.1, (tableP p.e s2).1.2, q)).cs pool :: allA ((m.start 0 x).addT ((tableP p.e s2).1.1, (tableP p.e s2).1.2, q)).tparts :: allA m.vparts :: allA m.bparts :: l) pkQ
    exact H4
theorem end_view {pp : Pp} (hpb : pp.pb = p.pb) (he : pp.e = p.e) (hok : m.ok pool) (hns : ∀ i, i < 21 → m.ns i ≤ s.pos) {x : Int} {s2 : Ps} {r : (Viw × Vn) × Ps} (hr : viewP p.e s2 = r) (hle : s.pos + 1 ≤ r.2.pos) {q : Vq} (hq : q.ok r.1.2 pool') (hpp : ∀ x ∈ pool, x ∈ pool')
    (H : HS w (dA pp r.2 (pushN (pushN (m.start 1 x).ns 1) 17) (pushC (pushC (m.start 1 x).cs 1 (vc0 r.1.1.name r.1.1.kind r.1.2.left.text r.1.2.right.text r.1.1.distinct q.itv q.agv).toList) 17 (nc0 r.1.2.left r.1.2.right q.onv q.nv q.nav q.c0 q.c1).toList) pool' :: (q.parts r.1.1 r.1.2 ++ (allA m.tparts :: allA m.vparts :: allA m.bparts :: l)))) :
    DInv p l w (kindP p.e 1 s2 { m.dc with starts := addAt m.dc.starts 1 x }).2 (kindP p.e 1 s2 { m.dc with starts := addAt m.dc.starts 1 x }).1 := by
  subst hr
  rw [← dc_start (by decide)]
  refine ⟨pp, (m.start 1 x).addV ((viewP p.e s2).1.1, (viewP p.e s2).1.2, q), pool', hpb, he, by simp [kindP, Dm.dc, Dm.addV], ⟨hok.t, fun y hy => ?_⟩, fun i hi => Nat.le_trans (both_view hns i hi) hle, ?_⟩
  · rcases List.mem_append.1 hy with hy | hy
    · exact (hok.more hpp).v y hy
    · rw [List.mem_singleton] at hy
      subst hy
      exact hq
  · have H2 := HS.congr H (Dm.addV_rows (m := m.start 1 x) ((viewP p.e s2).1.1, (viewP p.e s2).1.2, q))
    have H3 := allA_app (n := q.parts (viewP p.e s2).1.1 (viewP p.e s2).1.2) (m := m.vparts) (l := allA m.tparts :: allA m.bparts :: dA pp (viewP p.e s2).2 ((m.start 1 x).addV ((viewP p.e s2).1.1, (viewP p.e s2).1.2, q)).ns ((m.start 1 x).addV ((viewP p.e s2).1.1, (viewP p.e s2).1.2, q)).cs pool' :: l) (H2.sub (by unfold Vq.parts; dsimp only [List.cons_append, List.nil_append]; exact pkQ))
    have e1 : m.vparts ++ q.parts (viewP p.e s2).1.1 (viewP p.e s2).1.2 = ((m.start 1 x).addV ((viewP p.e s2).1.1, (viewP p.e s2).1.2, q)).vparts := by simp [Dm.vparts, Dm.addV, Dm.start]
    rw [e1] at H3
    have H4 := H3.sub (l' := dA pp (viewP p.e s2).2 ((m.start 1 x).addV ((viewP p.e s2).1.1, (viewP p.e s2).1.2, q)).ns ((m.start 1 x).addV ((viewP p.e s2).1.1, (viewP p.e s2).1.2, q)).cs pool' :: allA m.tparts :: allA ((m.start 1 x).addV ((viewP p.e s2).1.1, (viewP p.e s2).1.2, q)).vparts :: allA m.bparts :: l) pkQ
    exact H4
theorem end_index {pp : Pp} (hpb : pp.pb = p.pb) (he : pp.e = p.e) (hok : m.ok pool) (hns : ∀ i, i < 21 → m.ns i ≤ s.pos) {x : Int} {s2 : Ps} (hle : s.pos + 1 ≤ (indexP p.e s2).2.pos)
    (H : HS w (dA pp (indexP p.e s2).2 (pushN (pushN (m.start 2 x).ns 2) 18) (pushC (pushC (m.start 2 x).cs 2 (idxC ((⟨(indexP p.e s2).1.1, (indexP p.e s2).1.2.1.text, 0⟩, (indexP p.e s2).1.2) : Idx × (Tk × Tk)).1).toList) 18 (plC ((⟨(indexP p.e s2).1.1, (indexP p.e s2).1.2.1.text, 0⟩, (indexP p.e s2).1.2) : Idx × (Tk × Tk)).2).toList) pool :: allA m.tparts :: allA m.vparts :: allA m.bparts :: l)) :
    DInv p l w (kindP p.e 2 s2 { m.dc with starts := addAt m.dc.starts 2 x }).2 (kindP p.e 2 s2 { m.dc with starts := addAt m.dc.starts 2 x }).1 := by
  rw [← dc_start (by decide)]
  exact ⟨pp, (m.start 2 x).addI ((⟨(indexP p.e s2).1.1, (indexP p.e s2).1.2.1.text, 0⟩, (indexP p.e s2).1.2) : Idx × (Tk × Tk)), pool, hpb, he, by simp [kindP, indexP, Dm.dc, Dm.addI], ⟨hok.t, hok.v⟩, fun i hi => Nat.le_trans (both_index hns i hi) hle, HS.congr H (Dm.addI_rows (m := m.start 2 x) ((⟨(indexP p.e s2).1.1, (indexP p.e s2).1.2.1.text, 0⟩, (indexP p.e s2).1.2) : Idx × (Tk × Tk)))⟩
theorem end_sketch {pp : Pp} (hpb : pp.pb = p.pb) (he : pp.e = p.e) (hok : m.ok pool) (hns : ∀ i, i < 21 → m.ns i ≤ s.pos) {x : Int} {s2 : Ps} (hle : s.pos + 1 ≤ (sketchP p.e s2).2.pos)
    (H : HS w (dA pp (sketchP p.e s2).2 (pushN (pushN (m.start 3 x).ns 3) 19) (pushC (pushC (m.start 3 x).cs 3 (sktC ((⟨(sketchP p.e s2).1.1, (sketchP p.e s2).1.2.2.2.2.1.text, 0, ((findP wSketches (sketchP p.e s2).1.2.1).getD 0 : Nat), (sketchP p.e s2).1.2.2.1, (sketchP p.e s2).1.2.2.2.1⟩, (sketchP p.e s2).1.2.2.2.2) : Skt × (Tk × Tk)).1).toList) 19 (plC ((⟨(sketchP p.e s2).1.1, (sketchP p.e s2).1.2.2.2.2.1.text, 0, ((findP wSketches (sketchP p.e s2).1.2.1).getD 0 : Nat), (sketchP p.e s2).1.2.2.1, (sketchP p.e s2).1.2.2.2.1⟩, (sketchP p.e s2).1.2.2.2.2) : Skt × (Tk × Tk)).2).toList) pool :: allA m.tparts :: allA m.vparts :: allA m.bparts :: l)) :
    DInv p l w (kindP p.e 3 s2 { m.dc with starts := addAt m.dc.starts 3 x }).2 (kindP p.e 3 s2 { m.dc with starts := addAt m.dc.starts 3 x }).1 := by
  rw [← dc_start (by decide)]
  exact ⟨pp, (m.start 3 x).addS ((⟨(sketchP p.e s2).1.1, (sketchP p.e s2).1.2.2.2.2.1.text, 0, ((findP wSketches (sketchP p.e s2).1.2.1).getD 0 : Nat), (sketchP p.e s2).1.2.2.1, (sketchP p.e s2).1.2.2.2.1⟩, (sketchP p.e s2).1.2.2.2.2) : Skt × (Tk × Tk)), pool, hpb, he, by simp [kindP, sketchP, Dm.dc, Dm.addS], ⟨hok.t, hok.v⟩, fun i hi => Nat.le_trans (both_sketch hns i hi) hle, HS.congr H (Dm.addS_rows (m := m.start 3 x) ((⟨(sketchP p.e s2).1.1, (sketchP p.e s2).1.2.2.2.2.1.text, 0, ((findP wSketches (sketchP p.e s2).1.2.1).getD 0 : Nat), (sketchP p.e s2).1.2.2.1, (sketchP p.e s2).1.2.2.2.1⟩, (sketchP p.e s2).1.2.2.2.2) : Skt × (Tk × Tk)))⟩
theorem end_cache {pp : Pp} (hpb : pp.pb = p.pb) (he : pp.e = p.e) (hok : m.ok pool) (hns : ∀ i, i < 21 → m.ns i ≤ s.pos) {x : Int} {s2 : Ps} (hle : s.pos + 1 ≤ (cacheP p.e s2).2.pos)
    (H : HS w (dA pp (cacheP p.e s2).2 (pushN (pushN (m.start 4 x).ns 4) 20) (pushC (pushC (m.start 4 x).cs 4 (cchC ((⟨(cacheP p.e s2).1.1, (cacheP p.e s2).1.2.1.1.text, 0, (cacheP p.e s2).1.2.2⟩, (cacheP p.e s2).1.2.1) : Cch × (Tk × Tk)).1).toList) 20 (plC ((⟨(cacheP p.e s2).1.1, (cacheP p.e s2).1.2.1.1.text, 0, (cacheP p.e s2).1.2.2⟩, (cacheP p.e s2).1.2.1) : Cch × (Tk × Tk)).2).toList) pool :: allA m.tparts :: allA m.vparts :: allA m.bparts :: l)) :
    DInv p l w (kindP p.e 4 s2 { m.dc with starts := addAt m.dc.starts 4 x }).2 (kindP p.e 4 s2 { m.dc with starts := addAt m.dc.starts 4 x }).1 := by
  rw [← dc_start (by decide)]
  exact ⟨pp, (m.start 4 x).addC ((⟨(cacheP p.e s2).1.1, (cacheP p.e s2).1.2.1.1.text, 0, (cacheP p.e s2).1.2.2⟩, (cacheP p.e s2).1.2.1) : Cch × (Tk × Tk)), pool, hpb, he, by simp [kindP, cacheP, Dm.dc, Dm.addC], ⟨hok.t, hok.v⟩, fun i hi => Nat.le_trans (both_cache hns i hi) hle, HS.congr H (Dm.addC_rows (m := m.start 4 x) ((⟨(cacheP p.e s2).1.1, (cacheP p.e s2).1.2.1.1.text, 0, (cacheP p.e s2).1.2.2⟩, (cacheP p.e s2).1.2.1) : Cch × (Tk × Tk)))⟩
theorem end_release {pp : Pp} (hpb : pp.pb = p.pb) (he : pp.e = p.e) (hok : m.ok pool) (hns : ∀ i, i < 21 → m.ns i ≤ s.pos) {x : Int} {s2 : Ps} (hle : s.pos + 1 ≤ (releaseP p.e s2).2.pos)
    (H : HS w (dA pp (releaseP p.e s2).2 (pushN (m.start 5 x).ns 5) (pushC (m.start 5 x).cs 5 (rlsC (releaseP p.e s2).1).toList) pool :: allA m.tparts :: allA m.vparts :: allA m.bparts :: l)) :
    DInv p l w (kindP p.e 5 s2 { m.dc with starts := addAt m.dc.starts 5 x }).2 (kindP p.e 5 s2 { m.dc with starts := addAt m.dc.starts 5 x }).1 := by
  rw [← dc_start (by decide)]
  exact ⟨pp, (m.start 5 x).addR (releaseP p.e s2).1, pool, hpb, he, by simp [kindP, releaseP, Dm.dc, Dm.addR], ⟨hok.t, hok.v⟩, fun i hi => Nat.le_trans (both_release hns i hi) hle, HS.congr H (Dm.addR_rows (m := m.start 5 x) (releaseP p.e s2).1)⟩
theorem end_stream {pp : Pp} (hpb : pp.pb = p.pb) (he : pp.e = p.e) (hok : m.ok pool) (hns : ∀ i, i < 21 → m.ns i ≤ s.pos) {x : Int} {s2 : Ps} (hle : s.pos + 1 ≤ (streamP p.e s2).2.pos)
    (H : HS w (dA pp (streamP p.e s2).2 (pushN (m.start 6 x).ns 6) (pushC (m.start 6 x).cs 6 (stmC (streamP p.e s2).1).toList) pool :: allA m.tparts :: allA m.vparts :: allA m.bparts :: l)) :
    DInv p l w (kindP p.e 6 s2 { m.dc with starts := addAt m.dc.starts 6 x }).2 (kindP p.e 6 s2 { m.dc with starts := addAt m.dc.starts 6 x }).1 := by
  rw [← dc_start (by decide)]
  exact ⟨pp, (m.start 6 x).addM (streamP p.e s2).1, pool, hpb, he, by simp [kindP, streamP, Dm.dc, Dm.addM], ⟨hok.t, hok.v⟩, fun i hi => Nat.le_trans (both_stream hns i hi) hle, HS.congr H (Dm.addM_rows (m := m.start 6 x) (streamP p.e s2).1)⟩
theorem end_backup {pp : Pp} (hpb : pp.pb = p.pb) (he : pp.e = p.e) (hok : m.ok pool) (hns : ∀ i, i < 21 → m.ns i ≤ s.pos) {x : Int} {s2 : Ps} (hle : s.pos + 1 ≤ (backupP p.e s2).2.pos) {v : Value}
    (H : HS w (dA pp (backupP p.e s2).2 (pushN (m.start 7 x).ns 7) (pushC (m.start 7 x).cs 7 (bkpC (backupP p.e s2).1.name v (backupP p.e s2).1.keep).toList) pool :: rowA 9 1 v (backupP p.e s2).1.tables.length ((backupP p.e s2).1.tables.map strV) :: allA m.tparts :: allA m.vparts :: allA m.bparts :: l)) :
    DInv p l w (kindP p.e 7 s2 { m.dc with starts := addAt m.dc.starts 7 x }).2 (kindP p.e 7 s2 { m.dc with starts := addAt m.dc.starts 7 x }).1 := by
  rw [← dc_start (by decide)]
  refine ⟨pp, (m.start 7 x).addB ((backupP p.e s2).1, v), pool, hpb, he, by simp [kindP, backupP, Dm.dc, Dm.addB], ⟨hok.t, hok.v⟩, fun i hi => Nat.le_trans (both_backup hns i hi) hle, ?_⟩
  have H2 := HS.congr H (Dm.addB_rows (m := m.start 7 x) ((backupP p.e s2).1, v))
  have H3 := allA_snoc (A := bkA ((backupP p.e s2).1, v)) (m := m.bparts) (l := allA m.tparts :: allA m.vparts :: dA pp (backupP p.e s2).2 ((m.start 7 x).addB ((backupP p.e s2).1, v)).ns ((m.start 7 x).addB ((backupP p.e s2).1, v)).cs pool :: l) (H2.sub (by unfold bkA; exact pkQ))
  have e1 : m.bparts ++ [bkA ((backupP p.e s2).1, v)] = ((m.start 7 x).addB ((backupP p.e s2).1, v)).bparts := by simp [Dm.bparts, Dm.addB, Dm.start]
  rw [e1] at H3
  have H4 := H3.sub (l' := dA pp (backupP p.e s2).2 ((m.start 7 x).addB ((backupP p.e s2).1, v)).ns ((m.start 7 x).addB ((backupP p.e s2).1, v)).cs pool :: allA m.tparts :: allA m.vparts :: allA ((m.start 7 x).addB ((backupP p.e s2).1, v)).bparts :: l) pkQ
  exact H4
theorem kind_none {wd : Bs} (h0 : ¬ wd = [116, 97, 98, 108, 101]) (h1 : ¬ wd = [118, 105, 101, 119]) (h2 : ¬ wd = [105, 110, 100, 101, 120]) (h3 : ¬ wd = [115, 107, 101, 116, 99, 104]) (h4 : ¬ wd = [99, 97, 99, 104, 101]) (h5 : ¬ wd = [114, 101, 108, 101, 97, 115, 101]) (h6 : ¬ wd = [115, 116, 114, 101, 97, 109]) (h7 : ¬ wd = [98, 97, 99, 107, 117, 112]) : findP wKinds wd = none := by
  unfold findP wKinds
  simp [Ne.symm h0, Ne.symm h1, Ne.symm h2, Ne.symm h3, Ne.symm h4, Ne.symm h5, Ne.symm h6, Ne.symm h7]
theorem declaration_s (hN : p.e.okN) (hok : m.ok pool) (hns : ∀ i, i < 21 → m.ns i ≤ s.pos) (hlt : s.pos < p.e.toks.length) (H : HS w (mA p s m pool l)) :
    Calls Tryz.prog 87 #[.pointer (some ⟨p.pb, 0, none⟩)] w fun e w' => e = .returned (.tuple #[]) ∧ DInv p l w' (declP p.e s m.dc).2 (declP p.e s m.dc).1 := by
  unfold mA at H
  obtain ⟨rv, P, -⟩ := H.ps pkQ
  have hfew := P.few
  have hok0 := P.ok
  obtain ⟨⟨c0, c1, -, -, -, -⟩, -⟩ := P.cells
  obtain ⟨b, off, t, hA, hb, ht, q0, q1, q2, q3⟩ := P.tok hlt
  rw [hA] at c0
  obtain ⟨R, hR⟩ : ∃ R, declP p.e s m.dc = R := ⟨_, rfl⟩
  rw [hR]
  unfold declP at hR
  rw [show (p.e.toks.getD s.pos Tk.zero).pos = t.pos by rw [List.getD_eq_getElem?_getD, ht]; rfl] at hR
  have hx := expect_lt (e := p.e) (s := s) (ws := wKinds) hlt
  have hx2 := (fwd_expect (e := p.e) (s := s) wKinds hok0).2
  have h1 := fun w1 l1 l2 (H : HS w1 l1) (hp : Pick l1 (dA p s m.ns m.cs pool) l2) => exp8_s H hp [116, 97, 98, 108, 101] [118, 105, 101, 119] [105, 110, 100, 101, 120] [115, 107, 101, 116, 99, 104] [99, 97, 99, 104, 101] [114, 101, 108, 101, 97, 115, 101] [115, 116, 114, 101, 97, 109] [98, 97, 99, 107, 117, 112]
  rw [show wKinds = [[116, 97, 98, 108, 101], [118, 105, 101, 119], [105, 110, 100, 101, 120], [115, 107, 101, 116, 99, 104], [99, 97, 99, 104, 101], [114, 101, 108, 101, 97, 115, 101], [115, 116, 114, 101, 97, 109], [98, 97, 99, 107, 117, 112]] from rfl] at hR hx hx2
  generalize expectP p.e s [[116, 97, 98, 108, 101], [118, 105, 101, 119], [105, 110, 100, 101, 120], [115, 107, 101, 116, 99, 104], [99, 97, 99, 104, 101], [114, 101, 108, 101, 97, 115, 101], [115, 116, 114, 101, 97, 109], [98, 97, 99, 107, 117, 112]] = q at h1 hR hx hx2
  obtain ⟨wd, s2⟩ := q
  unfold PartPost at h1
  dsimp only at h1 hR hx hx2
  have HR := Lib.hid hR
  have HT := Lib.hid ht
  have h0 : (0 : Int) ≤ (s.pos : Int) := by omega
  have h2 : (s.pos : Int) < (p.e.toks.length : Int) := by omega
  clear hR ht hA q0 q1 q2
  go_enter Tryz.func87, Tryz.ntmps87
  go_upto_region 0 with fail
  go_quiet (fail)
  generalize hw : World.drewN w _ = w1
  have H1 : HS w1 (dA p s m.ns m.cs pool :: allA m.tparts :: allA m.vparts :: allA m.bparts :: l) := by rw [← hw]; exact H.drewN _
  clear P hw H c0 c1 q3
  go_upto_block 0 with (go_at_call 88; (with_reducible refine (h1 _ _ _ H1 pkQ).mono ?_); rintro e w2 ⟨rfl, H2⟩)
  by_cases e0 : wd = [116, 97, 98, 108, 101]
  · subst e0
    have hR := HR.out
    rw [show findP [[116, 97, 98, 108, 101], [118, 105, 101, 119], [105, 110, 100, 101, 120], [115, 107, 101, 116, 99, 104], [99, 97, 99, 104, 101], [114, 101, 108, 101, 97, 115, 101], [115, 116, 114, 101, 97, 109], [98, 97, 99, 107, 117, 112]] [116, 97, 98, 108, 101] = some 0 by decide] at hR
    dsimp only at hR
    subst hR
    clear HR
    obtain ⟨Av, cv, hv, c7, f7, lp, -⟩ := H2.rcell (i := 8) pkQ (by decide)
    have c7' : w2.cell? ⟨p.pb, 14, none⟩ = some (.slice Av (m.ns 8) cv) := c7
    have HV := Lib.hid hv
    clear hv c7 f7
    have hle := hns 8 (by decide)
    have Hd := H2.drew.alloc #[.int .i64 t.pos] 3
    have own7 : (w2.drew.alloc (.cells #[.int .i64 t.pos] 3)).ownsRow (p.pb + 1) 3 1 (.slice Av (m.ns 8) cv) (m.ns 8) (m.cs 8) := Hd.rown pkQ (i := 8) (by decide) HV.out
    go_upto_region 3 with fail
    (refine wp_region_G 12 (fun w' => w'.cell? ⟨p.pb, 14, none⟩ = some (.slice Av (m.ns 8) cv)) (by kernel_rfl) ?_ (fun hHeld => ?_); (focus (try dsimp only); go_keep))
    (refine GG.k 0 ?_; refine GG.k 1 ?_; refine GG.k 2 ?_; refine GG.k 3 ?_; refine GG.k 4 ?_; refine GG.k 5 ?_; refine GG.k 6 ?_; refine GG.k 9 ?_; refine GG.k 10 ?_)
    (refine GG.o 7 (fun K hK => ?_); go_simp; refine hK.out _ _ ?_ (fun hHeld => ?_); (focus (try dsimp only); go_keep); clear hK K; (try simp only [Act.put, qqa, qqb, qqc]))
    (refine GG.o 8 (fun K hK => ?_); (refine step_app3 (v := .slice Av (m.ns 8) cv) (by rfl) _ _ stInt (by rfl) (by rfl) own7 (by rfl) (news := [.int .i64 t.pos]) (by rfl) (litRd (heap_alloc_new _ _)) (fun h => by cases h) (by intro u hu; simp at hu; (repeat' (rcases hu with rfl | hu)); all_goals (first | rfl | (subst hu; rfl))) (by omega) (by first | exact Nat.zero_le _ | omega | (simp; omega)) ?_; intro vA wA ownA gA atA; have hAf := Hd.after pkQ (i := 8) (by decide) HV.out gA; obtain ⟨a7, g7, la⟩ := hAf; have a7' : wA.cell? ⟨p.pb, 14, none⟩ = some (.slice Av (m.ns 8) cv) := a7; have g7' : wA.frozen? ⟨p.pb, 14, none⟩ = false := g7; clear a7 g7; obtain ⟨AB, cB, rfl, -, -⟩ := own_slice ownA); refine hK.out _ _ ?_ (fun hHeld => ?_); (focus (try dsimp only); go_keep); clear hK K; (try simp only [Act.put, qqa, qqb, qqc]))
    (refine GG.k 11 ?_)
    (refine GG.l (fun K hK => ?_); go_simp; refine hK.out _ _ ?_; clear hK K)
    have HP : HS (wA.setCell ⟨p.pb, 14, none⟩ (.slice AB (m.ns 8 + 1) cB)) _ := Hd.push (new := [.int .i64 t.pos]) pkQ (i := 8) (by decide) HV.out ownA gA atA
    generalize World.setCell _ _ _ = w3 at HP ⊢
    have HP2 := (HS.congr HP (Dm.start_rows (k := 0) (by decide) t.pos)).sub (l' := dA (p.withRow 8 (.slice AB (m.ns 8 + 1) cB)) s2 (m.start 0 t.pos).ns (m.start 0 t.pos).cs pool :: allA m.tparts :: allA m.vparts :: allA m.bparts :: l) pkQ
    have hle2 := start_le (k := 0) (x := t.pos) (by decide) hns
    have hl0 : (m.start 0 t.pos).ns 0 ≤ 100000 := by have := hle2 0 (by decide); omega
    have hl16 : (m.start 0 t.pos).ns 16 ≤ 100000 := by have := hle2 16 (by decide); omega
    have hF := table_s (p := p.withRow 8 (.slice AB (m.ns 8 + 1) cB)) hN hl0 hl16 HP2
    have hfw := (fwd_table (e := p.e) (s := s2) hx2).1
    unfold TabPost at hF
    have hF2 : Calls Tryz.prog 134 #[.pointer (some ⟨p.pb, 0, none⟩)] w3 _ := hF
    clear hF HP HP2 Hd own7 ownA gA atA a7' g7' c7' la lp HV hle hHeld H2 H1 h1
    go_wp2_with (go_at_call 134; (with_reducible refine hF2.mono ?_); rintro e w4 ⟨rfl, q, v1, v2, hq, H4⟩)
    go_end0
    exact ⟨rfl, end_table (p := p) (pp := ((p.withRow 8 (.slice AB (m.ns 8 + 1) cB)).withRow 0 v1).withRow 16 v2) rfl rfl hok hns rfl (by omega) hq H4⟩
  have bb0 : (wd == [116, 97, 98, 108, 101]) = false := by simpa using e0
  by_cases e1 : wd = [118, 105, 101, 119]
  · subst e1
    have hR := HR.out
    rw [show findP [[116, 97, 98, 108, 101], [118, 105, 101, 119], [105, 110, 100, 101, 120], [115, 107, 101, 116, 99, 104], [99, 97, 99, 104, 101], [114, 101, 108, 101, 97, 115, 101], [115, 116, 114, 101, 97, 109], [98, 97, 99, 107, 117, 112]] [118, 105, 101, 119] = some 1 by decide] at hR
    dsimp only at hR
    subst hR
    clear HR
    obtain ⟨Av, cv, hv, c7, f7, lp, -⟩ := H2.rcell (i := 9) pkQ (by decide)
    have c7' : w2.cell? ⟨p.pb, 15, none⟩ = some (.slice Av (m.ns 9) cv) := c7
    have HV := Lib.hid hv
    clear hv c7 f7
    have hle := hns 9 (by decide)
    have Hd := H2.drew.alloc #[.int .i64 t.pos] 3
    have own7 : (w2.drew.alloc (.cells #[.int .i64 t.pos] 3)).ownsRow (p.pb + 1) 3 1 (.slice Av (m.ns 9) cv) (m.ns 9) (m.cs 9) := Hd.rown pkQ (i := 9) (by decide) HV.out
    go_upto_region 6 with fail
    (refine wp_region_G 12 (fun w' => w'.cell? ⟨p.pb, 15, none⟩ = some (.slice Av (m.ns 9) cv)) (by kernel_rfl) ?_ (fun hHeld => ?_); (focus (try dsimp only); go_keep))
    (refine GG.k 0 ?_; refine GG.k 1 ?_; refine GG.k 2 ?_; refine GG.k 3 ?_; refine GG.k 4 ?_; refine GG.k 5 ?_; refine GG.k 6 ?_; refine GG.k 9 ?_; refine GG.k 10 ?_)
    (refine GG.o 7 (fun K hK => ?_); go_simp; refine hK.out _ _ ?_ (fun hHeld => ?_); (focus (try dsimp only); go_keep); clear hK K; (try simp only [Act.put, qqa, qqb, qqc]))
    (refine GG.o 8 (fun K hK => ?_); (refine step_app3 (v := .slice Av (m.ns 9) cv) (by rfl) _ _ stInt (by rfl) (by rfl) own7 (by rfl) (news := [.int .i64 t.pos]) (by rfl) (litRd (heap_alloc_new _ _)) (fun h => by cases h) (by intro u hu; simp at hu; (repeat' (rcases hu with rfl | hu)); all_goals (first | rfl | (subst hu; rfl))) (by omega) (by first | exact Nat.zero_le _ | omega | (simp; omega)) ?_; intro vA wA ownA gA atA; have hAf := Hd.after pkQ (i := 9) (by decide) HV.out gA; obtain ⟨a7, g7, la⟩ := hAf; have a7' : wA.cell? ⟨p.pb, 15, none⟩ = some (.slice Av (m.ns 9) cv) := a7; have g7' : wA.frozen? ⟨p.pb, 15, none⟩ = false := g7; clear a7 g7; obtain ⟨AB, cB, rfl, -, -⟩ := own_slice ownA); refine hK.out _ _ ?_ (fun hHeld => ?_); (focus (try dsimp only); go_keep); clear hK K; (try simp only [Act.put, qqa, qqb, qqc]))
    (refine GG.k 11 ?_)
    (refine GG.l (fun K hK => ?_); go_simp; refine hK.out _ _ ?_; clear hK K)
    have HP : HS (wA.setCell ⟨p.pb, 15, none⟩ (.slice AB (m.ns 9 + 1) cB)) _ := Hd.push (new := [.int .i64 t.pos]) pkQ (i := 9) (by decide) HV.out ownA gA atA
    generalize World.setCell _ _ _ = w3 at HP ⊢
    have HP2 := (HS.congr HP (Dm.start_rows (k := 1) (by decide) t.pos)).sub (l' := dA (p.withRow 9 (.slice AB (m.ns 9 + 1) cB)) s2 (m.start 1 t.pos).ns (m.start 1 t.pos).cs pool :: allA m.tparts :: allA m.vparts :: allA m.bparts :: l) pkQ
    have hle2 := start_le (k := 1) (x := t.pos) (by decide) hns
    have hl1 : (m.start 1 t.pos).ns 1 ≤ 100000 := by have := hle2 1 (by decide); omega
    have hl17 : (m.start 1 t.pos).ns 17 ≤ 100000 := by have := hle2 17 (by decide); omega
    have hF := view_s (p := p.withRow 9 (.slice AB (m.ns 9 + 1) cB)) hN hl1 hl17 HP2
    have hfw := (fwd_view (e := p.e) (s := s2) hx2).1
    unfold ViewPost at hF
    have hF2 : Calls Tryz.prog 135 #[.pointer (some ⟨p.pb, 0, none⟩)] w3 _ := hF
    clear hF HP HP2 Hd own7 ownA gA atA a7' g7' c7' la lp HV hle hHeld H2 H1 h1
    go_wp2_with (go_at_call 135; (with_reducible refine hF2.mono ?_); rintro e w4 ⟨rfl, pool2, q, v1, v2, H4, hq, hpp⟩)
    go_end0
    exact ⟨rfl, end_view (p := p) (pp := ((p.withRow 9 (.slice AB (m.ns 9 + 1) cB)).withRow 1 v1).withRow 17 v2) rfl rfl hok hns rfl (by omega) hq hpp H4⟩
  have bb1 : (wd == [118, 105, 101, 119]) = false := by simpa using e1
  by_cases e2 : wd = [105, 110, 100, 101, 120]
  · subst e2
    have hR := HR.out
    rw [show findP [[116, 97, 98, 108, 101], [118, 105, 101, 119], [105, 110, 100, 101, 120], [115, 107, 101, 116, 99, 104], [99, 97, 99, 104, 101], [114, 101, 108, 101, 97, 115, 101], [115, 116, 114, 101, 97, 109], [98, 97, 99, 107, 117, 112]] [105, 110, 100, 101, 120] = some 2 by decide] at hR
    dsimp only at hR
    subst hR
    clear HR
    obtain ⟨Av, cv, hv, c7, f7, lp, -⟩ := H2.rcell (i := 10) pkQ (by decide)
    have c7' : w2.cell? ⟨p.pb, 16, none⟩ = some (.slice Av (m.ns 10) cv) := c7
    have HV := Lib.hid hv
    clear hv c7 f7
    have hle := hns 10 (by decide)
    have Hd := H2.drew.alloc #[.int .i64 t.pos] 3
    have own7 : (w2.drew.alloc (.cells #[.int .i64 t.pos] 3)).ownsRow (p.pb + 1) 3 1 (.slice Av (m.ns 10) cv) (m.ns 10) (m.cs 10) := Hd.rown pkQ (i := 10) (by decide) HV.out
    go_upto_region 9 with fail
    (refine wp_region_G 12 (fun w' => w'.cell? ⟨p.pb, 16, none⟩ = some (.slice Av (m.ns 10) cv)) (by kernel_rfl) ?_ (fun hHeld => ?_); (focus (try dsimp only); go_keep))
    (refine GG.k 0 ?_; refine GG.k 1 ?_; refine GG.k 2 ?_; refine GG.k 3 ?_; refine GG.k 4 ?_; refine GG.k 5 ?_; refine GG.k 6 ?_; refine GG.k 9 ?_; refine GG.k 10 ?_)
    (refine GG.o 7 (fun K hK => ?_); go_simp; refine hK.out _ _ ?_ (fun hHeld => ?_); (focus (try dsimp only); go_keep); clear hK K; (try simp only [Act.put, qqa, qqb, qqc]))
    (refine GG.o 8 (fun K hK => ?_); (refine step_app3 (v := .slice Av (m.ns 10) cv) (by rfl) _ _ stInt (by rfl) (by rfl) own7 (by rfl) (news := [.int .i64 t.pos]) (by rfl) (litRd (heap_alloc_new _ _)) (fun h => by cases h) (by intro u hu; simp at hu; (repeat' (rcases hu with rfl | hu)); all_goals (first | rfl | (subst hu; rfl))) (by omega) (by first | exact Nat.zero_le _ | omega | (simp; omega)) ?_; intro vA wA ownA gA atA; have hAf := Hd.after pkQ (i := 10) (by decide) HV.out gA; obtain ⟨a7, g7, la⟩ := hAf; have a7' : wA.cell? ⟨p.pb, 16, none⟩ = some (.slice Av (m.ns 10) cv) := a7; have g7' : wA.frozen? ⟨p.pb, 16, none⟩ = false := g7; clear a7 g7; obtain ⟨AB, cB, rfl, -, -⟩ := own_slice ownA); refine hK.out _ _ ?_ (fun hHeld => ?_); (focus (try dsimp only); go_keep); clear hK K; (try simp only [Act.put, qqa, qqb, qqc]))
    (refine GG.k 11 ?_)
    (refine GG.l (fun K hK => ?_); go_simp; refine hK.out _ _ ?_; clear hK K)
    have HP : HS (wA.setCell ⟨p.pb, 16, none⟩ (.slice AB (m.ns 10 + 1) cB)) _ := Hd.push (new := [.int .i64 t.pos]) pkQ (i := 10) (by decide) HV.out ownA gA atA
    generalize World.setCell _ _ _ = w3 at HP ⊢
    have HP2 := (HS.congr HP (Dm.start_rows (k := 2) (by decide) t.pos)).sub (l' := dA (p.withRow 10 (.slice AB (m.ns 10 + 1) cB)) s2 (m.start 2 t.pos).ns (m.start 2 t.pos).cs pool :: allA m.tparts :: allA m.vparts :: allA m.bparts :: l) pkQ
    have hle2 := start_le (k := 2) (x := t.pos) (by decide) hns
    have hl2 : (m.start 2 t.pos).ns 2 ≤ 100000 := by have := hle2 2 (by decide); omega
    have hl18 : (m.start 2 t.pos).ns 18 ≤ 100000 := by have := hle2 18 (by decide); omega
    have hF := index_s (p := p.withRow 10 (.slice AB (m.ns 10 + 1) cB)) hN hl2 hl18 HP2
    have hfw := (fwd_index (e := p.e) (s := s2) hx2).1
    have hF2 : Calls Tryz.prog 136 #[.pointer (some ⟨p.pb, 0, none⟩)] w3 _ := hF
    clear hF HP HP2 Hd own7 ownA gA atA a7' g7' c7' la lp HV hle hHeld H2 H1 h1
    go_wp2_with (go_at_call 136; (with_reducible refine hF2.mono ?_); rintro e w4 ⟨rfl, v1, v2, H4⟩)
    go_end0
    exact ⟨rfl, end_index (p := p) (pp := ((p.withRow 10 (.slice AB (m.ns 10 + 1) cB)).withRow 2 v1).withRow 18 v2) rfl rfl hok hns (by omega) H4⟩
  have bb2 : (wd == [105, 110, 100, 101, 120]) = false := by simpa using e2
  by_cases e3 : wd = [115, 107, 101, 116, 99, 104]
  · subst e3
    have hR := HR.out
    rw [show findP [[116, 97, 98, 108, 101], [118, 105, 101, 119], [105, 110, 100, 101, 120], [115, 107, 101, 116, 99, 104], [99, 97, 99, 104, 101], [114, 101, 108, 101, 97, 115, 101], [115, 116, 114, 101, 97, 109], [98, 97, 99, 107, 117, 112]] [115, 107, 101, 116, 99, 104] = some 3 by decide] at hR
    dsimp only at hR
    subst hR
    clear HR
    obtain ⟨Av, cv, hv, c7, f7, lp, -⟩ := H2.rcell (i := 11) pkQ (by decide)
    have c7' : w2.cell? ⟨p.pb, 17, none⟩ = some (.slice Av (m.ns 11) cv) := c7
    have HV := Lib.hid hv
    clear hv c7 f7
    have hle := hns 11 (by decide)
    have Hd := H2.drew.alloc #[.int .i64 t.pos] 3
    have own7 : (w2.drew.alloc (.cells #[.int .i64 t.pos] 3)).ownsRow (p.pb + 1) 3 1 (.slice Av (m.ns 11) cv) (m.ns 11) (m.cs 11) := Hd.rown pkQ (i := 11) (by decide) HV.out
    go_upto_region 12 with fail
    (refine wp_region_G 12 (fun w' => w'.cell? ⟨p.pb, 17, none⟩ = some (.slice Av (m.ns 11) cv)) (by kernel_rfl) ?_ (fun hHeld => ?_); (focus (try dsimp only); go_keep))
    (refine GG.k 0 ?_; refine GG.k 1 ?_; refine GG.k 2 ?_; refine GG.k 3 ?_; refine GG.k 4 ?_; refine GG.k 5 ?_; refine GG.k 6 ?_; refine GG.k 9 ?_; refine GG.k 10 ?_)
    (refine GG.o 7 (fun K hK => ?_); go_simp; refine hK.out _ _ ?_ (fun hHeld => ?_); (focus (try dsimp only); go_keep); clear hK K; (try simp only [Act.put, qqa, qqb, qqc]))
    (refine GG.o 8 (fun K hK => ?_); (refine step_app3 (v := .slice Av (m.ns 11) cv) (by rfl) _ _ stInt (by rfl) (by rfl) own7 (by rfl) (news := [.int .i64 t.pos]) (by rfl) (litRd (heap_alloc_new _ _)) (fun h => by cases h) (by intro u hu; simp at hu; (repeat' (rcases hu with rfl | hu)); all_goals (first | rfl | (subst hu; rfl))) (by omega) (by first | exact Nat.zero_le _ | omega | (simp; omega)) ?_; intro vA wA ownA gA atA; have hAf := Hd.after pkQ (i := 11) (by decide) HV.out gA; obtain ⟨a7, g7, la⟩ := hAf; have a7' : wA.cell? ⟨p.pb, 17, none⟩ = some (.slice Av (m.ns 11) cv) := a7; have g7' : wA.frozen? ⟨p.pb, 17, none⟩ = false := g7; clear a7 g7; obtain ⟨AB, cB, rfl, -, -⟩ := own_slice ownA); refine hK.out _ _ ?_ (fun hHeld => ?_); (focus (try dsimp only); go_keep); clear hK K; (try simp only [Act.put, qqa, qqb, qqc]))
    (refine GG.k 11 ?_)
    (refine GG.l (fun K hK => ?_); go_simp; refine hK.out _ _ ?_; clear hK K)
    have HP : HS (wA.setCell ⟨p.pb, 17, none⟩ (.slice AB (m.ns 11 + 1) cB)) _ := Hd.push (new := [.int .i64 t.pos]) pkQ (i := 11) (by decide) HV.out ownA gA atA
    generalize World.setCell _ _ _ = w3 at HP ⊢
    have HP2 := (HS.congr HP (Dm.start_rows (k := 3) (by decide) t.pos)).sub (l' := dA (p.withRow 11 (.slice AB (m.ns 11 + 1) cB)) s2 (m.start 3 t.pos).ns (m.start 3 t.pos).cs pool :: allA m.tparts :: allA m.vparts :: allA m.bparts :: l) pkQ
    have hle2 := start_le (k := 3) (x := t.pos) (by decide) hns
    have hl3 : (m.start 3 t.pos).ns 3 ≤ 100000 := by have := hle2 3 (by decide); omega
    have hl19 : (m.start 3 t.pos).ns 19 ≤ 100000 := by have := hle2 19 (by decide); omega
    have hF := sketch_s (p := p.withRow 11 (.slice AB (m.ns 11 + 1) cB)) hN hl3 hl19 HP2
    have hfw := (fwd_sketch (e := p.e) (s := s2) hx2).1
    have hF2 : Calls Tryz.prog 137 #[.pointer (some ⟨p.pb, 0, none⟩)] w3 _ := hF
    clear hF HP HP2 Hd own7 ownA gA atA a7' g7' c7' la lp HV hle hHeld H2 H1 h1
    go_wp2_with (go_at_call 137; (with_reducible refine hF2.mono ?_); rintro e w4 ⟨rfl, v1, v2, H4⟩)
    go_end0
    exact ⟨rfl, end_sketch (p := p) (pp := ((p.withRow 11 (.slice AB (m.ns 11 + 1) cB)).withRow 3 v1).withRow 19 v2) rfl rfl hok hns (by omega) H4⟩
  have bb3 : (wd == [115, 107, 101, 116, 99, 104]) = false := by simpa using e3
  by_cases e4 : wd = [99, 97, 99, 104, 101]
  · subst e4
    have hR := HR.out
    rw [show findP [[116, 97, 98, 108, 101], [118, 105, 101, 119], [105, 110, 100, 101, 120], [115, 107, 101, 116, 99, 104], [99, 97, 99, 104, 101], [114, 101, 108, 101, 97, 115, 101], [115, 116, 114, 101, 97, 109], [98, 97, 99, 107, 117, 112]] [99, 97, 99, 104, 101] = some 4 by decide] at hR
    dsimp only at hR
    subst hR
    clear HR
    obtain ⟨Av, cv, hv, c7, f7, lp, -⟩ := H2.rcell (i := 12) pkQ (by decide)
    have c7' : w2.cell? ⟨p.pb, 18, none⟩ = some (.slice Av (m.ns 12) cv) := c7
    have HV := Lib.hid hv
    clear hv c7 f7
    have hle := hns 12 (by decide)
    have Hd := H2.drew.alloc #[.int .i64 t.pos] 3
    have own7 : (w2.drew.alloc (.cells #[.int .i64 t.pos] 3)).ownsRow (p.pb + 1) 3 1 (.slice Av (m.ns 12) cv) (m.ns 12) (m.cs 12) := Hd.rown pkQ (i := 12) (by decide) HV.out
    go_upto_region 15 with fail
    (refine wp_region_G 12 (fun w' => w'.cell? ⟨p.pb, 18, none⟩ = some (.slice Av (m.ns 12) cv)) (by kernel_rfl) ?_ (fun hHeld => ?_); (focus (try dsimp only); go_keep))
    (refine GG.k 0 ?_; refine GG.k 1 ?_; refine GG.k 2 ?_; refine GG.k 3 ?_; refine GG.k 4 ?_; refine GG.k 5 ?_; refine GG.k 6 ?_; refine GG.k 9 ?_; refine GG.k 10 ?_)
    (refine GG.o 7 (fun K hK => ?_); go_simp; refine hK.out _ _ ?_ (fun hHeld => ?_); (focus (try dsimp only); go_keep); clear hK K; (try simp only [Act.put, qqa, qqb, qqc]))
    (refine GG.o 8 (fun K hK => ?_); (refine step_app3 (v := .slice Av (m.ns 12) cv) (by rfl) _ _ stInt (by rfl) (by rfl) own7 (by rfl) (news := [.int .i64 t.pos]) (by rfl) (litRd (heap_alloc_new _ _)) (fun h => by cases h) (by intro u hu; simp at hu; (repeat' (rcases hu with rfl | hu)); all_goals (first | rfl | (subst hu; rfl))) (by omega) (by first | exact Nat.zero_le _ | omega | (simp; omega)) ?_; intro vA wA ownA gA atA; have hAf := Hd.after pkQ (i := 12) (by decide) HV.out gA; obtain ⟨a7, g7, la⟩ := hAf; have a7' : wA.cell? ⟨p.pb, 18, none⟩ = some (.slice Av (m.ns 12) cv) := a7; have g7' : wA.frozen? ⟨p.pb, 18, none⟩ = false := g7; clear a7 g7; obtain ⟨AB, cB, rfl, -, -⟩ := own_slice ownA); refine hK.out _ _ ?_ (fun hHeld => ?_); (focus (try dsimp only); go_keep); clear hK K; (try simp only [Act.put, qqa, qqb, qqc]))
    (refine GG.k 11 ?_)
    (refine GG.l (fun K hK => ?_); go_simp; refine hK.out _ _ ?_; clear hK K)
    have HP : HS (wA.setCell ⟨p.pb, 18, none⟩ (.slice AB (m.ns 12 + 1) cB)) _ := Hd.push (new := [.int .i64 t.pos]) pkQ (i := 12) (by decide) HV.out ownA gA atA
    generalize World.setCell _ _ _ = w3 at HP ⊢
    have HP2 := (HS.congr HP (Dm.start_rows (k := 4) (by decide) t.pos)).sub (l' := dA (p.withRow 12 (.slice AB (m.ns 12 + 1) cB)) s2 (m.start 4 t.pos).ns (m.start 4 t.pos).cs pool :: allA m.tparts :: allA m.vparts :: allA m.bparts :: l) pkQ
    have hle2 := start_le (k := 4) (x := t.pos) (by decide) hns
    have hl4 : (m.start 4 t.pos).ns 4 ≤ 100000 := by have := hle2 4 (by decide); omega
    have hl20 : (m.start 4 t.pos).ns 20 ≤ 100000 := by have := hle2 20 (by decide); omega
    have hF := cache_s (p := p.withRow 12 (.slice AB (m.ns 12 + 1) cB)) hN hl4 hl20 HP2
    have hfw := (fwd_cache (e := p.e) (s := s2) hx2).1
    have hF2 : Calls Tryz.prog 138 #[.pointer (some ⟨p.pb, 0, none⟩)] w3 _ := hF
    clear hF HP HP2 Hd own7 ownA gA atA a7' g7' c7' la lp HV hle hHeld H2 H1 h1
    go_wp2_with (go_at_call 138; (with_reducible refine hF2.mono ?_); rintro e w4 ⟨rfl, v1, v2, H4⟩)
    go_end0
    exact ⟨rfl, end_cache (p := p) (pp := ((p.withRow 12 (.slice AB (m.ns 12 + 1) cB)).withRow 4 v1).withRow 20 v2) rfl rfl hok hns (by omega) H4⟩
  have bb4 : (wd == [99, 97, 99, 104, 101]) = false := by simpa using e4
  by_cases e5 : wd = [114, 101, 108, 101, 97, 115, 101]
  · subst e5
    have hR := HR.out
    rw [show findP [[116, 97, 98, 108, 101], [118, 105, 101, 119], [105, 110, 100, 101, 120], [115, 107, 101, 116, 99, 104], [99, 97, 99, 104, 101], [114, 101, 108, 101, 97, 115, 101], [115, 116, 114, 101, 97, 109], [98, 97, 99, 107, 117, 112]] [114, 101, 108, 101, 97, 115, 101] = some 5 by decide] at hR
    dsimp only at hR
    subst hR
    clear HR
    obtain ⟨Av, cv, hv, c7, f7, lp, -⟩ := H2.rcell (i := 13) pkQ (by decide)
    have c7' : w2.cell? ⟨p.pb, 19, none⟩ = some (.slice Av (m.ns 13) cv) := c7
    have HV := Lib.hid hv
    clear hv c7 f7
    have hle := hns 13 (by decide)
    have Hd := H2.drew.alloc #[.int .i64 t.pos] 3
    have own7 : (w2.drew.alloc (.cells #[.int .i64 t.pos] 3)).ownsRow (p.pb + 1) 3 1 (.slice Av (m.ns 13) cv) (m.ns 13) (m.cs 13) := Hd.rown pkQ (i := 13) (by decide) HV.out
    go_upto_region 18 with fail
    (refine wp_region_G 12 (fun w' => w'.cell? ⟨p.pb, 19, none⟩ = some (.slice Av (m.ns 13) cv)) (by kernel_rfl) ?_ (fun hHeld => ?_); (focus (try dsimp only); go_keep))
    (refine GG.k 0 ?_; refine GG.k 1 ?_; refine GG.k 2 ?_; refine GG.k 3 ?_; refine GG.k 4 ?_; refine GG.k 5 ?_; refine GG.k 6 ?_; refine GG.k 9 ?_; refine GG.k 10 ?_)
    (refine GG.o 7 (fun K hK => ?_); go_simp; refine hK.out _ _ ?_ (fun hHeld => ?_); (focus (try dsimp only); go_keep); clear hK K; (try simp only [Act.put, qqa, qqb, qqc]))
    (refine GG.o 8 (fun K hK => ?_); (refine step_app3 (v := .slice Av (m.ns 13) cv) (by rfl) _ _ stInt (by rfl) (by rfl) own7 (by rfl) (news := [.int .i64 t.pos]) (by rfl) (litRd (heap_alloc_new _ _)) (fun h => by cases h) (by intro u hu; simp at hu; (repeat' (rcases hu with rfl | hu)); all_goals (first | rfl | (subst hu; rfl))) (by omega) (by first | exact Nat.zero_le _ | omega | (simp; omega)) ?_; intro vA wA ownA gA atA; have hAf := Hd.after pkQ (i := 13) (by decide) HV.out gA; obtain ⟨a7, g7, la⟩ := hAf; have a7' : wA.cell? ⟨p.pb, 19, none⟩ = some (.slice Av (m.ns 13) cv) := a7; have g7' : wA.frozen? ⟨p.pb, 19, none⟩ = false := g7; clear a7 g7; obtain ⟨AB, cB, rfl, -, -⟩ := own_slice ownA); refine hK.out _ _ ?_ (fun hHeld => ?_); (focus (try dsimp only); go_keep); clear hK K; (try simp only [Act.put, qqa, qqb, qqc]))
    (refine GG.k 11 ?_)
    (refine GG.l (fun K hK => ?_); go_simp; refine hK.out _ _ ?_; clear hK K)
    have HP : HS (wA.setCell ⟨p.pb, 19, none⟩ (.slice AB (m.ns 13 + 1) cB)) _ := Hd.push (new := [.int .i64 t.pos]) pkQ (i := 13) (by decide) HV.out ownA gA atA
    generalize World.setCell _ _ _ = w3 at HP ⊢
    have HP2 := (HS.congr HP (Dm.start_rows (k := 5) (by decide) t.pos)).sub (l' := dA (p.withRow 13 (.slice AB (m.ns 13 + 1) cB)) s2 (m.start 5 t.pos).ns (m.start 5 t.pos).cs pool :: allA m.tparts :: allA m.vparts :: allA m.bparts :: l) pkQ
    have hle2 := start_le (k := 5) (x := t.pos) (by decide) hns
    have hl5 : (m.start 5 t.pos).ns 5 ≤ 100000 := by have := hle2 5 (by decide); omega
    have hF := release_s (p := p.withRow 13 (.slice AB (m.ns 13 + 1) cB)) hN hl5 HP2
    have hfw := (fwd_release (e := p.e) (s := s2) hx2).1
    have hF2 : Calls Tryz.prog 139 #[.pointer (some ⟨p.pb, 0, none⟩)] w3 _ := hF
    clear hF HP HP2 Hd own7 ownA gA atA a7' g7' c7' la lp HV hle hHeld H2 H1 h1
    go_wp2_with (go_at_call 139; (with_reducible refine hF2.mono ?_); rintro e w4 ⟨rfl, v1, H4⟩)
    go_end0
    exact ⟨rfl, end_release (p := p) (pp := (p.withRow 13 (.slice AB (m.ns 13 + 1) cB)).withRow 5 v1) rfl rfl hok hns (by omega) H4⟩
  have bb5 : (wd == [114, 101, 108, 101, 97, 115, 101]) = false := by simpa using e5
  by_cases e6 : wd = [115, 116, 114, 101, 97, 109]
  · subst e6
    have hR := HR.out
    rw [show findP [[116, 97, 98, 108, 101], [118, 105, 101, 119], [105, 110, 100, 101, 120], [115, 107, 101, 116, 99, 104], [99, 97, 99, 104, 101], [114, 101, 108, 101, 97, 115, 101], [115, 116, 114, 101, 97, 109], [98, 97, 99, 107, 117, 112]] [115, 116, 114, 101, 97, 109] = some 6 by decide] at hR
    dsimp only at hR
    subst hR
    clear HR
    obtain ⟨Av, cv, hv, c7, f7, lp, -⟩ := H2.rcell (i := 14) pkQ (by decide)
    have c7' : w2.cell? ⟨p.pb, 20, none⟩ = some (.slice Av (m.ns 14) cv) := c7
    have HV := Lib.hid hv
    clear hv c7 f7
    have hle := hns 14 (by decide)
    have Hd := H2.drew.alloc #[.int .i64 t.pos] 3
    have own7 : (w2.drew.alloc (.cells #[.int .i64 t.pos] 3)).ownsRow (p.pb + 1) 3 1 (.slice Av (m.ns 14) cv) (m.ns 14) (m.cs 14) := Hd.rown pkQ (i := 14) (by decide) HV.out
    go_upto_region 21 with fail
    (refine wp_region_G 12 (fun w' => w'.cell? ⟨p.pb, 20, none⟩ = some (.slice Av (m.ns 14) cv)) (by kernel_rfl) ?_ (fun hHeld => ?_); (focus (try dsimp only); go_keep))
    (refine GG.k 0 ?_; refine GG.k 1 ?_; refine GG.k 2 ?_; refine GG.k 3 ?_; refine GG.k 4 ?_; refine GG.k 5 ?_; refine GG.k 6 ?_; refine GG.k 9 ?_; refine GG.k 10 ?_)
    (refine GG.o 7 (fun K hK => ?_); go_simp; refine hK.out _ _ ?_ (fun hHeld => ?_); (focus (try dsimp only); go_keep); clear hK K; (try simp only [Act.put, qqa, qqb, qqc]))
    (refine GG.o 8 (fun K hK => ?_); (refine step_app3 (v := .slice Av (m.ns 14) cv) (by rfl) _ _ stInt (by rfl) (by rfl) own7 (by rfl) (news := [.int .i64 t.pos]) (by rfl) (litRd (heap_alloc_new _ _)) (fun h => by cases h) (by intro u hu; simp at hu; (repeat' (rcases hu with rfl | hu)); all_goals (first | rfl | (subst hu; rfl))) (by omega) (by first | exact Nat.zero_le _ | omega | (simp; omega)) ?_; intro vA wA ownA gA atA; have hAf := Hd.after pkQ (i := 14) (by decide) HV.out gA; obtain ⟨a7, g7, la⟩ := hAf; have a7' : wA.cell? ⟨p.pb, 20, none⟩ = some (.slice Av (m.ns 14) cv) := a7; have g7' : wA.frozen? ⟨p.pb, 20, none⟩ = false := g7; clear a7 g7; obtain ⟨AB, cB, rfl, -, -⟩ := own_slice ownA); refine hK.out _ _ ?_ (fun hHeld => ?_); (focus (try dsimp only); go_keep); clear hK K; (try simp only [Act.put, qqa, qqb, qqc]))
    (refine GG.k 11 ?_)
    (refine GG.l (fun K hK => ?_); go_simp; refine hK.out _ _ ?_; clear hK K)
    have HP : HS (wA.setCell ⟨p.pb, 20, none⟩ (.slice AB (m.ns 14 + 1) cB)) _ := Hd.push (new := [.int .i64 t.pos]) pkQ (i := 14) (by decide) HV.out ownA gA atA
    generalize World.setCell _ _ _ = w3 at HP ⊢
    have HP2 := (HS.congr HP (Dm.start_rows (k := 6) (by decide) t.pos)).sub (l' := dA (p.withRow 14 (.slice AB (m.ns 14 + 1) cB)) s2 (m.start 6 t.pos).ns (m.start 6 t.pos).cs pool :: allA m.tparts :: allA m.vparts :: allA m.bparts :: l) pkQ
    have hle2 := start_le (k := 6) (x := t.pos) (by decide) hns
    have hl6 : (m.start 6 t.pos).ns 6 ≤ 100000 := by have := hle2 6 (by decide); omega
    have hF := stream_s (p := p.withRow 14 (.slice AB (m.ns 14 + 1) cB)) hN hl6 HP2
    have hfw := (fwd_stream (e := p.e) (s := s2) hx2).1
    have hF2 : Calls Tryz.prog 140 #[.pointer (some ⟨p.pb, 0, none⟩)] w3 _ := hF
    clear hF HP HP2 Hd own7 ownA gA atA a7' g7' c7' la lp HV hle hHeld H2 H1 h1
    go_wp2_with (go_at_call 140; (with_reducible refine hF2.mono ?_); rintro e w4 ⟨rfl, v1, H4⟩)
    go_end0
    exact ⟨rfl, end_stream (p := p) (pp := (p.withRow 14 (.slice AB (m.ns 14 + 1) cB)).withRow 6 v1) rfl rfl hok hns (by omega) H4⟩
  have bb6 : (wd == [115, 116, 114, 101, 97, 109]) = false := by simpa using e6
  by_cases e7 : wd = [98, 97, 99, 107, 117, 112]
  · subst e7
    have hR := HR.out
    rw [show findP [[116, 97, 98, 108, 101], [118, 105, 101, 119], [105, 110, 100, 101, 120], [115, 107, 101, 116, 99, 104], [99, 97, 99, 104, 101], [114, 101, 108, 101, 97, 115, 101], [115, 116, 114, 101, 97, 109], [98, 97, 99, 107, 117, 112]] [98, 97, 99, 107, 117, 112] = some 7 by decide] at hR
    dsimp only at hR
    subst hR
    clear HR
    obtain ⟨Av, cv, hv, c7, f7, lp, -⟩ := H2.rcell (i := 15) pkQ (by decide)
    have c7' : w2.cell? ⟨p.pb, 21, none⟩ = some (.slice Av (m.ns 15) cv) := c7
    have HV := Lib.hid hv
    clear hv c7 f7
    have hle := hns 15 (by decide)
    have Hd := H2.drew.alloc #[.int .i64 t.pos] 3
    have own7 : (w2.drew.alloc (.cells #[.int .i64 t.pos] 3)).ownsRow (p.pb + 1) 3 1 (.slice Av (m.ns 15) cv) (m.ns 15) (m.cs 15) := Hd.rown pkQ (i := 15) (by decide) HV.out
    go_upto_region 24 with fail
    (refine wp_region_G 12 (fun w' => w'.cell? ⟨p.pb, 21, none⟩ = some (.slice Av (m.ns 15) cv)) (by kernel_rfl) ?_ (fun hHeld => ?_); (focus (try dsimp only); go_keep))
    (refine GG.k 0 ?_; refine GG.k 1 ?_; refine GG.k 2 ?_; refine GG.k 3 ?_; refine GG.k 4 ?_; refine GG.k 5 ?_; refine GG.k 6 ?_; refine GG.k 9 ?_; refine GG.k 10 ?_)
    (refine GG.o 7 (fun K hK => ?_); go_simp; refine hK.out _ _ ?_ (fun hHeld => ?_); (focus (try dsimp only); go_keep); clear hK K; (try simp only [Act.put, qqa, qqb, qqc]))
    (refine GG.o 8 (fun K hK => ?_); (refine step_app3 (v := .slice Av (m.ns 15) cv) (by rfl) _ _ stInt (by rfl) (by rfl) own7 (by rfl) (news := [.int .i64 t.pos]) (by rfl) (litRd (heap_alloc_new _ _)) (fun h => by cases h) (by intro u hu; simp at hu; (repeat' (rcases hu with rfl | hu)); all_goals (first | rfl | (subst hu; rfl))) (by omega) (by first | exact Nat.zero_le _ | omega | (simp; omega)) ?_; intro vA wA ownA gA atA; have hAf := Hd.after pkQ (i := 15) (by decide) HV.out gA; obtain ⟨a7, g7, la⟩ := hAf; have a7' : wA.cell? ⟨p.pb, 21, none⟩ = some (.slice Av (m.ns 15) cv) := a7; have g7' : wA.frozen? ⟨p.pb, 21, none⟩ = false := g7; clear a7 g7; obtain ⟨AB, cB, rfl, -, -⟩ := own_slice ownA); refine hK.out _ _ ?_ (fun hHeld => ?_); (focus (try dsimp only); go_keep); clear hK K; (try simp only [Act.put, qqa, qqb, qqc]))
    (refine GG.k 11 ?_)
    (refine GG.l (fun K hK => ?_); go_simp; refine hK.out _ _ ?_; clear hK K)
    have HP : HS (wA.setCell ⟨p.pb, 21, none⟩ (.slice AB (m.ns 15 + 1) cB)) _ := Hd.push (new := [.int .i64 t.pos]) pkQ (i := 15) (by decide) HV.out ownA gA atA
    generalize World.setCell _ _ _ = w3 at HP ⊢
    have HP2 := (HS.congr HP (Dm.start_rows (k := 7) (by decide) t.pos)).sub (l' := dA (p.withRow 15 (.slice AB (m.ns 15 + 1) cB)) s2 (m.start 7 t.pos).ns (m.start 7 t.pos).cs pool :: allA m.tparts :: allA m.vparts :: allA m.bparts :: l) pkQ
    have hle2 := start_le (k := 7) (x := t.pos) (by decide) hns
    have hl7 : (m.start 7 t.pos).ns 7 ≤ 100000 := by have := hle2 7 (by decide); omega
    have hF := backup_s (p := p.withRow 15 (.slice AB (m.ns 15 + 1) cB)) hN hl7 HP2
    have hfw := (fwd_backup (e := p.e) (s := s2) hx2).1
    have hF2 : Calls Tryz.prog 141 #[.pointer (some ⟨p.pb, 0, none⟩)] w3 _ := hF
    clear hF HP HP2 Hd own7 ownA gA atA a7' g7' c7' la lp HV hle hHeld H2 H1 h1
    go_wp2_with (go_at_call 141; (with_reducible refine hF2.mono ?_); rintro e w4 ⟨rfl, v1, v, H4⟩)
    go_end0
    exact ⟨rfl, end_backup (p := p) (pp := (p.withRow 15 (.slice AB (m.ns 15 + 1) cB)).withRow 7 v1) rfl rfl hok hns (by omega) H4⟩
  have bb7 : (wd == [98, 97, 99, 107, 117, 112]) = false := by simpa using e7
  have hR := HR.out
  rw [show findP [[116, 97, 98, 108, 101], [118, 105, 101, 119], [105, 110, 100, 101, 120], [115, 107, 101, 116, 99, 104], [99, 97, 99, 104, 101], [114, 101, 108, 101, 97, 115, 101], [115, 116, 114, 101, 97, 109], [98, 97, 99, 107, 117, 112]] wd = none from kind_none e0 e1 e2 e3 e4 e5 e6 e7] at hR
  dsimp only at hR
  subst hR
  clear HR e0 e1 e2 e3 e4 e5 e6 e7
  go_wp2_with fail
  go_end0
  exact ⟨rfl, p, m, pool, rfl, rfl, rfl, hok, fun i hi => Nat.le_trans (hns i hi) (by show s.pos ≤ s2.pos; omega), by unfold mA; exact H2.sub pkQ⟩
end
end Go.Proofs.YtpnfbehbheddeaaGreatDoor
