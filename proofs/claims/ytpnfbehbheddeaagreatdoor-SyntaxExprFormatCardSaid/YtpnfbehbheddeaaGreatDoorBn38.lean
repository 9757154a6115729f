/- A column of a table that is right and refers to no store: column. At most 1000000 columns and owners; names of at most 1000000 bytes. A table that is right and refers to no store: table. At most 8 columns and 1000000 owners; names of at most 1000000 bytes. -/
import Derived.Test.YtpnfbehbheddeaaGreatDoorBn37
namespace Go.Proofs.YtpnfbehbheddeaaGreatDoor
set_option maxRecDepth 100000
set_option maxHeartbeats 8000000
set_option linter.unusedVariables false
set_option linter.unusedSimpArgs false
open Go.RowKit
theorem own_cap2 {w : World} {base : Nat} {e : TypeId} {size n c : Nat} {A : Option Addr} {xs : List Value} (h : w.ownsRow base e size (.slice A n c) n xs) : n ≤ c := by
  rcases h.2 with ⟨h1, -⟩ | ⟨g, cap, cur, h1, h2, h3, h4, h5, h6, h7⟩
  · injection h1 with h1 h2 h3
    omega
  · injection h1 with h1 h8 h9
    omega
theorem column_ok {w : World} {l : List HA} {zk zb zi n kk i : Nat} {cat : Fin 8 → Value} {sv : Value} {g : Bs → Option Nat} {A : Option Addr} {X : List Co} (t : Tab) (hX : X.map Prod.fst = t.cols) {c : Col} {v : Value} (hi : X[i]? = some (c, v)) (hn : X.length ≤ 1000000) (hs : ∀ x ∈ X, ∃ A n c, x.2 = .slice A n c) (hol : c.owners.length ≤ 1000000)
    (hnl : c.name.length ≤ 1000000) (hsl : c.ns.length ≤ 1000000) (h1 : isNameB c.name = true) (h2 : c.ns = [] ∨ isNameB c.ns = true) (h3 : hasName X i c.name = false) (h4 : c.rf = []) (hg : g [] = none) (h5 : isTypeB c.ty = true) (h6 : ownersC t (-1) c.owners = true) (h7 : rulesC t c = true) (h8 : i ≠ 0 ∨ c.owners = [])
    (H : HS w (boxA zk (ckC cat zb zi sv) 225 :: mapI zi n g :: rowA 82 7 (.slice A X.length kk) X.length (coC X) :: allA (X.map coA) :: l)) :
    Calls Tryz.prog 203 #[.pointer (some ⟨zk, 0, none⟩), .agg #[.string ⟨t.name.toArray⟩, .slice A X.length kk, .int .i64 t.erase, .int .i64 t.retain], .int .i64 (i : Int)] w fun e w' => e = .returned (.int .i64 0) ∧ HS w' (boxA zk (ckC cat zb zi sv) 225 :: mapI zi n g :: rowA 82 7 (.slice A X.length kk) X.length (coC X) :: allA (X.map coA) :: l) := by
  obtain ⟨hlt, -⟩ := List.getElem?_eq_some_iff.1 hi
  have hmem := List.mem_of_getElem? hi
  obtain ⟨Av, cv, e, -⟩ := H.intsAt (X := X) pkQ hmem
  dsimp only at e
  subst e
  obtain ⟨gc, eA, hgc, hcl, -⟩ := H.rowAt (A := A) pkQ (fun e => by have := coC_at hi 0 _ rfl; rw [e] at this; cases this)
  subst eA
  have hcap := own_cap2 (H.row (v := .slice (some ⟨gc, 0, none⟩) X.length kk) pkQ)
  have hik : i ≤ kk := by omega
  have hik2 : (i : Int) ≤ (kk : Int) := by omega
  have hi0 : (0 : Int) ≤ (i : Int) := by omega
  have hi1 : (i : Int) < (X.length : Int) := by omega
  have hi2 : (i : Int) ≤ (X.length : Int) := by omega
  have hC := fun w1 zc k' l1 (H1 : HS w1 (boxA zc (colC c (.slice Av c.owners.length cv)) 82 :: rowA 82 7 (.slice (some ⟨gc, 0, none⟩) X.length kk) X.length (coC X) :: l1)) => containsF_s (k := i) (k' := k') c hn hs (by omega) H1
  have hO := fun w1 l1 (H1 : HS w1 (rowA 82 7 (.slice (some ⟨gc, 0, none⟩) X.length kk) X.length (coC X) :: allA (X.map coA) :: l1)) => validOwners_s (l := rowA 82 7 (.slice (some ⟨gc, 0, none⟩) X.length kk) X.length (coC X) :: allA (X.map coA) :: l1) t hX hmem rfl hn hs H1 pkQ pkQ hol
  have hR := fun w1 => validRules_n (w := w1) (A := some ⟨gc, 0, none⟩) (Ac := Av) (n := X.length) (kk := kk) (k := cv) (m := c.owners.length) c.joint c.duty t.retain t.erase c.ty t.name c.name c.ns c.rf
  have hF := fun w1 l1 (H1 : HS w1 (boxA zk (ckC cat zb zi sv) 225 :: mapI zi n g :: l1)) => find_k [] (by simp) H1
  have hT := fun w1 => isType_c c.ty w1
  rw [rules_n] at h7
  unfold CfPost at hC
  unfold VoPost at hO
  simp only [h3] at hC
  simp only [h4, h7] at hR
  simp only [h5] at hT
  simp only [h6] at hO
  simp only [hg] at hF
  have hI1 := fun w1 => xisName ⟨c.name.toArray⟩ w1 (by show c.name.toArray.size ≤ _; simp; omega)
  have hI2 := fun w1 => xisName ⟨c.ns.toArray⟩ w1 (by show c.ns.toArray.size ≤ _; simp; omega)
  dsimp only at hI1 hI2
  simp only [h1] at hI1
  have H1 := H.alloc #[.string ⟨t.name.toArray⟩, .slice (some ⟨gc, 0, none⟩) X.length kk, .int .i64 t.erase, .int .i64 t.retain] 79
  have HRF := Lib.hid h4
  clear H h4
  go_enter Tryz.func203, Tryz.ntmps203
  go_upto_region 1 with fail
  generalize w.heap.size = zt at H1 ⊢
  generalize w.alloc _ = w0 at H1 ⊢
  obtain ⟨g2, eA, -, hcl, -⟩ := H1.rowAt (A := some ⟨gc, 0, none⟩) pkQ (fun e => by have := coC_at hi 0 _ rfl; rw [e] at this; cases this)
  injection eA with eA
  injection eA with eA _ _
  subst eA
  have q0 := hcl _ _ (coC_at hi 0 _ rfl)
  have q1 := hcl _ _ (coC_at hi 1 _ rfl)
  have q2 := hcl _ _ (coC_at hi 2 _ rfl)
  have q3 := hcl _ _ (coC_at hi 3 _ rfl)
  have q4 := hcl _ _ (coC_at hi 4 _ rfl)
  have q5 := hcl _ _ (coC_at hi 5 _ rfl)
  have q6 := hcl _ _ (coC_at hi 6 _ rfl)
  rw [Nat.add_zero] at q0
  dsimp only at q0 q1 q2 q3 q4 q5 q6
  obtain ⟨yB, yL, hcB⟩ := HS.get (z := zt) H1; obtain ⟨y1, yf1⟩ := hcB 1; clear hcB
  clear hcl hi h3 h5 h6 h7 hX hs hn hol hmem hg
  go_upto_region 2 with fail
  obtain ⟨zc, w2, ez, ew, H2⟩ := H1.alloc_ex (colC c (.slice Av c.owners.length cv)) 82
  unfold colC at ew
  rw [ew, ez]
  clear ez ew q0 q1 q2 q3 q4 q5 q6 y1 yf1 yB yL H1
  obtain ⟨xB, xL, hcB⟩ := HS.get (z := zc) H2; obtain ⟨x0, xf0⟩ := hcB 0; obtain ⟨x1, xf1⟩ := hcB 1; obtain ⟨x2, xf2⟩ := hcB 2; obtain ⟨x3, xf3⟩ := hcB 3; obtain ⟨x4, xf4⟩ := hcB 4; obtain ⟨x5, xf5⟩ := hcB 5; obtain ⟨x6, xf6⟩ := hcB 6; clear hcB; unfold colC at x0 x1 x2 x3 x4 x5 x6
  obtain ⟨yB, yL, hcB⟩ := HS.get (z := zt) H2; obtain ⟨y0, yf0⟩ := hcB 0; obtain ⟨y1, yf1⟩ := hcB 1; obtain ⟨y2, yf2⟩ := hcB 2; obtain ⟨y3, yf3⟩ := hcB 3; clear hcB
  rw [HRF.out] at x3
  have hns : c.ns = [] ∨ (c.ns ≠ [] ∧ isNameB c.ns = true) := by
    by_cases e : c.ns = []
    · exact .inl e
    · exact .inr ⟨e, h2.resolve_left e⟩
  rcases hns with hns | ⟨hns, hnb⟩
  · rw [hns] at x2
    have HNS := Lib.hid hns
    clear hns h2
    go_upto_region 4 with (go_at_call 32; (with_reducible refine (hI1 _).mono ?_); rintro e w3 ⟨rfl, rfl⟩)
    have H2b := H2.sub (l' := boxA zc (colC c (.slice Av c.owners.length cv)) 82 :: rowA 82 7 (.slice (some ⟨gc, 0, none⟩) X.length kk) X.length (coC X) :: allA (X.map coA) :: boxA zt #[.string ⟨t.name.toArray⟩, .slice (some ⟨gc, 0, none⟩) X.length kk, .int .i64 t.erase, .int .i64 t.retain] 79 :: boxA zk (ckC cat zb zi sv) 225 :: mapI zi n g :: l) pkQ
    go_upto_region 6 with (go_at_call 245; (with_reducible refine (hC _ _ _ _ H2b).mono ?_); rintro e w3 ⟨rfl, H3⟩)
    clear H2 H2b
    have hF2 := hF _ _ (H3.sub (l' := boxA zk (ckC cat zb zi sv) 225 :: mapI zi n g :: []) pkQ)
    obtain ⟨kB, kL, hcB⟩ := HS.get (z := zc) H3; obtain ⟨k0, kf0⟩ := hcB 0; obtain ⟨k1, kf1⟩ := hcB 1; obtain ⟨k2, kf2⟩ := hcB 2; obtain ⟨k3, kf3⟩ := hcB 3; obtain ⟨k4, kf4⟩ := hcB 4; obtain ⟨k5, kf5⟩ := hcB 5; obtain ⟨k6, kf6⟩ := hcB 6; clear hcB; unfold colC at k0 k1 k2 k3 k4 k5 k6
    rw [HRF.out] at k3
    go_upto_region 9 with (go_at_call 209; (with_reducible refine hF2.mono ?_); rintro e w4 ⟨rfl, rfl⟩)
    go_quiet ((go_at_call 247; exact Calls.quiet_of_same ((hT _).mono fun e w' h => ⟨h.1, h.2.symm⟩)))
    have H4 := H3.drewN nq
    have H4b := H4.sub (l' := rowA 82 7 (.slice (some ⟨gc, 0, none⟩) X.length kk) X.length (coC X) :: allA (X.map coA) :: boxA zt #[.string ⟨t.name.toArray⟩, .slice (some ⟨gc, 0, none⟩) X.length kk, .int .i64 t.erase, .int .i64 t.retain] 79 :: boxA zk (ckC cat zb zi sv) 225 :: mapI zi n g :: boxA zc (colC c (.slice Av c.owners.length cv)) 82 :: l) pkQ
    obtain ⟨mB, mL, hcB⟩ := HS.get (z := zc) H4; obtain ⟨m0, mf0⟩ := hcB 0; obtain ⟨m1, mf1⟩ := hcB 1; obtain ⟨m2, mf2⟩ := hcB 2; obtain ⟨m3, mf3⟩ := hcB 3; obtain ⟨m4, mf4⟩ := hcB 4; obtain ⟨m5, mf5⟩ := hcB 5; obtain ⟨m6, mf6⟩ := hcB 6; clear hcB; unfold colC at m0 m1 m2 m3 m4 m5 m6
    rw [HRF.out] at m3
    rw [HNS.out] at m2
    simp only [HNS.out] at hR
    obtain ⟨oB, oL, hcB⟩ := HS.get (z := zt) H4; obtain ⟨o0, of0⟩ := hcB 0; obtain ⟨o1, of1⟩ := hcB 1; obtain ⟨o2, of2⟩ := hcB 2; obtain ⟨o3, of3⟩ := hcB 3; clear hcB
    have hO2 := hO _ _ H4b
    clear H3 H4 H4b hC hO hF2 hF
    go_upto_region 13 with (first
      | (go_at_call 248; (with_reducible refine hO2.mono ?_); rintro e w5 ⟨rfl, H5⟩; obtain ⟨pB, pL, hcB⟩ := HS.get (z := zc) H5; obtain ⟨p0, pf0⟩ := hcB 0; obtain ⟨p1, pf1⟩ := hcB 1; obtain ⟨p2, pf2⟩ := hcB 2; obtain ⟨p3, pf3⟩ := hcB 3; obtain ⟨p4, pf4⟩ := hcB 4; obtain ⟨p5, pf5⟩ := hcB 5; obtain ⟨p6, pf6⟩ := hcB 6; clear hcB; unfold colC at p0 p1 p2 p3 p4 p5 p6; rw [HRF.out] at p3; rw [HNS.out] at p2; obtain ⟨rB, rL, hcB⟩ := HS.get (z := zt) H5; obtain ⟨r0, rf0⟩ := hcB 0; obtain ⟨r1, rf1⟩ := hcB 1; obtain ⟨r2, rf2⟩ := hcB 2; obtain ⟨r3, rf3⟩ := hcB 3; clear hcB)
      | (go_at_call 249; (with_reducible refine (hR _).mono ?_); rintro e w6 ⟨rfl, hb6⟩; have H6 := H5.below hb6))
    clear hO2 hR hT hI1 hI2 k0 k1 k2 k3 k4 k5 k6 m0 m1 m2 m3 m5 m6
    obtain ⟨sB, sL, hcB⟩ := HS.get (z := zc) H6; obtain ⟨s4, sf4⟩ := hcB 4; clear hcB; unfold colC at s4
    obtain ⟨uB, uL, hcB⟩ := HS.get (z := zt) H6; obtain ⟨u2, uf2⟩ := hcB 2; clear hcB
    by_cases hz : i = 0
    · have l0 : ¬ 0 < c.owners.length := by rw [h8.resolve_left (fun e => e hz)]; simp
      subst hz
      clear h8
      go_wp2_with fail
      go_ret
      exact ⟨rfl, H6.sub pkQ⟩
    · have e3 : ((i : Int) == 0) = false := by simp; omega
      clear h8
      go_wp2_with fail
      go_ret
      exact ⟨rfl, H6.sub pkQ⟩
  · have e1 : (c.ns == []) = false := by simpa using hns
    have e2 : (c.ns != []) = true := by simpa using hns
    rw [hnb] at hI2
    clear hns hnb h2
    go_upto_region 4 with (first
      | (go_at_call 32; (with_reducible refine (hI1 _).mono ?_); rintro e w3 ⟨rfl, rfl⟩)
      | (go_at_call 32; (with_reducible refine (hI2 _).mono ?_); rintro e w3 ⟨rfl, rfl⟩))
    have H2b := H2.sub (l' := boxA zc (colC c (.slice Av c.owners.length cv)) 82 :: rowA 82 7 (.slice (some ⟨gc, 0, none⟩) X.length kk) X.length (coC X) :: allA (X.map coA) :: boxA zt #[.string ⟨t.name.toArray⟩, .slice (some ⟨gc, 0, none⟩) X.length kk, .int .i64 t.erase, .int .i64 t.retain] 79 :: boxA zk (ckC cat zb zi sv) 225 :: mapI zi n g :: l) pkQ
    go_upto_region 6 with (go_at_call 245; (with_reducible refine (hC _ _ _ _ H2b).mono ?_); rintro e w3 ⟨rfl, H3⟩)
    clear H2 H2b
    have hF2 := hF _ _ (H3.sub (l' := boxA zk (ckC cat zb zi sv) 225 :: mapI zi n g :: []) pkQ)
    obtain ⟨kB, kL, hcB⟩ := HS.get (z := zc) H3; obtain ⟨k0, kf0⟩ := hcB 0; obtain ⟨k1, kf1⟩ := hcB 1; obtain ⟨k2, kf2⟩ := hcB 2; obtain ⟨k3, kf3⟩ := hcB 3; obtain ⟨k4, kf4⟩ := hcB 4; obtain ⟨k5, kf5⟩ := hcB 5; obtain ⟨k6, kf6⟩ := hcB 6; clear hcB; unfold colC at k0 k1 k2 k3 k4 k5 k6
    rw [HRF.out] at k3
    go_upto_region 9 with (go_at_call 209; (with_reducible refine hF2.mono ?_); rintro e w4 ⟨rfl, rfl⟩)
    go_quiet ((go_at_call 247; exact Calls.quiet_of_same ((hT _).mono fun e w' h => ⟨h.1, h.2.symm⟩)))
    have H4 := H3.drewN nq
    have H4b := H4.sub (l' := rowA 82 7 (.slice (some ⟨gc, 0, none⟩) X.length kk) X.length (coC X) :: allA (X.map coA) :: boxA zt #[.string ⟨t.name.toArray⟩, .slice (some ⟨gc, 0, none⟩) X.length kk, .int .i64 t.erase, .int .i64 t.retain] 79 :: boxA zk (ckC cat zb zi sv) 225 :: mapI zi n g :: boxA zc (colC c (.slice Av c.owners.length cv)) 82 :: l) pkQ
    obtain ⟨mB, mL, hcB⟩ := HS.get (z := zc) H4; obtain ⟨m0, mf0⟩ := hcB 0; obtain ⟨m1, mf1⟩ := hcB 1; obtain ⟨m2, mf2⟩ := hcB 2; obtain ⟨m3, mf3⟩ := hcB 3; obtain ⟨m4, mf4⟩ := hcB 4; obtain ⟨m5, mf5⟩ := hcB 5; obtain ⟨m6, mf6⟩ := hcB 6; clear hcB; unfold colC at m0 m1 m2 m3 m4 m5 m6
    rw [HRF.out] at m3
    obtain ⟨oB, oL, hcB⟩ := HS.get (z := zt) H4; obtain ⟨o0, of0⟩ := hcB 0; obtain ⟨o1, of1⟩ := hcB 1; obtain ⟨o2, of2⟩ := hcB 2; obtain ⟨o3, of3⟩ := hcB 3; clear hcB
    have hO2 := hO _ _ H4b
    clear H3 H4 H4b hC hO hF2 hF
    go_upto_region 13 with (first
      | (go_at_call 248; (with_reducible refine hO2.mono ?_); rintro e w5 ⟨rfl, H5⟩; obtain ⟨pB, pL, hcB⟩ := HS.get (z := zc) H5; obtain ⟨p0, pf0⟩ := hcB 0; obtain ⟨p1, pf1⟩ := hcB 1; obtain ⟨p2, pf2⟩ := hcB 2; obtain ⟨p3, pf3⟩ := hcB 3; obtain ⟨p4, pf4⟩ := hcB 4; obtain ⟨p5, pf5⟩ := hcB 5; obtain ⟨p6, pf6⟩ := hcB 6; clear hcB; unfold colC at p0 p1 p2 p3 p4 p5 p6; rw [HRF.out] at p3; obtain ⟨rB, rL, hcB⟩ := HS.get (z := zt) H5; obtain ⟨r0, rf0⟩ := hcB 0; obtain ⟨r1, rf1⟩ := hcB 1; obtain ⟨r2, rf2⟩ := hcB 2; obtain ⟨r3, rf3⟩ := hcB 3; clear hcB)
      | (go_at_call 249; (with_reducible refine (hR _).mono ?_); rintro e w6 ⟨rfl, hb6⟩; have H6 := H5.below hb6))
    clear hO2 hR hT hI1 hI2 k0 k1 k2 k3 k4 k5 k6 m0 m1 m2 m3 m5 m6
    obtain ⟨sB, sL, hcB⟩ := HS.get (z := zc) H6; obtain ⟨s4, sf4⟩ := hcB 4; clear hcB; unfold colC at s4
    obtain ⟨uB, uL, hcB⟩ := HS.get (z := zt) H6; obtain ⟨u2, uf2⟩ := hcB 2; clear hcB
    by_cases hz : i = 0
    · have l0 : ¬ 0 < c.owners.length := by rw [h8.resolve_left (fun e => e hz)]; simp
      subst hz
      clear h8
      go_wp2_with fail
      go_ret
      exact ⟨rfl, H6.sub pkQ⟩
    · have e3 : ((i : Int) == 0) = false := by simp; omega
      clear h8
      go_wp2_with fail
      go_ret
      exact ⟨rfl, H6.sub pkQ⟩
structure ColOk (t : Tab) (X : List Co) (i : Nat) (c : Col) : Prop where
  ol : c.owners.length ≤ 1000000
  nl : c.name.length ≤ 1000000
  sl : c.ns.length ≤ 1000000
  n : isNameB c.name = true
  s : c.ns = [] ∨ isNameB c.ns = true
  d : hasName X i c.name = false
  r : c.rf = []
  y : isTypeB c.ty = true
  o : ownersC t (-1) c.owners = true
  u : rulesC t c = true
  z : i ≠ 0 ∨ c.owners = []
def TbPost (l : List HA) (e : Ending) (w' : World) : Prop := e = .returned (.int .i64 0) ∧ HS w' l
theorem table_ok {w : World} {l : List HA} {zk zb zi n m nt ct kk : Nat} {cat : Fin 8 → Value} {sv : Value} {q : List Bs} {g : Bs → Option Nat} {A At : Option Addr} {X : List Co} {xs txs : List Value} (t : Tab) (hX : X.map Prod.fst = t.cols) (hn : 1 ≤ X.length) (hn8 : X.length ≤ 8) (hq : q.length ≤ 1000000) (hnn : n ≤ 1000000) (hm : m ≤ 1000000)
    (hnl : t.name.length ≤ 1000000) (h1 : declC ⟨q, []⟩ t.name = 0) (h2 : t.erase = 0) (h3 : withinI t.retain 0 1048576 = true) (hc : ∀ i c v, X[i]? = some (c, v) → ColOk t X i c) (hg : g [] = none) (h0 : cat 0 = .slice At nt ct) (hnt : 0 < nt) (hntl : nt ≤ 1000000)
    (htx : ∀ (j : Nat) (u : Value), (#[.string ⟨t.name.toArray⟩, .slice A X.length kk, .int .i64 t.erase, .int .i64 t.retain] : Array Value).toList[j]? = some u → txs[j]? = some u)
    (H : HS w (boxA zk (ckC cat zb zi sv) 225 :: mapB zb q :: mapI zi n g :: rowA 274 2 sv m xs :: rowA 79 4 (.slice At nt ct) nt txs :: rowA 82 7 (.slice A X.length kk) X.length (coC X) :: allA (X.map coA) :: l)) :
    Calls Tryz.prog 147 #[.pointer (some ⟨zk, 0, none⟩), .int .i64 0] w (TbPost (rowA 79 4 (.slice At nt ct) nt txs :: rowA 82 7 (.slice A X.length kk) X.length (coC X) :: allA (X.map coA) :: l)) := by
  have hs : ∀ x ∈ X, ∃ A n c, x.2 = .slice A n c := fun x hx => by
    obtain ⟨A, c, e, -⟩ := H.intsAt (X := X) pkQ hx
    exact ⟨A, _, c, e⟩
  obtain ⟨gt, eA, hgt, hct, -⟩ := H.rowAt (A := At) pkQ (fun e => by have := htx 0 _ rfl; rw [e] at this; cases this)
  subst eA
  have t0 := hct _ _ (htx 0 _ rfl)
  have t1 := hct _ _ (htx 1 _ rfl)
  have t2 := hct _ _ (htx 2 _ rfl)
  have t3 := hct _ _ (htx 3 _ rfl)
  rw [h2] at t2 htx
  obtain ⟨dB, dL, hcB⟩ := HS.get (z := zk) H; obtain ⟨d0, df0⟩ := hcB 0; clear hcB; unfold ckC at d0
  rw [h0] at d0
  have hnt2 : (0 : Int) < (nt : Int) := by omega
  have hC := fun w1 l1 i c v (hi : X[i]? = some (c, v)) (H1 : HS w1 (boxA zk (ckC cat zb zi sv) 225 :: mapI zi n g :: rowA 82 7 (.slice A X.length kk) X.length (coC X) :: allA (X.map coA) :: l1)) => column_ok t hX hi (by omega) hs (hc i c v hi).ol (hc i c v hi).nl (hc i c v hi).sl (hc i c v hi).n (hc i c v hi).s (hc i c v hi).d (hc i c v hi).r hg (hc i c v hi).y (hc i c v hi).o (hc i c v hi).u (hc i c v hi).z H1
  have hW1 := fun w1 => within_c (X.length : Int) 1 8 w1
  have hW2 := fun w1 => within_c t.retain 0 1048576 w1
  simp only [h3] at hW2
  simp only [show withinI (X.length : Int) 1 8 = true by unfold withinI; simp; omega] at hW1
  simp only [h2] at hC
  have hN := fun w1 l1 l2 (H1 : HS w1 l1) (hp : Pick l1 (rowA 82 7 (.slice A X.length kk) X.length (coC X)) l2) => collectN_s (by omega) hs H1 hp
  have hT := fun w1 l1 l2 (H1 : HS w1 l1) (hp : Pick l1 (rowA 82 7 (.slice A X.length kk) X.length (coC X)) l2) => collectT_s (by omega) hs H1 hp
  have hD := fun w1 l1 (H1 : HS w1 (boxA zk (ckC cat zb zi sv) 225 :: mapB zb q :: l1)) => declare_s t.name hnl hq H1
  simp only [h1, if_true] at hD
  unfold CnPost at hN
  unfold CtPost at hT
  clear hct htx hs h1 h2 h3 h0 hg hc hX
  go_enter Tryz.func147, Tryz.ntmps147
  go_upto_region 2 with fail
  obtain ⟨zt, w1, ez, ew, H1⟩ := H.alloc_ex #[.string ⟨t.name.toArray⟩, .slice A X.length kk, .int .i64 0, .int .i64 t.retain] 79
  rw [ew, ez]
  clear ez ew t0 t1 t2 t3 d0 df0 dB dL H
  obtain ⟨xB, xL, hcB⟩ := HS.get (z := zt) H1; obtain ⟨x0, xf0⟩ := hcB 0; obtain ⟨x1, xf1⟩ := hcB 1; obtain ⟨x2, xf2⟩ := hcB 2; obtain ⟨x3, xf3⟩ := hcB 3; clear hcB
  have H1b := H1.sub (l' := boxA zk (ckC cat zb zi sv) 225 :: mapB zb q :: boxA zt #[.string ⟨t.name.toArray⟩, .slice A X.length kk, .int .i64 0, .int .i64 t.retain] 79 :: mapI zi n g :: rowA 274 2 sv m xs :: rowA 79 4 (.slice (some ⟨gt, 0, none⟩) nt ct) nt txs :: rowA 82 7 (.slice A X.length kk) X.length (coC X) :: allA (X.map coA) :: l) pkQ
  go_upto_region 5 with (go_at_call 201; (with_reducible refine (hD _ _ H1b).mono ?_); rintro e w2 ⟨rfl, H2⟩)
  clear H1 H1b x0 x1 x2 x3 hD
  obtain ⟨yB, yL, hcB⟩ := HS.get (z := zt) H2; obtain ⟨y0, yf0⟩ := hcB 0; obtain ⟨y1, yf1⟩ := hcB 1; obtain ⟨y2, yf2⟩ := hcB 2; obtain ⟨y3, yf3⟩ := hcB 3; clear hcB
  go_upto_region 8 with (first
    | (go_at_call 202; (with_reducible refine (hW1 _).mono ?_); rintro e w3 ⟨rfl, rfl⟩)
    | (go_at_call 202; (with_reducible refine (hW2 _).mono ?_); rintro e w3 ⟨rfl, rfl⟩))
  clear hW1 hW2
  go_loopw [48] (fun v48 wr => ∃ i : Nat, v48 = .int .i64 (i : Int) ∧ i ≤ X.length ∧ HS wr (boxA zk (ckC cat zb zi sv) 225 :: mapI zi n g :: rowA 82 7 (.slice A X.length kk) X.length (coC X) :: allA (X.map coA) :: mapB zb (q ++ [t.name]) :: boxA zt #[.string ⟨t.name.toArray⟩, .slice A X.length kk, .int .i64 0, .int .i64 t.retain] 79 :: rowA 274 2 sv m xs :: rowA 79 4 (.slice (some ⟨gt, 0, none⟩) nt ct) nt txs :: l)) (fun v48 _ => X.length - (intOf v48).toNat)
  case atStart => exact ⟨0, rfl, by omega, H2.sub pkQ⟩
  case round =>
    obtain ⟨i, rfl, hi, Hr⟩ := hrel
    clear H2 y0 y1 y2 y3 yf0 yf1 yf2 yf3 yB yL
    obtain ⟨yB, yL, hcB⟩ := HS.get (z := zt) Hr; obtain ⟨y0, yf0⟩ := hcB 0; obtain ⟨y1, yf1⟩ := hcB 1; obtain ⟨y2, yf2⟩ := hcB 2; obtain ⟨y3, yf3⟩ := hcB 3; clear hcB
    by_cases hlt : i < X.length
    · have h1 : (i : Int) < (X.length : Int) := by omega
      obtain ⟨⟨c, v⟩, hcv⟩ : ∃ x, X[i]? = some x := ⟨_, List.getElem?_eq_getElem hlt⟩
      have hF := hC _ _ i c v hcv Hr
      clear hcv Hr
      go_wp2_with (go_at_call 203; (with_reducible refine hF.mono ?_); rintro e w3 ⟨rfl, H3⟩)
      go_roundw
      case rel => exact ⟨i + 1, by go_num, by omega, H3⟩
      case measure => simp [intOf]; omega
    · obtain rfl : i = X.length := by omega
      have h1 : ¬ (X.length : Int) < (X.length : Int) := by omega
      clear hC
      go_upto_region 14 with fail
      (refine wp_region_G 10 (fun w' => w'.cell? ⟨zt, 0, none⟩ = some (.string ⟨t.name.toArray⟩) ∧ w'.cell? ⟨zt, 1, none⟩ = some (.slice A X.length kk)) (by kernel_rfl) ?_ (fun hHeld => ?_); (focus (try dsimp only); go_keep))
      (refine GG.k 0 ?_; refine GG.k 1 ?_; refine GG.k 2 ?_; refine GG.k 3 ?_; refine GG.k 4 ?_; refine GG.k 6 ?_; refine GG.k 7 ?_)
      (refine GG.o 5 (fun K hK => ?_); (go_simp; go_at_call 205; (with_reducible refine (hN _ _ _ Hr.drew pkQ).mono ?_); rintro e w4 ⟨A1, k1, rfl, H4⟩; obtain ⟨xB, xL, hcB⟩ := HS.get (z := zt) H4; obtain ⟨x0, xf0⟩ := hcB 0; obtain ⟨x1, xf1⟩ := hcB 1; clear hcB); refine hK.out _ _ ?_ (fun hHeld => ?_); (focus (try dsimp only); go_keep); clear hK K; (try simp only [Act.put, qqa, qqb, qqc]))
      (refine GG.o 8 (fun K hK => ?_); (go_simp; go_at_call 207; (with_reducible refine (hT _ _ _ H4 pkQ).mono ?_); rintro e w5 ⟨A2, k2, rfl, H5⟩; obtain ⟨zB, zL, hcB⟩ := HS.get (z := zt) H5; obtain ⟨z0, zf0⟩ := hcB 0; obtain ⟨z1, zf1⟩ := hcB 1; clear hcB); refine hK.out _ _ ?_ (fun hHeld => ?_); (focus (try dsimp only); go_keep); clear hK K; (try simp only [Act.put, qqa, qqb, qqc]))
      (refine GG.k 9 ?_)
      have hA := add_s t.name hnl hnn hm A1 A2 X.length k1 X.length k2 (H5.sub (l' := boxA zk (ckC cat zb zi sv) 225 :: mapI zi n g :: rowA 274 2 sv m xs :: rowA 79 4 (.slice (some ⟨gt, 0, none⟩) nt ct) nt txs :: rowA 82 7 (.slice A X.length kk) X.length (coC X) :: allA (X.map coA) :: l) pkQ)
      (refine GG.l (fun K hK => ?_); (go_simp; go_at_call 204; (with_reducible refine hA.mono ?_); rintro e w6 ⟨rfl, sv2, H6⟩); refine hK.out _ _ ?_; clear hK K)
      go_wp2_with fail
      go_ret
      exact ⟨rfl, H6.sub pkQ⟩
end Go.Proofs.YtpnfbehbheddeaaGreatDoor
