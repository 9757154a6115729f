/- A column of a table that is right and refers to no store: column. At most 1000000 columns and owners; names of at most 1000000 bytes. A table that is right and refers to no store: table. At most 8 columns and 1000000 owners; names of at most 1000000 bytes. -/
import Derived.Test.YtgnmnaclndkmdaaGreatDoorBn36
namespace Go.Proofs.YtgnmnaclndkmdaaGreatDoor
open Go.RowKit

theorem own_cap2 {w : World} {base : Nat} {e : TypeId} {size n c : Nat} {A : Option Addr} {xs : List Value} (h : w.ownsRow base e size (.slice A n c) n xs) : n ≤ c := by
  rcases h.2 with ⟨h1, -⟩ | ⟨g, cap, cur, h1, h2, h3, h4, h5, h6, h7⟩
  · injection h1 with h1 h2 h3
    omega
  · injection h1 with h1 h8 h9
    omega
set_option maxRecDepth 100000 in
set_option maxHeartbeats 8000000 in
theorem column_ok {w : World} {l : List HA} {zk zb zi n kk i : Nat} {cat : Fin 8 → Value} {sv : Value} {g : Bs → Option Nat} {A : Option Addr} {X : List Co} (t : Tab) (hX : X.map Prod.fst = t.cols) {c : Col} {v : Value} (hi : X[i]? = some (c, v)) (hn : X.length ≤ 1000000) (hs : ∀ x ∈ X, ∃ A n c, x.2 = .slice A n c) (hol : c.owners.length ≤ 1000000)
    (hnl : c.name.length ≤ 1000000) (hsl : c.ns.length ≤ 1000000) (h1 : isNameB c.name = true) (h2 : c.ns = [] ∨ isNameB c.ns = true) (h3 : hasName X i c.name = false) (h4 : c.rf = []) (hg : g [] = none) (h5 : isTypeB c.ty = true) (h6 : ownersC t (-1) c.owners = true) (h7 : rulesC t c = true) (h8 : i ≠ 0 ∨ c.owners = [])
    (H : HS w (boxA zk (ckC cat zb zi sv) 206 :: mapI zi n g :: rowA 80 7 (.slice A X.length kk) X.length (coC X) :: allA (X.map coA) :: l)) :
    Calls Tryz.prog 159 #[.pointer (some ⟨zk, 0, none⟩), .agg #[.string ⟨t.name.toArray⟩, .slice A X.length kk, .int .i64 t.erase, .int .i64 t.retain], .int .i64 (i : Int)] w fun e w' => e = .returned (.int .i64 0) ∧ HS w' (boxA zk (ckC cat zb zi sv) 206 :: mapI zi n g :: rowA 80 7 (.slice A X.length kk) X.length (coC X) :: allA (X.map coA) :: l) := by
  obtain ⟨hlt, -⟩ := List.getElem?_eq_some_iff.1 hi
  have hmem := List.mem_of_getElem? hi
  obtain ⟨Av, cv, e, -⟩ := H.intsAt (X := X) (by with_reducible repeat constructor) hmem
  dsimp only at e
  subst e
  obtain ⟨gc, eA, hgc, hcl, -⟩ := H.rowAt (A := A) (by with_reducible repeat constructor) (fun e => by have := coC_at hi 0 _ rfl; rw [e] at this; cases this)
  subst eA
  have hcap := own_cap2 (H.row (v := .slice (some ⟨gc, 0, none⟩) X.length kk) (by with_reducible repeat constructor))
  have hik : i ≤ kk := by omega
  have hik2 : (i : Int) ≤ (kk : Int) := by omega
  have hi0 : (0 : Int) ≤ (i : Int) := by omega
  have hi1 : (i : Int) < (X.length : Int) := by omega
  have hi2 : (i : Int) ≤ (X.length : Int) := by omega
  have hC := fun w1 zc k' l1 (H1 : HS w1 (boxA zc (colC c (.slice Av c.owners.length cv)) 80 :: rowA 80 7 (.slice (some ⟨gc, 0, none⟩) X.length kk) X.length (coC X) :: l1)) => containsF_s (k := i) (k' := k') c hn hs (by omega) H1
  have hO := fun w1 l1 (H1 : HS w1 (rowA 80 7 (.slice (some ⟨gc, 0, none⟩) X.length kk) X.length (coC X) :: allA (X.map coA) :: l1)) => validOwners_s (l := rowA 80 7 (.slice (some ⟨gc, 0, none⟩) X.length kk) X.length (coC X) :: allA (X.map coA) :: l1) t hX hmem rfl hn hs H1 (by with_reducible repeat constructor) (by with_reducible repeat constructor) hol
  have hR := fun w1 => validRules_n (w := w1) (A := some ⟨gc, 0, none⟩) (Ac := Av) (n := X.length) (kk := kk) (k := cv) (m := c.owners.length) c.joint c.duty t.retain t.erase c.ty t.name c.name c.ns c.rf
  have hF := fun w1 l1 (H1 : HS w1 (boxA zk (ckC cat zb zi sv) 206 :: mapI zi n g :: l1)) => find_k [] (by simp) H1
  have hT := fun w1 => isType_c c.ty w1
  rw [rules_n] at h7
  unfold CfPost at hC
  unfold VoPost at hO
  simp only [h3] at hC
  simp only [h4, h7] at hR
  simp only [h5] at hT
  simp only [h6] at hO
  simp only [hg] at hF
  have hI1 := fun w1 => xisName ⟨c.name.toArray⟩ w1 (by show c.name.toArray.size ≤ _; simp; omega)
  have hI2 := fun w1 => xisName ⟨c.ns.toArray⟩ w1 (by show c.ns.toArray.size ≤ _; simp; omega)
  dsimp only at hI1 hI2
  simp only [h1] at hI1
  have H1 := H.alloc #[.string ⟨t.name.toArray⟩, .slice (some ⟨gc, 0, none⟩) X.length kk, .int .i64 t.erase, .int .i64 t.retain] 77
  have HRF := Lib.hid h4
  clear H h4
  go_enter Tryz.func159, Tryz.ntmps159
  go_upto_region 1 with fail
  generalize w.heap.size = zt at H1 ⊢
  generalize w.alloc _ = w0 at H1 ⊢
  obtain ⟨g2, eA, -, hcl, -⟩ := H1.rowAt (A := some ⟨gc, 0, none⟩) (by with_reducible repeat constructor) (fun e => by have := coC_at hi 0 _ rfl; rw [e] at this; cases this)
  injection eA with eA
  injection eA with eA _ _
  subst eA
  have q0 := hcl _ _ (coC_at hi 0 _ rfl)
  have q1 := hcl _ _ (coC_at hi 1 _ rfl)
  have q2 := hcl _ _ (coC_at hi 2 _ rfl)
  have q3 := hcl _ _ (coC_at hi 3 _ rfl)
  have q4 := hcl _ _ (coC_at hi 4 _ rfl)
  have q5 := hcl _ _ (coC_at hi 5 _ rfl)
  have q6 := hcl _ _ (coC_at hi 6 _ rfl)
  rw [Nat.add_zero] at q0
  dsimp only at q0 q1 q2 q3 q4 q5 q6
  have yB := HS.box (z := zt) H1 (by with_reducible repeat constructor); have yL := Box.lt yB; obtain ⟨hcB, hfB⟩ := Box.cells yB; have y1 := hcB 1; have yf1 := hfB 1; clear hcB hfB
  clear hcl hi h3 h5 h6 h7 hX hs hn hol hmem hg
  go_upto_region 2 with fail
  obtain ⟨zc, w2, ez, ew, H2⟩ := H1.alloc_ex (colC c (.slice Av c.owners.length cv)) 80
  unfold colC at ew
  rw [ew, ez]
  clear ez ew q0 q1 q2 q3 q4 q5 q6 y1 yf1 yB yL H1
  have xB := HS.box (z := zc) H2 (by with_reducible repeat constructor); have xL := Box.lt xB; obtain ⟨hcB, hfB⟩ := Box.cells xB; have x0 := hcB 0; have xf0 := hfB 0; have x1 := hcB 1; have xf1 := hfB 1; have x2 := hcB 2; have xf2 := hfB 2; have x3 := hcB 3; have xf3 := hfB 3; have x4 := hcB 4; have xf4 := hfB 4; have x5 := hcB 5; have xf5 := hfB 5; have x6 := hcB 6; have xf6 := hfB 6; clear hcB hfB; unfold colC at x0 x1 x2 x3 x4 x5 x6
  have yB := HS.box (z := zt) H2 (by with_reducible repeat constructor); have yL := Box.lt yB; obtain ⟨hcB, hfB⟩ := Box.cells yB; have y0 := hcB 0; have yf0 := hfB 0; have y1 := hcB 1; have yf1 := hfB 1; have y2 := hcB 2; have yf2 := hfB 2; have y3 := hcB 3; have yf3 := hfB 3; clear hcB hfB
  rw [HRF.out] at x3
  have hns : c.ns = [] ∨ (c.ns ≠ [] ∧ isNameB c.ns = true) := by
    by_cases e : c.ns = []
    · exact .inl e
    · exact .inr ⟨e, h2.resolve_left e⟩
  rcases hns with hns | ⟨hns, hnb⟩
  · rw [hns] at x2
    have HNS := Lib.hid hns
    clear hns h2
    go_upto_region 4 with (go_at_call 18; (with_reducible refine (hI1 _).mono ?_); rintro e w3 ⟨rfl, rfl⟩)
    have H2b := H2.sub (l' := boxA zc (colC c (.slice Av c.owners.length cv)) 80 :: rowA 80 7 (.slice (some ⟨gc, 0, none⟩) X.length kk) X.length (coC X) :: allA (X.map coA) :: boxA zt #[.string ⟨t.name.toArray⟩, .slice (some ⟨gc, 0, none⟩) X.length kk, .int .i64 t.erase, .int .i64 t.retain] 77 :: boxA zk (ckC cat zb zi sv) 206 :: mapI zi n g :: l) (by with_reducible repeat constructor)
    go_upto_region 6 with (go_at_call 188; (with_reducible refine (hC _ _ _ _ H2b).mono ?_); rintro e w3 ⟨rfl, H3⟩)
    clear H2 H2b
    have hF2 := hF _ _ (H3.sub (l' := boxA zk (ckC cat zb zi sv) 206 :: mapI zi n g :: []) (by with_reducible repeat constructor))
    have kB := HS.box (z := zc) H3 (by with_reducible repeat constructor); have kL := Box.lt kB; obtain ⟨hcB, hfB⟩ := Box.cells kB; have k0 := hcB 0; have kf0 := hfB 0; have k1 := hcB 1; have kf1 := hfB 1; have k2 := hcB 2; have kf2 := hfB 2; have k3 := hcB 3; have kf3 := hfB 3; have k4 := hcB 4; have kf4 := hfB 4; have k5 := hcB 5; have kf5 := hfB 5; have k6 := hcB 6; have kf6 := hfB 6; clear hcB hfB; unfold colC at k0 k1 k2 k3 k4 k5 k6
    rw [HRF.out] at k3
    go_upto_region 9 with (go_at_call 165; (with_reducible refine hF2.mono ?_); rintro e w4 ⟨rfl, rfl⟩)
    go_quiet ((go_at_call 190; exact Calls.quiet_of_same ((hT _).mono fun e w' h => ⟨h.1, h.2.symm⟩)))
    have H4 := H3.drewN nq
    have H4b := H4.sub (l' := rowA 80 7 (.slice (some ⟨gc, 0, none⟩) X.length kk) X.length (coC X) :: allA (X.map coA) :: boxA zt #[.string ⟨t.name.toArray⟩, .slice (some ⟨gc, 0, none⟩) X.length kk, .int .i64 t.erase, .int .i64 t.retain] 77 :: boxA zk (ckC cat zb zi sv) 206 :: mapI zi n g :: boxA zc (colC c (.slice Av c.owners.length cv)) 80 :: l) (by with_reducible repeat constructor)
    have mB := HS.box (z := zc) H4 (by with_reducible repeat constructor); have mL := Box.lt mB; obtain ⟨hcB, hfB⟩ := Box.cells mB; have m0 := hcB 0; have mf0 := hfB 0; have m1 := hcB 1; have mf1 := hfB 1; have m2 := hcB 2; have mf2 := hfB 2; have m3 := hcB 3; have mf3 := hfB 3; have m4 := hcB 4; have mf4 := hfB 4; have m5 := hcB 5; have mf5 := hfB 5; have m6 := hcB 6; have mf6 := hfB 6; clear hcB hfB; unfold colC at m0 m1 m2 m3 m4 m5 m6
    rw [HRF.out] at m3
    rw [HNS.out] at m2
    simp only [HNS.out] at hR
    have oB := HS.box (z := zt) H4 (by with_reducible repeat constructor); have oL := Box.lt oB; obtain ⟨hcB, hfB⟩ := Box.cells oB; have o0 := hcB 0; have of0 := hfB 0; have o1 := hcB 1; have of1 := hfB 1; have o2 := hcB 2; have of2 := hfB 2; have o3 := hcB 3; have of3 := hfB 3; clear hcB hfB
    have hO2 := hO _ _ H4b
    clear H3 H4 H4b hC hO hF2 hF
    go_upto_region 13 with (first
      | (go_at_call 191; (with_reducible refine hO2.mono ?_); rintro e w5 ⟨rfl, H5⟩; have pB := HS.box (z := zc) H5 (by with_reducible repeat constructor); have pL := Box.lt pB; obtain ⟨hcB, hfB⟩ := Box.cells pB; have p0 := hcB 0; have pf0 := hfB 0; have p1 := hcB 1; have pf1 := hfB 1; have p2 := hcB 2; have pf2 := hfB 2; have p3 := hcB 3; have pf3 := hfB 3; have p4 := hcB 4; have pf4 := hfB 4; have p5 := hcB 5; have pf5 := hfB 5; have p6 := hcB 6; have pf6 := hfB 6; clear hcB hfB; unfold colC at p0 p1 p2 p3 p4 p5 p6; rw [HRF.out] at p3; rw [HNS.out] at p2; have rB := HS.box (z := zt) H5 (by with_reducible repeat constructor); have rL := Box.lt rB; obtain ⟨hcB, hfB⟩ := Box.cells rB; have r0 := hcB 0; have rf0 := hfB 0; have r1 := hcB 1; have rf1 := hfB 1; have r2 := hcB 2; have rf2 := hfB 2; have r3 := hcB 3; have rf3 := hfB 3; clear hcB hfB)
      | (go_at_call 192; (with_reducible refine (hR _).mono ?_); rintro e w6 ⟨rfl, hb6⟩; have H6 := H5.below hb6))
    clear hO2 hR hT hI1 hI2 k0 k1 k2 k3 k4 k5 k6 m0 m1 m2 m3 m5 m6
    have sB := HS.box (z := zc) H6 (by with_reducible repeat constructor); have sL := Box.lt sB; obtain ⟨hcB, hfB⟩ := Box.cells sB; have s4 := hcB 4; have sf4 := hfB 4; clear hcB hfB; unfold colC at s4
    have uB := HS.box (z := zt) H6 (by with_reducible repeat constructor); have uL := Box.lt uB; obtain ⟨hcB, hfB⟩ := Box.cells uB; have u2 := hcB 2; have uf2 := hfB 2; clear hcB hfB
    by_cases hz : i = 0
    · have l0 : ¬ 0 < c.owners.length := by rw [h8.resolve_left (fun e => e hz)]; simp
      subst hz
      clear h8
      go_wp2_with fail
      go_ret
      exact ⟨rfl, H6.sub (by with_reducible repeat constructor)⟩
    · have e3 : ((i : Int) == 0) = false := by simp; omega
      clear h8
      go_wp2_with fail
      go_ret
      exact ⟨rfl, H6.sub (by with_reducible repeat constructor)⟩
  · have e1 : (c.ns == []) = false := by simpa using hns
    have e2 : (c.ns != []) = true := by simpa using hns
    rw [hnb] at hI2
    clear hns hnb h2
    go_upto_region 4 with (first
      | (go_at_call 18; (with_reducible refine (hI1 _).mono ?_); rintro e w3 ⟨rfl, rfl⟩)
      | (go_at_call 18; (with_reducible refine (hI2 _).mono ?_); rintro e w3 ⟨rfl, rfl⟩))
    have H2b := H2.sub (l' := boxA zc (colC c (.slice Av c.owners.length cv)) 80 :: rowA 80 7 (.slice (some ⟨gc, 0, none⟩) X.length kk) X.length (coC X) :: allA (X.map coA) :: boxA zt #[.string ⟨t.name.toArray⟩, .slice (some ⟨gc, 0, none⟩) X.length kk, .int .i64 t.erase, .int .i64 t.retain] 77 :: boxA zk (ckC cat zb zi sv) 206 :: mapI zi n g :: l) (by with_reducible repeat constructor)
    go_upto_region 6 with (go_at_call 188; (with_reducible refine (hC _ _ _ _ H2b).mono ?_); rintro e w3 ⟨rfl, H3⟩)
    clear H2 H2b
    have hF2 := hF _ _ (H3.sub (l' := boxA zk (ckC cat zb zi sv) 206 :: mapI zi n g :: []) (by with_reducible repeat constructor))
    have kB := HS.box (z := zc) H3 (by with_reducible repeat constructor); have kL := Box.lt kB; obtain ⟨hcB, hfB⟩ := Box.cells kB; have k0 := hcB 0; have kf0 := hfB 0; have k1 := hcB 1; have kf1 := hfB 1; have k2 := hcB 2; have kf2 := hfB 2; have k3 := hcB 3; have kf3 := hfB 3; have k4 := hcB 4; have kf4 := hfB 4; have k5 := hcB 5; have kf5 := hfB 5; have k6 := hcB 6; have kf6 := hfB 6; clear hcB hfB; unfold colC at k0 k1 k2 k3 k4 k5 k6
    rw [HRF.out] at k3
    go_upto_region 9 with (go_at_call 165; (with_reducible refine hF2.mono ?_); rintro e w4 ⟨rfl, rfl⟩)
    go_quiet ((go_at_call 190; exact Calls.quiet_of_same ((hT _).mono fun e w' h => ⟨h.1, h.2.symm⟩)))
    have H4 := H3.drewN nq
    have H4b := H4.sub (l' := rowA 80 7 (.slice (some ⟨gc, 0, none⟩) X.length kk) X.length (coC X) :: allA (X.map coA) :: boxA zt #[.string ⟨t.name.toArray⟩, .slice (some ⟨gc, 0, none⟩) X.length kk, .int .i64 t.erase, .int .i64 t.retain] 77 :: boxA zk (ckC cat zb zi sv) 206 :: mapI zi n g :: boxA zc (colC c (.slice Av c.owners.length cv)) 80 :: l) (by with_reducible repeat constructor)
    have mB := HS.box (z := zc) H4 (by with_reducible repeat constructor); have mL := Box.lt mB; obtain ⟨hcB, hfB⟩ := Box.cells mB; have m0 := hcB 0; have mf0 := hfB 0; have m1 := hcB 1; have mf1 := hfB 1; have m2 := hcB 2; have mf2 := hfB 2; have m3 := hcB 3; have mf3 := hfB 3; have m4 := hcB 4; have mf4 := hfB 4; have m5 := hcB 5; have mf5 := hfB 5; have m6 := hcB 6; have mf6 := hfB 6; clear hcB hfB; unfold colC at m0 m1 m2 m3 m4 m5 m6
    rw [HRF.out] at m3
    have oB := HS.box (z := zt) H4 (by with_reducible repeat constructor); have oL := Box.lt oB; obtain ⟨hcB, hfB⟩ := Box.cells oB; have o0 := hcB 0; have of0 := hfB 0; have o1 := hcB 1; have of1 := hfB 1; have o2 := hcB 2; have of2 := hfB 2; have o3 := hcB 3; have of3 := hfB 3; clear hcB hfB
    have hO2 := hO _ _ H4b
    clear H3 H4 H4b hC hO hF2 hF
    go_upto_region 13 with (first
      | (go_at_call 191; (with_reducible refine hO2.mono ?_); rintro e w5 ⟨rfl, H5⟩; have pB := HS.box (z := zc) H5 (by with_reducible repeat constructor); have pL := Box.lt pB; obtain ⟨hcB, hfB⟩ := Box.cells pB; have p0 := hcB 0; have pf0 := hfB 0; have p1 := hcB 1; have pf1 := hfB 1; have p2 := hcB 2; have pf2 := hfB 2; have p3 := hcB 3; have pf3 := hfB 3; have p4 := hcB 4; have pf4 := hfB 4; have p5 := hcB 5; have pf5 := hfB 5; have p6 := hcB 6; have pf6 := hfB 6; clear hcB hfB; unfold colC at p0 p1 p2 p3 p4 p5 p6; rw [HRF.out] at p3; have rB := HS.box (z := zt) H5 (by with_reducible repeat constructor); have rL := Box.lt rB; obtain ⟨hcB, hfB⟩ := Box.cells rB; have r0 := hcB 0; have rf0 := hfB 0; have r1 := hcB 1; have rf1 := hfB 1; have r2 := hcB 2; have rf2 := hfB 2; have r3 := hcB 3; have rf3 := hfB 3; clear hcB hfB)
      | (go_at_call 192; (with_reducible refine (hR _).mono ?_); rintro e w6 ⟨rfl, hb6⟩; have H6 := H5.below hb6))
    clear hO2 hR hT hI1 hI2 k0 k1 k2 k3 k4 k5 k6 m0 m1 m2 m3 m5 m6
    have sB := HS.box (z := zc) H6 (by with_reducible repeat constructor); have sL := Box.lt sB; obtain ⟨hcB, hfB⟩ := Box.cells sB; have s4 := hcB 4; have sf4 := hfB 4; clear hcB hfB; unfold colC at s4
    have uB := HS.box (z := zt) H6 (by with_reducible repeat constructor); have uL := Box.lt uB; obtain ⟨hcB, hfB⟩ := Box.cells uB; have u2 := hcB 2; have uf2 := hfB 2; clear hcB hfB
    by_cases hz : i = 0
    · have l0 : ¬ 0 < c.owners.length := by rw [h8.resolve_left (fun e => e hz)]; simp
      subst hz
      clear h8
      go_wp2_with fail
      go_ret
      exact ⟨rfl, H6.sub (by with_reducible repeat constructor)⟩
    · have e3 : ((i : Int) == 0) = false := by simp; omega
      clear h8
      go_wp2_with fail
      go_ret
      exact ⟨rfl, H6.sub (by with_reducible repeat constructor)⟩
end Go.Proofs.YtgnmnaclndkmdaaGreatDoor
namespace Go.Proofs.YtgnmnaclndkmdaaGreatDoor
open Go.RowKit

structure ColOk (t : Tab) (X : List Co) (i : Nat) (c : Col) : Prop where
  ol : c.owners.length ≤ 1000000
  nl : c.name.length ≤ 1000000
  sl : c.ns.length ≤ 1000000
  n : isNameB c.name = true
  s : c.ns = [] ∨ isNameB c.ns = true
  d : hasName X i c.name = false
  r : c.rf = []
  y : isTypeB c.ty = true
  o : ownersC t (-1) c.owners = true
  u : rulesC t c = true
  z : i ≠ 0 ∨ c.owners = []
def TbPost (l : List HA) (e : Ending) (w' : World) : Prop := e = .returned (.int .i64 0) ∧ HS w' l
set_option maxRecDepth 100000 in
set_option maxHeartbeats 8000000 in
theorem table_ok {w : World} {l : List HA} {zk zb zi n m nt ct kk : Nat} {cat : Fin 8 → Value} {sv : Value} {q : List Bs} {g : Bs → Option Nat} {A At : Option Addr} {X : List Co} {xs txs : List Value} (t : Tab) (hX : X.map Prod.fst = t.cols) (hn : 1 ≤ X.length) (hn8 : X.length ≤ 8) (hq : q.length ≤ 1000000) (hnn : n ≤ 1000000) (hm : m ≤ 1000000)
    (hnl : t.name.length ≤ 1000000) (h1 : declC ⟨q, []⟩ t.name = 0) (h2 : t.erase = 0) (h3 : withinI t.retain 0 1048576 = true) (hc : ∀ i c v, X[i]? = some (c, v) → ColOk t X i c) (hg : g [] = none) (h0 : cat 0 = .slice At nt ct) (hnt : 0 < nt) (hntl : nt ≤ 1000000)
    (htx : ∀ (j : Nat) (u : Value), (#[.string ⟨t.name.toArray⟩, .slice A X.length kk, .int .i64 t.erase, .int .i64 t.retain] : Array Value).toList[j]? = some u → txs[j]? = some u)
    (H : HS w (boxA zk (ckC cat zb zi sv) 206 :: mapB zb q :: mapI zi n g :: rowA 249 2 sv m xs :: rowA 77 4 (.slice At nt ct) nt txs :: rowA 80 7 (.slice A X.length kk) X.length (coC X) :: allA (X.map coA) :: l)) :
    Calls Tryz.prog 116 #[.pointer (some ⟨zk, 0, none⟩), .int .i64 0] w (TbPost (rowA 77 4 (.slice At nt ct) nt txs :: rowA 80 7 (.slice A X.length kk) X.length (coC X) :: allA (X.map coA) :: l)) := by
  have hs : ∀ x ∈ X, ∃ A n c, x.2 = .slice A n c := fun x hx => by
    obtain ⟨A, c, e, -⟩ := H.intsAt (X := X) (by with_reducible repeat constructor) hx
    exact ⟨A, _, c, e⟩
  obtain ⟨gt, eA, hgt, hct, -⟩ := H.rowAt (A := At) (by with_reducible repeat constructor) (fun e => by have := htx 0 _ rfl; rw [e] at this; cases this)
  subst eA
  have t0 := hct _ _ (htx 0 _ rfl)
  have t1 := hct _ _ (htx 1 _ rfl)
  have t2 := hct _ _ (htx 2 _ rfl)
  have t3 := hct _ _ (htx 3 _ rfl)
  rw [h2] at t2 htx
  have dB := HS.box (z := zk) H (by with_reducible repeat constructor); have dL := Box.lt dB; obtain ⟨hcB, hfB⟩ := Box.cells dB; have d0 := hcB 0; have df0 := hfB 0; clear hcB hfB; unfold ckC at d0
  rw [h0] at d0
  have hnt2 : (0 : Int) < (nt : Int) := by omega
  have hC := fun w1 l1 i c v (hi : X[i]? = some (c, v)) (H1 : HS w1 (boxA zk (ckC cat zb zi sv) 206 :: mapI zi n g :: rowA 80 7 (.slice A X.length kk) X.length (coC X) :: allA (X.map coA) :: l1)) => column_ok t hX hi (by omega) hs (hc i c v hi).ol (hc i c v hi).nl (hc i c v hi).sl (hc i c v hi).n (hc i c v hi).s (hc i c v hi).d (hc i c v hi).r hg (hc i c v hi).y (hc i c v hi).o (hc i c v hi).u (hc i c v hi).z H1
  have hW1 := fun w1 => within_c (X.length : Int) 1 8 w1
  have hW2 := fun w1 => within_c t.retain 0 1048576 w1
  simp only [h3] at hW2
  simp only [show withinI (X.length : Int) 1 8 = true by unfold withinI; simp; omega] at hW1
  simp only [h2] at hC
  have hN := fun w1 l1 l2 (H1 : HS w1 l1) (hp : Pick l1 (rowA 80 7 (.slice A X.length kk) X.length (coC X)) l2) => collectN_s (by omega) hs H1 hp
  have hT := fun w1 l1 l2 (H1 : HS w1 l1) (hp : Pick l1 (rowA 80 7 (.slice A X.length kk) X.length (coC X)) l2) => collectT_s (by omega) hs H1 hp
  have hD := fun w1 l1 (H1 : HS w1 (boxA zk (ckC cat zb zi sv) 206 :: mapB zb q :: l1)) => declare_s t.name hnl hq H1
  simp only [h1, if_true] at hD
  unfold CnPost at hN
  unfold CtPost at hT
  clear hct htx hs h1 h2 h3 h0 hg hc hX
  go_enter Tryz.func116, Tryz.ntmps116
  go_upto_region 2 with fail
  obtain ⟨zt, w1, ez, ew, H1⟩ := H.alloc_ex #[.string ⟨t.name.toArray⟩, .slice A X.length kk, .int .i64 0, .int .i64 t.retain] 77
  rw [ew, ez]
  clear ez ew t0 t1 t2 t3 d0 df0 dB dL H
  have xB := HS.box (z := zt) H1 (by with_reducible repeat constructor); have xL := Box.lt xB; obtain ⟨hcB, hfB⟩ := Box.cells xB; have x0 := hcB 0; have xf0 := hfB 0; have x1 := hcB 1; have xf1 := hfB 1; have x2 := hcB 2; have xf2 := hfB 2; have x3 := hcB 3; have xf3 := hfB 3; clear hcB hfB
  have H1b := H1.sub (l' := boxA zk (ckC cat zb zi sv) 206 :: mapB zb q :: boxA zt #[.string ⟨t.name.toArray⟩, .slice A X.length kk, .int .i64 0, .int .i64 t.retain] 77 :: mapI zi n g :: rowA 249 2 sv m xs :: rowA 77 4 (.slice (some ⟨gt, 0, none⟩) nt ct) nt txs :: rowA 80 7 (.slice A X.length kk) X.length (coC X) :: allA (X.map coA) :: l) (by with_reducible repeat constructor)
  go_upto_region 5 with (go_at_call 157; (with_reducible refine (hD _ _ H1b).mono ?_); rintro e w2 ⟨rfl, H2⟩)
  clear H1 H1b x0 x1 x2 x3 hD
  have yB := HS.box (z := zt) H2 (by with_reducible repeat constructor); have yL := Box.lt yB; obtain ⟨hcB, hfB⟩ := Box.cells yB; have y0 := hcB 0; have yf0 := hfB 0; have y1 := hcB 1; have yf1 := hfB 1; have y2 := hcB 2; have yf2 := hfB 2; have y3 := hcB 3; have yf3 := hfB 3; clear hcB hfB
  go_upto_region 8 with (first
    | (go_at_call 158; (with_reducible refine (hW1 _).mono ?_); rintro e w3 ⟨rfl, rfl⟩)
    | (go_at_call 158; (with_reducible refine (hW2 _).mono ?_); rintro e w3 ⟨rfl, rfl⟩))
  clear hW1 hW2
  go_loopw [48] (fun v48 wr => ∃ i : Nat, v48 = .int .i64 (i : Int) ∧ i ≤ X.length ∧ HS wr (boxA zk (ckC cat zb zi sv) 206 :: mapI zi n g :: rowA 80 7 (.slice A X.length kk) X.length (coC X) :: allA (X.map coA) :: mapB zb (q ++ [t.name]) :: boxA zt #[.string ⟨t.name.toArray⟩, .slice A X.length kk, .int .i64 0, .int .i64 t.retain] 77 :: rowA 249 2 sv m xs :: rowA 77 4 (.slice (some ⟨gt, 0, none⟩) nt ct) nt txs :: l)) (fun v48 _ => X.length - (intOf v48).toNat)
  case atStart => exact ⟨0, rfl, by omega, H2.sub (by with_reducible repeat constructor)⟩
  case round =>
    obtain ⟨i, rfl, hi, Hr⟩ := hrel
    clear H2 y0 y1 y2 y3 yf0 yf1 yf2 yf3 yB yL
    have yB := HS.box (z := zt) Hr (by with_reducible repeat constructor); have yL := Box.lt yB; obtain ⟨hcB, hfB⟩ := Box.cells yB; have y0 := hcB 0; have yf0 := hfB 0; have y1 := hcB 1; have yf1 := hfB 1; have y2 := hcB 2; have yf2 := hfB 2; have y3 := hcB 3; have yf3 := hfB 3; clear hcB hfB
    by_cases hlt : i < X.length
    · have h1 : (i : Int) < (X.length : Int) := by omega
      obtain ⟨⟨c, v⟩, hcv⟩ : ∃ x, X[i]? = some x := ⟨_, List.getElem?_eq_getElem hlt⟩
      have hF := hC _ _ i c v hcv Hr
      clear hcv Hr
      go_wp2_with (go_at_call 159; (with_reducible refine hF.mono ?_); rintro e w3 ⟨rfl, H3⟩)
      go_roundw
      case rel => exact ⟨i + 1, by go_num, by omega, H3⟩
      case measure => simp [intOf]; omega
    · obtain rfl : i = X.length := by omega
      have h1 : ¬ (X.length : Int) < (X.length : Int) := by omega
      clear hC
      go_upto_region 14 with fail
      (refine wp_region_G 10 (fun w' => w'.cell? ⟨zt, 0, none⟩ = some (.string ⟨t.name.toArray⟩) ∧ w'.cell? ⟨zt, 1, none⟩ = some (.slice A X.length kk)) (by kernel_rfl) ?_ (fun hHeld => ?_); (focus (try dsimp only); go_keep))
      (refine GG.tk 0 (v := ?_) rfl (by kernel_rfl) (fun _ _ _ h => h) (by rfl) (by assumption) ?_ ?_; rotate_left; (focus (intro w h; (try dsimp only at h); go_simp; (try with_reducible rfl))); (try simp only [Act.put, qqa]); refine GG.tk 1 (v := ?_) rfl (by kernel_rfl) (fun _ _ _ h => h) (by rfl) (by assumption) ?_ ?_; rotate_left; (focus (intro w h; (try dsimp only at h); go_simp; (try with_reducible rfl))); (try simp only [Act.put]); refine GG.tk 2 (v := ?_) rfl (by kernel_rfl) (fun _ _ _ h => h) (by rfl) (by assumption) ?_ ?_; rotate_left; (focus (intro w h; (try dsimp only at h); go_simp; (try with_reducible rfl))); (try simp only [Act.put]); refine GG.tk 3 (v := ?_) rfl (by kernel_rfl) (fun _ _ _ h => h) (by rfl) (by assumption) ?_ ?_; rotate_left; (focus (intro w h; (try dsimp only at h); go_simp; (try with_reducible rfl))); (try simp only [Act.put]); refine GG.tk 4 (v := ?_) rfl (by kernel_rfl) (fun _ _ _ h => h) (by rfl) (by assumption) ?_ ?_; rotate_left; (focus (intro w h; (try dsimp only at h); go_simp; (try with_reducible rfl))); (try simp only [Act.put]); refine GG.tk 6 (v := ?_) rfl (by kernel_rfl) (fun _ _ _ h => h) (by rfl) (by assumption) ?_ ?_; rotate_left; (focus (intro w h; (try dsimp only at h); go_simp; (try with_reducible rfl))); (try simp only [Act.put]); refine GG.tk 7 (v := ?_) rfl (by kernel_rfl) (fun _ _ _ h => h) (by rfl) (by assumption) ?_ ?_; rotate_left; (focus (intro w h; (try dsimp only at h); go_simp; (try with_reducible rfl))); (try simp only [Act.put]))
      (refine GG.one 5 (by kernel_rfl) (by decide) rfl (fun K hK => ?_); (go_simp; go_at_call 161; (with_reducible refine (hN _ _ _ Hr.drew (by with_reducible repeat constructor)).mono ?_); rintro e w4 ⟨A1, k1, rfl, H4⟩; have xB := HS.box (z := zt) H4 (by with_reducible repeat constructor); have xL := Box.lt xB; obtain ⟨hcB, hfB⟩ := Box.cells xB; have x0 := hcB 0; have xf0 := hfB 0; have x1 := hcB 1; have xf1 := hfB 1; clear hcB hfB); refine hK.out _ _ ?_ (fun hHeld => ?_); (focus (try dsimp only); go_keep); clear hK K; (try simp only [Act.put, qqa, qqb, qqc]))
      (refine GG.one 8 (by kernel_rfl) (by decide) rfl (fun K hK => ?_); (go_simp; go_at_call 163; (with_reducible refine (hT _ _ _ H4 (by with_reducible repeat constructor)).mono ?_); rintro e w5 ⟨A2, k2, rfl, H5⟩; have zB := HS.box (z := zt) H5 (by with_reducible repeat constructor); have zL := Box.lt zB; obtain ⟨hcB, hfB⟩ := Box.cells zB; have z0 := hcB 0; have zf0 := hfB 0; have z1 := hcB 1; have zf1 := hfB 1; clear hcB hfB); refine hK.out _ _ ?_ (fun hHeld => ?_); (focus (try dsimp only); go_keep); clear hK K; (try simp only [Act.put, qqa, qqb, qqc]))
      (refine GG.tk 9 (v := ?_) rfl (by kernel_rfl) (fun _ _ _ h => h) (by rfl) (by assumption) ?_ ?_; rotate_left; (focus (intro w h; (try dsimp only at h); go_simp; (try with_reducible rfl))); (try simp only [Act.put, qqa]))
      have hA := add_s t.name hnl hnn hm A1 A2 X.length k1 X.length k2 (H5.sub (l' := boxA zk (ckC cat zb zi sv) 206 :: mapI zi n g :: rowA 249 2 sv m xs :: rowA 77 4 (.slice (some ⟨gt, 0, none⟩) nt ct) nt txs :: rowA 80 7 (.slice A X.length kk) X.length (coC X) :: allA (X.map coA) :: l) (by with_reducible repeat constructor))
      (refine GG.last (by kernel_rfl) (by kernel_rfl) rfl (fun K hK => ?_); (go_simp; go_at_call 160; (with_reducible refine hA.mono ?_); rintro e w6 ⟨rfl, sv2, H6⟩); refine hK.out _ _ ?_; clear hK K)
      go_wp2_with fail
      go_ret
      exact ⟨rfl, H6.sub (by with_reducible repeat constructor)⟩
end Go.Proofs.YtgnmnaclndkmdaaGreatDoor
