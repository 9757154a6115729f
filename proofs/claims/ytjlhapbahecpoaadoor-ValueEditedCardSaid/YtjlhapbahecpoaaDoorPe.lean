/- Contract of the reference's Parse: strings of at most a hundred thousand bytes. -/
import Derived.Test.YtjlhapbahecpoaaDoorPd
import Derived.Test.YtjlhapbahecpoaaDoorTb
import Derived.Test.YtjlhapbahecpoaaDoorDd
namespace Go.Proofs.YtjlhapbahecpoaaDoor
open Go.RowKit

theorem digs_34 {l : List UInt8} (h : l.head? = some 34) : decB (digs l) = false := by
  cases l with
  | nil => simp at h
  | cons c r =>
    simp at h
    subst h
    have : digs (34 :: r) = 34 :: r := by simp [digs]
    rw [this]
    exact decB_not (k := 0) rfl (by decide)
theorem parse_none {l : List UInt8} (h0 : l ≠ nullL) (h : (unqO l).2 = 0) : parseO l = pInt l := by
  unfold parseO
  rw [if_neg h0]
  split
  · rename_i h1
    have hu : unqR (l.drop 1) = none := by
      unfold unqO at h
      rw [if_pos h1] at h
      cases hu : unqR (l.drop 1) with
      | none => rfl
      | some x => obtain ⟨t, n⟩ := x; rw [hu] at h; simp at h
    rw [pText_none hu]
    unfold pInt
    rw [if_pos (.inl (digs_34 h1))]
  · rfl
theorem parse_some {l t : List UInt8} {n : Nat} (h0 : l ≠ nullL) (h : unqO l = (t, n)) (hn : 0 < n) : parseO l = if n ≠ l.length then (V.null, 2) else if 32 < t.length then (V.null, 1) else (⟨2, 0, ⟨t.toArray⟩⟩, 0) := by
  unfold parseO
  rw [if_neg h0]
  unfold unqO at h
  split at h
  · rename_i h1
    rw [if_pos h1]
    cases hu : unqR (l.drop 1) with
    | none => rw [hu] at h; simp at h; omega
    | some x =>
      obtain ⟨t', n'⟩ := x
      rw [hu] at h
      simp only [Prod.mk.injEq] at h
      obtain ⟨rfl, rfl⟩ := h
      exact pText_some hu
  · simp at h; omega
set_option maxRecDepth 100000 in
set_option maxHeartbeats 2000000 in
theorem rparse_num (s : ByteArray) (w : World) (hs : s.size ≤ 100000) (t0 : (s.toList == [110, 117, 108, 108]) = false) (hx : unqO s.data.toList = ([], 0)) : Calls Tryd.prog 40 #[.string s] w (VePost w (pInt s.data.toList)) := by
  have HX := Lib.hid hx
  have hQ := unquote_c s
  clear hx
  by_cases hh : s.data.toList.head? = some 45
  · have hz : 0 < s.size := by
      rcases Nat.eq_zero_or_pos s.size with h | h
      · rw [List.eq_nil_of_length_eq_zero (show s.data.toList.length = 0 by rw [← Lib.size_eq]; exact h)] at hh; simp at hh
      · exact h
    have hng : negB s.data.toList = true := by unfold negB; simpa using hh
    have g1 : (0 : Int) < (s.size : Int) := by omega
    have g2 : (1 : Int) ≤ (s.size : Int) := by omega
    have hix := run_idx (s := s) (k := 0) (c := 45) (by rw [← head_at]; exact hh)
    simp only [Int.natCast_zero] at hix
    have hdl : (s.extract 1 s.size).data.toList = digs s.data.toList := by rw [drop_size]; unfold digs; rw [if_pos hh]
    have hN := fun w => number_c (s.extract 1 s.size) w (by rw [Lib.size_eq, drop_size, List.length_drop, ← Lib.size_eq]; omega)
    rw [hdl] at hN
    clear hdl hh
    cases hd : decB (digs s.data.toList)
    · have HR := Lib.hid (show pInt s.data.toList = (V.null, 2) by unfold pInt; rw [if_pos (.inl hd)])
      have HO := Lib.hid (numO_not hd)
      clear hd
      go_enter Tryd.func40, Tryd.ntmps40
      go_wp2_with (first
          | (go_at_call 58; refine (hQ _ hs).mono ?_; rintro e w2 ⟨rfl, hb2⟩; rw [HX.out]; obtain ⟨hc2, hf2⟩ := bcell hb2; have hz2 := (hb2).size; (try simp at hz2); have hl20 : w.heap.size < w2.heap.size := (by omega)))
      go_quiet (fail)
      have hfd : ∀ n p, (w2.drewN n).frozen? p = w2.frozen? p := fun _ _ => rfl
      have hcd : ∀ n p, (w2.drewN n).cell? p = w2.cell? p := fun _ _ => rfl
      have hzd : ∀ n, (w2.drewN n).heap.size = w2.heap.size := fun _ => rfl
      go_wp2_with (first
          | (go_at_call 58; refine (hQ _ hs).mono ?_; rintro e w2 ⟨rfl, hb2⟩; rw [HX.out]; obtain ⟨hc2, hf2⟩ := bcell hb2; have hz2 := (hb2).size; (try simp at hz2); have hl20 : w.heap.size < w2.heap.size := (by omega))
          | (go_at_call 60; refine (hN _).mono ?_; rintro e w3 ⟨rfl, rfl⟩; rw [HO.out])
          | (go_at_call 61; refine (rint _ _).mono ?_; rintro e w4 ⟨rfl, hb4⟩; rw [HK.out]; (obtain ⟨hc4, hf4⟩ := bcell hb4; have hz4 := (hb4).size; (try simp at hz4); have hl40 : w.heap.size < w4.heap.size := (by omega)); have hc40 : ∀ o, w4.cell? ⟨w.heap.size, o, none⟩ = w2.cell? ⟨w.heap.size, o, none⟩ := (fun o => hb4.cell (p := ⟨w.heap.size, o, none⟩) hl20); have hf40 : ∀ o, w4.frozen? ⟨w.heap.size, o, none⟩ = w2.frozen? ⟨w.heap.size, o, none⟩ := (fun o => hb4.frozen (p := ⟨w.heap.size, o, none⟩) hl20); clear hc4 hf4))
      refine bodyPost_ret (by simp [results, Tryd.results40, go_sem, hc2, hl20]; rfl) rfl ?_
      unfold VePost
      rw [HR.out]
      exact ⟨rfl, by (repeat (first | (with_reducible exact Below.refl _ _) | (with_reducible assumption) | (with_reducible refine Below.drew ?_) | (with_reducible refine below_drewN ?_ _) | ((with_reducible refine Below.setCell ?_ ?_ _); rotate_left; (focus (first | (simp; done) | (simp; omega) | omega))) | ((with_reducible refine Below.alloc ?_ ?_ _); rotate_left; (focus (first | (simp; done) | (simp; omega) | omega))) | ((with_reducible apply below_step1); (focus (with_reducible assumption)))))⟩
    by_cases hv : valF 0 (digs s.data.toList) = 0
    · have HR := Lib.hid (show pInt s.data.toList = (V.null, 2) by unfold pInt; rw [if_pos (.inr ⟨hng, hv⟩)])
      have HO := Lib.hid (show numO (digs s.data.toList) = (0, true) by unfold numO; rw [if_pos hd, hv]; rfl)
      clear hd hv
      go_enter Tryd.func40, Tryd.ntmps40
      go_wp2_with (first
          | (go_at_call 58; refine (hQ _ hs).mono ?_; rintro e w2 ⟨rfl, hb2⟩; rw [HX.out]; obtain ⟨hc2, hf2⟩ := bcell hb2; have hz2 := (hb2).size; (try simp at hz2); have hl20 : w.heap.size < w2.heap.size := (by omega)))
      go_quiet (fail)
      have hfd : ∀ n p, (w2.drewN n).frozen? p = w2.frozen? p := fun _ _ => rfl
      have hcd : ∀ n p, (w2.drewN n).cell? p = w2.cell? p := fun _ _ => rfl
      have hzd : ∀ n, (w2.drewN n).heap.size = w2.heap.size := fun _ => rfl
      go_wp2_with (first
          | (go_at_call 58; refine (hQ _ hs).mono ?_; rintro e w2 ⟨rfl, hb2⟩; rw [HX.out]; obtain ⟨hc2, hf2⟩ := bcell hb2; have hz2 := (hb2).size; (try simp at hz2); have hl20 : w.heap.size < w2.heap.size := (by omega))
          | (go_at_call 60; refine (hN _).mono ?_; rintro e w3 ⟨rfl, rfl⟩; rw [HO.out])
          | (go_at_call 61; refine (rint _ _).mono ?_; rintro e w4 ⟨rfl, hb4⟩; rw [HK.out]; (obtain ⟨hc4, hf4⟩ := bcell hb4; have hz4 := (hb4).size; (try simp at hz4); have hl40 : w.heap.size < w4.heap.size := (by omega)); have hc40 : ∀ o, w4.cell? ⟨w.heap.size, o, none⟩ = w2.cell? ⟨w.heap.size, o, none⟩ := (fun o => hb4.cell (p := ⟨w.heap.size, o, none⟩) hl20); have hf40 : ∀ o, w4.frozen? ⟨w.heap.size, o, none⟩ = w2.frozen? ⟨w.heap.size, o, none⟩ := (fun o => hb4.frozen (p := ⟨w.heap.size, o, none⟩) hl20); clear hc4 hf4))
      refine bodyPost_ret (by simp [results, Tryd.results40, go_sem, hc2, hl20]; rfl) rfl ?_
      unfold VePost
      rw [HR.out]
      exact ⟨rfl, by (repeat (first | (with_reducible exact Below.refl _ _) | (with_reducible assumption) | (with_reducible refine Below.drew ?_) | (with_reducible refine below_drewN ?_ _) | ((with_reducible refine Below.setCell ?_ ?_ _); rotate_left; (focus (first | (simp; done) | (simp; omega) | omega))) | ((with_reducible refine Below.alloc ?_ ?_ _); rotate_left; (focus (first | (simp; done) | (simp; omega) | omega))) | ((with_reducible apply below_step1); (focus (with_reducible assumption)))))⟩
    by_cases hb : 4294967296 < valF 0 (digs s.data.toList)
    · have HR := Lib.hid (show pInt s.data.toList = (V.null, 1) by unfold pInt; rw [if_neg (fun h => h.elim (fun h => by rw [hd] at h; cases h) (fun h => hv h.2)), if_pos hb])
      have HO := Lib.hid (show numO (digs s.data.toList) = (4294967297, true) by unfold numO; rw [if_pos hd, show min (valF 0 (digs s.data.toList) : Int) 4294967297 = 4294967297 by omega])
      clear hd hb
      go_enter Tryd.func40, Tryd.ntmps40
      go_wp2_with (first
          | (go_at_call 58; refine (hQ _ hs).mono ?_; rintro e w2 ⟨rfl, hb2⟩; rw [HX.out]; obtain ⟨hc2, hf2⟩ := bcell hb2; have hz2 := (hb2).size; (try simp at hz2); have hl20 : w.heap.size < w2.heap.size := (by omega)))
      go_quiet (fail)
      have hfd : ∀ n p, (w2.drewN n).frozen? p = w2.frozen? p := fun _ _ => rfl
      have hcd : ∀ n p, (w2.drewN n).cell? p = w2.cell? p := fun _ _ => rfl
      have hzd : ∀ n, (w2.drewN n).heap.size = w2.heap.size := fun _ => rfl
      go_wp2_with (first
          | (go_at_call 58; refine (hQ _ hs).mono ?_; rintro e w2 ⟨rfl, hb2⟩; rw [HX.out]; obtain ⟨hc2, hf2⟩ := bcell hb2; have hz2 := (hb2).size; (try simp at hz2); have hl20 : w.heap.size < w2.heap.size := (by omega))
          | (go_at_call 60; refine (hN _).mono ?_; rintro e w3 ⟨rfl, rfl⟩; rw [HO.out])
          | (go_at_call 61; refine (rint _ _).mono ?_; rintro e w4 ⟨rfl, hb4⟩; rw [HK.out]; (obtain ⟨hc4, hf4⟩ := bcell hb4; have hz4 := (hb4).size; (try simp at hz4); have hl40 : w.heap.size < w4.heap.size := (by omega)); have hc40 : ∀ o, w4.cell? ⟨w.heap.size, o, none⟩ = w2.cell? ⟨w.heap.size, o, none⟩ := (fun o => hb4.cell (p := ⟨w.heap.size, o, none⟩) hl20); have hf40 : ∀ o, w4.frozen? ⟨w.heap.size, o, none⟩ = w2.frozen? ⟨w.heap.size, o, none⟩ := (fun o => hb4.frozen (p := ⟨w.heap.size, o, none⟩) hl20); clear hc4 hf4))
      refine bodyPost_ret (by simp [results, Tryd.results40, go_sem, hc2, hl20]; rfl) rfl ?_
      unfold VePost
      rw [HR.out]
      exact ⟨rfl, by (repeat (first | (with_reducible exact Below.refl _ _) | (with_reducible assumption) | (with_reducible refine Below.drew ?_) | (with_reducible refine below_drewN ?_ _) | ((with_reducible refine Below.setCell ?_ ?_ _); rotate_left; (focus (first | (simp; done) | (simp; omega) | omega))) | ((with_reducible refine Below.alloc ?_ ?_ _); rotate_left; (focus (first | (simp; done) | (simp; omega) | omega))) | ((with_reducible apply below_step1); (focus (with_reducible assumption)))))⟩
    · have HR := Lib.hid (show pInt s.data.toList = (⟨1, -(valF 0 (digs s.data.toList) : Int), ⟨#[]⟩⟩, 0) by unfold pInt; rw [if_neg (fun h => h.elim (fun h => by rw [hd] at h; cases h) (fun h => hv h.2)), if_neg hb, hng]; rfl)
      have HO := Lib.hid (show numO (digs s.data.toList) = ((valF 0 (digs s.data.toList) : Int), true) by unfold numO; rw [if_pos hd, show min (valF 0 (digs s.data.toList) : Int) 4294967297 = valF 0 (digs s.data.toList) by omega])
      generalize valF 0 (digs s.data.toList) = U at HR HO hb hv
      have HK := Lib.hid (V.cl_of (v := ⟨1, -(U : Int), ⟨#[]⟩⟩) (by rw [okInt _ U (.inr rfl)]; simpa using hb))
      have m1 : IntKind.i64.wrap (-(U : Int)) = -(U : Int) := IntWalk.i64_in _ (by omega)
      have m2 : ¬ (4294967296 : Int) < (U : Int) := by omega
      have m3 : ((U : Int) == 0) = false := by rw [beq_eq_false_iff_ne]; omega
      clear hd
      go_enter Tryd.func40, Tryd.ntmps40
      go_wp2_with (first
          | (go_at_call 58; refine (hQ _ hs).mono ?_; rintro e w2 ⟨rfl, hb2⟩; rw [HX.out]; obtain ⟨hc2, hf2⟩ := bcell hb2; have hz2 := (hb2).size; (try simp at hz2); have hl20 : w.heap.size < w2.heap.size := (by omega)))
      go_quiet (fail)
      have hfd : ∀ n p, (w2.drewN n).frozen? p = w2.frozen? p := fun _ _ => rfl
      have hcd : ∀ n p, (w2.drewN n).cell? p = w2.cell? p := fun _ _ => rfl
      have hzd : ∀ n, (w2.drewN n).heap.size = w2.heap.size := fun _ => rfl
      go_wp2_with (first
          | (go_at_call 58; refine (hQ _ hs).mono ?_; rintro e w2 ⟨rfl, hb2⟩; rw [HX.out]; obtain ⟨hc2, hf2⟩ := bcell hb2; have hz2 := (hb2).size; (try simp at hz2); have hl20 : w.heap.size < w2.heap.size := (by omega))
          | (go_at_call 60; refine (hN _).mono ?_; rintro e w3 ⟨rfl, rfl⟩; rw [HO.out])
          | (go_at_call 61; refine (rint _ _).mono ?_; rintro e w4 ⟨rfl, hb4⟩; rw [HK.out]; (obtain ⟨hc4, hf4⟩ := bcell hb4; have hz4 := (hb4).size; (try simp at hz4); have hl40 : w.heap.size < w4.heap.size := (by omega)); have hc40 : ∀ o, w4.cell? ⟨w.heap.size, o, none⟩ = w2.cell? ⟨w.heap.size, o, none⟩ := (fun o => hb4.cell (p := ⟨w.heap.size, o, none⟩) hl20); have hf40 : ∀ o, w4.frozen? ⟨w.heap.size, o, none⟩ = w2.frozen? ⟨w.heap.size, o, none⟩ := (fun o => hb4.frozen (p := ⟨w.heap.size, o, none⟩) hl20); clear hc4 hf4))
      refine bodyPost_ret (by simp [results, Tryd.results40, go_sem, hc40, hc2, hl20, hl40]; rfl) rfl ?_
      unfold VePost
      rw [HR.out]
      exact ⟨rfl, by (repeat (first | (with_reducible exact Below.refl _ _) | (with_reducible assumption) | (with_reducible refine Below.drew ?_) | (with_reducible refine below_drewN ?_ _) | ((with_reducible refine Below.setCell ?_ ?_ _); rotate_left; (focus (first | (simp; done) | (simp; omega) | omega))) | ((with_reducible refine Below.alloc ?_ ?_ _); rotate_left; (focus (first | (simp; done) | (simp; omega) | omega))) | ((with_reducible apply below_step1); (focus (with_reducible assumption)))))⟩

  · have hng : negB s.data.toList = false := by unfold negB; simpa using hh
    have hN := fun w => number_c s w hs
    rw [show numO s.data.toList = numO (digs s.data.toList) by unfold digs; rw [if_neg hh]] at hN
    by_cases hz : s.size = 0
    · have g1 : ¬ (0 : Int) < (s.size : Int) := by omega
      clear hz hh
      cases hd : decB (digs s.data.toList)
      · have HR := Lib.hid (show pInt s.data.toList = (V.null, 2) by unfold pInt; rw [if_pos (.inl hd)])
        have HO := Lib.hid (numO_not hd)
        clear hd
        go_enter Tryd.func40, Tryd.ntmps40
        go_wp2_with (first
            | (go_at_call 58; refine (hQ _ hs).mono ?_; rintro e w2 ⟨rfl, hb2⟩; rw [HX.out]; obtain ⟨hc2, hf2⟩ := bcell hb2; have hz2 := (hb2).size; (try simp at hz2); have hl20 : w.heap.size < w2.heap.size := (by omega))
            | (go_at_call 60; refine (hN _).mono ?_; rintro e w3 ⟨rfl, rfl⟩; rw [HO.out])
            | (go_at_call 61; refine (rint _ _).mono ?_; rintro e w4 ⟨rfl, hb4⟩; rw [HK.out]; (obtain ⟨hc4, hf4⟩ := bcell hb4; have hz4 := (hb4).size; (try simp at hz4); have hl40 : w.heap.size < w4.heap.size := (by omega)); have hc40 : ∀ o, w4.cell? ⟨w.heap.size, o, none⟩ = w2.cell? ⟨w.heap.size, o, none⟩ := (fun o => hb4.cell (p := ⟨w.heap.size, o, none⟩) hl20); have hf40 : ∀ o, w4.frozen? ⟨w.heap.size, o, none⟩ = w2.frozen? ⟨w.heap.size, o, none⟩ := (fun o => hb4.frozen (p := ⟨w.heap.size, o, none⟩) hl20); clear hc4 hf4))
        refine bodyPost_ret (by simp [results, Tryd.results40, go_sem, hc2, hl20]; rfl) rfl ?_
        unfold VePost
        rw [HR.out]
        exact ⟨rfl, by (repeat (first | (with_reducible exact Below.refl _ _) | (with_reducible assumption) | (with_reducible refine Below.drew ?_) | (with_reducible refine below_drewN ?_ _) | ((with_reducible refine Below.setCell ?_ ?_ _); rotate_left; (focus (first | (simp; done) | (simp; omega) | omega))) | ((with_reducible refine Below.alloc ?_ ?_ _); rotate_left; (focus (first | (simp; done) | (simp; omega) | omega))) | ((with_reducible apply below_step1); (focus (with_reducible assumption)))))⟩
      by_cases hb : 4294967296 < valF 0 (digs s.data.toList)
      · have HR := Lib.hid (show pInt s.data.toList = (V.null, 1) by unfold pInt; rw [if_neg (fun h => h.elim (fun h => by rw [hd] at h; cases h) (fun h => by have := h.1; rw [hng] at this; cases this)), if_pos hb])
        have HO := Lib.hid (show numO (digs s.data.toList) = (4294967297, true) by unfold numO; rw [if_pos hd, show min (valF 0 (digs s.data.toList) : Int) 4294967297 = 4294967297 by omega])
        clear hd hb
        go_enter Tryd.func40, Tryd.ntmps40
        go_wp2_with (first
            | (go_at_call 58; refine (hQ _ hs).mono ?_; rintro e w2 ⟨rfl, hb2⟩; rw [HX.out]; obtain ⟨hc2, hf2⟩ := bcell hb2; have hz2 := (hb2).size; (try simp at hz2); have hl20 : w.heap.size < w2.heap.size := (by omega))
            | (go_at_call 60; refine (hN _).mono ?_; rintro e w3 ⟨rfl, rfl⟩; rw [HO.out])
            | (go_at_call 61; refine (rint _ _).mono ?_; rintro e w4 ⟨rfl, hb4⟩; rw [HK.out]; (obtain ⟨hc4, hf4⟩ := bcell hb4; have hz4 := (hb4).size; (try simp at hz4); have hl40 : w.heap.size < w4.heap.size := (by omega)); have hc40 : ∀ o, w4.cell? ⟨w.heap.size, o, none⟩ = w2.cell? ⟨w.heap.size, o, none⟩ := (fun o => hb4.cell (p := ⟨w.heap.size, o, none⟩) hl20); have hf40 : ∀ o, w4.frozen? ⟨w.heap.size, o, none⟩ = w2.frozen? ⟨w.heap.size, o, none⟩ := (fun o => hb4.frozen (p := ⟨w.heap.size, o, none⟩) hl20); clear hc4 hf4))
        refine bodyPost_ret (by simp [results, Tryd.results40, go_sem, hc2, hl20]; rfl) rfl ?_
        unfold VePost
        rw [HR.out]
        exact ⟨rfl, by (repeat (first | (with_reducible exact Below.refl _ _) | (with_reducible assumption) | (with_reducible refine Below.drew ?_) | (with_reducible refine below_drewN ?_ _) | ((with_reducible refine Below.setCell ?_ ?_ _); rotate_left; (focus (first | (simp; done) | (simp; omega) | omega))) | ((with_reducible refine Below.alloc ?_ ?_ _); rotate_left; (focus (first | (simp; done) | (simp; omega) | omega))) | ((with_reducible apply below_step1); (focus (with_reducible assumption)))))⟩
      · have HR := Lib.hid (show pInt s.data.toList = (⟨1, (valF 0 (digs s.data.toList) : Int), ⟨#[]⟩⟩, 0) by unfold pInt; rw [if_neg (fun h => h.elim (fun h => by rw [hd] at h; cases h) (fun h => by have := h.1; rw [hng] at this; cases this)), if_neg hb, hng]; rfl)
        have HO := Lib.hid (show numO (digs s.data.toList) = ((valF 0 (digs s.data.toList) : Int), true) by unfold numO; rw [if_pos hd, show min (valF 0 (digs s.data.toList) : Int) 4294967297 = valF 0 (digs s.data.toList) by omega])
        generalize valF 0 (digs s.data.toList) = U at HR HO hb
        have HK := Lib.hid (V.cl_of (v := ⟨1, (U : Int), ⟨#[]⟩⟩) (by rw [okInt _ U (.inl rfl)]; simpa using hb))
        have m1 : IntKind.i64.wrap ((U : Int)) = (U : Int) := IntWalk.i64_in _ (by omega)
        have m2 : ¬ (4294967296 : Int) < (U : Int) := by omega
        clear hd
        go_enter Tryd.func40, Tryd.ntmps40
        go_wp2_with (first
            | (go_at_call 58; refine (hQ _ hs).mono ?_; rintro e w2 ⟨rfl, hb2⟩; rw [HX.out]; obtain ⟨hc2, hf2⟩ := bcell hb2; have hz2 := (hb2).size; (try simp at hz2); have hl20 : w.heap.size < w2.heap.size := (by omega))
            | (go_at_call 60; refine (hN _).mono ?_; rintro e w3 ⟨rfl, rfl⟩; rw [HO.out])
            | (go_at_call 61; refine (rint _ _).mono ?_; rintro e w4 ⟨rfl, hb4⟩; rw [HK.out]; (obtain ⟨hc4, hf4⟩ := bcell hb4; have hz4 := (hb4).size; (try simp at hz4); have hl40 : w.heap.size < w4.heap.size := (by omega)); have hc40 : ∀ o, w4.cell? ⟨w.heap.size, o, none⟩ = w2.cell? ⟨w.heap.size, o, none⟩ := (fun o => hb4.cell (p := ⟨w.heap.size, o, none⟩) hl20); have hf40 : ∀ o, w4.frozen? ⟨w.heap.size, o, none⟩ = w2.frozen? ⟨w.heap.size, o, none⟩ := (fun o => hb4.frozen (p := ⟨w.heap.size, o, none⟩) hl20); clear hc4 hf4))
        refine bodyPost_ret (by simp [results, Tryd.results40, go_sem, hc40, hc2, hl20, hl40]; rfl) rfl ?_
        unfold VePost
        rw [HR.out]
        exact ⟨rfl, by (repeat (first | (with_reducible exact Below.refl _ _) | (with_reducible assumption) | (with_reducible refine Below.drew ?_) | (with_reducible refine below_drewN ?_ _) | ((with_reducible refine Below.setCell ?_ ?_ _); rotate_left; (focus (first | (simp; done) | (simp; omega) | omega))) | ((with_reducible refine Below.alloc ?_ ?_ _); rotate_left; (focus (first | (simp; done) | (simp; omega) | omega))) | ((with_reducible apply below_step1); (focus (with_reducible assumption)))))⟩

    · have g1 : (0 : Int) < (s.size : Int) := by omega
      have hl : 0 < s.data.toList.length := by rw [← Lib.size_eq]; omega
      obtain ⟨c, hc⟩ : ∃ c, s.data.toList[0]? = some c := ⟨_, List.getElem?_eq_getElem hl⟩
      have hix := run_idx hc
      simp only [Int.natCast_zero] at hix
      have g2 : ((c.toNat : Int) == 45) = false := by
        rw [beq_eq_false_iff_ne]
        intro h
        apply hh
        rw [head_at, hc, UInt8.toNat_inj.1 (show c.toNat = (45 : UInt8).toNat from by show c.toNat = 45; omega)]
      clear hz hh hc hl
      cases hd : decB (digs s.data.toList)
      · have HR := Lib.hid (show pInt s.data.toList = (V.null, 2) by unfold pInt; rw [if_pos (.inl hd)])
        have HO := Lib.hid (numO_not hd)
        clear hd
        go_enter Tryd.func40, Tryd.ntmps40
        go_wp2_with (first
            | (go_at_call 58; refine (hQ _ hs).mono ?_; rintro e w2 ⟨rfl, hb2⟩; rw [HX.out]; obtain ⟨hc2, hf2⟩ := bcell hb2; have hz2 := (hb2).size; (try simp at hz2); have hl20 : w.heap.size < w2.heap.size := (by omega))
            | (go_at_call 60; refine (hN _).mono ?_; rintro e w3 ⟨rfl, rfl⟩; rw [HO.out])
            | (go_at_call 61; refine (rint _ _).mono ?_; rintro e w4 ⟨rfl, hb4⟩; rw [HK.out]; (obtain ⟨hc4, hf4⟩ := bcell hb4; have hz4 := (hb4).size; (try simp at hz4); have hl40 : w.heap.size < w4.heap.size := (by omega)); have hc40 : ∀ o, w4.cell? ⟨w.heap.size, o, none⟩ = w2.cell? ⟨w.heap.size, o, none⟩ := (fun o => hb4.cell (p := ⟨w.heap.size, o, none⟩) hl20); have hf40 : ∀ o, w4.frozen? ⟨w.heap.size, o, none⟩ = w2.frozen? ⟨w.heap.size, o, none⟩ := (fun o => hb4.frozen (p := ⟨w.heap.size, o, none⟩) hl20); clear hc4 hf4))
        refine bodyPost_ret (by simp [results, Tryd.results40, go_sem, hc2, hl20]; rfl) rfl ?_
        unfold VePost
        rw [HR.out]
        exact ⟨rfl, by (repeat (first | (with_reducible exact Below.refl _ _) | (with_reducible assumption) | (with_reducible refine Below.drew ?_) | (with_reducible refine below_drewN ?_ _) | ((with_reducible refine Below.setCell ?_ ?_ _); rotate_left; (focus (first | (simp; done) | (simp; omega) | omega))) | ((with_reducible refine Below.alloc ?_ ?_ _); rotate_left; (focus (first | (simp; done) | (simp; omega) | omega))) | ((with_reducible apply below_step1); (focus (with_reducible assumption)))))⟩
      by_cases hb : 4294967296 < valF 0 (digs s.data.toList)
      · have HR := Lib.hid (show pInt s.data.toList = (V.null, 1) by unfold pInt; rw [if_neg (fun h => h.elim (fun h => by rw [hd] at h; cases h) (fun h => by have := h.1; rw [hng] at this; cases this)), if_pos hb])
        have HO := Lib.hid (show numO (digs s.data.toList) = (4294967297, true) by unfold numO; rw [if_pos hd, show min (valF 0 (digs s.data.toList) : Int) 4294967297 = 4294967297 by omega])
        clear hd hb
        go_enter Tryd.func40, Tryd.ntmps40
        go_wp2_with (first
            | (go_at_call 58; refine (hQ _ hs).mono ?_; rintro e w2 ⟨rfl, hb2⟩; rw [HX.out]; obtain ⟨hc2, hf2⟩ := bcell hb2; have hz2 := (hb2).size; (try simp at hz2); have hl20 : w.heap.size < w2.heap.size := (by omega))
            | (go_at_call 60; refine (hN _).mono ?_; rintro e w3 ⟨rfl, rfl⟩; rw [HO.out])
            | (go_at_call 61; refine (rint _ _).mono ?_; rintro e w4 ⟨rfl, hb4⟩; rw [HK.out]; (obtain ⟨hc4, hf4⟩ := bcell hb4; have hz4 := (hb4).size; (try simp at hz4); have hl40 : w.heap.size < w4.heap.size := (by omega)); have hc40 : ∀ o, w4.cell? ⟨w.heap.size, o, none⟩ = w2.cell? ⟨w.heap.size, o, none⟩ := (fun o => hb4.cell (p := ⟨w.heap.size, o, none⟩) hl20); have hf40 : ∀ o, w4.frozen? ⟨w.heap.size, o, none⟩ = w2.frozen? ⟨w.heap.size, o, none⟩ := (fun o => hb4.frozen (p := ⟨w.heap.size, o, none⟩) hl20); clear hc4 hf4))
        refine bodyPost_ret (by simp [results, Tryd.results40, go_sem, hc2, hl20]; rfl) rfl ?_
        unfold VePost
        rw [HR.out]
        exact ⟨rfl, by (repeat (first | (with_reducible exact Below.refl _ _) | (with_reducible assumption) | (with_reducible refine Below.drew ?_) | (with_reducible refine below_drewN ?_ _) | ((with_reducible refine Below.setCell ?_ ?_ _); rotate_left; (focus (first | (simp; done) | (simp; omega) | omega))) | ((with_reducible refine Below.alloc ?_ ?_ _); rotate_left; (focus (first | (simp; done) | (simp; omega) | omega))) | ((with_reducible apply below_step1); (focus (with_reducible assumption)))))⟩
      · have HR := Lib.hid (show pInt s.data.toList = (⟨1, (valF 0 (digs s.data.toList) : Int), ⟨#[]⟩⟩, 0) by unfold pInt; rw [if_neg (fun h => h.elim (fun h => by rw [hd] at h; cases h) (fun h => by have := h.1; rw [hng] at this; cases this)), if_neg hb, hng]; rfl)
        have HO := Lib.hid (show numO (digs s.data.toList) = ((valF 0 (digs s.data.toList) : Int), true) by unfold numO; rw [if_pos hd, show min (valF 0 (digs s.data.toList) : Int) 4294967297 = valF 0 (digs s.data.toList) by omega])
        generalize valF 0 (digs s.data.toList) = U at HR HO hb
        have HK := Lib.hid (V.cl_of (v := ⟨1, (U : Int), ⟨#[]⟩⟩) (by rw [okInt _ U (.inl rfl)]; simpa using hb))
        have m1 : IntKind.i64.wrap ((U : Int)) = (U : Int) := IntWalk.i64_in _ (by omega)
        have m2 : ¬ (4294967296 : Int) < (U : Int) := by omega
        clear hd
        go_enter Tryd.func40, Tryd.ntmps40
        go_wp2_with (first
            | (go_at_call 58; refine (hQ _ hs).mono ?_; rintro e w2 ⟨rfl, hb2⟩; rw [HX.out]; obtain ⟨hc2, hf2⟩ := bcell hb2; have hz2 := (hb2).size; (try simp at hz2); have hl20 : w.heap.size < w2.heap.size := (by omega))
            | (go_at_call 60; refine (hN _).mono ?_; rintro e w3 ⟨rfl, rfl⟩; rw [HO.out])
            | (go_at_call 61; refine (rint _ _).mono ?_; rintro e w4 ⟨rfl, hb4⟩; rw [HK.out]; (obtain ⟨hc4, hf4⟩ := bcell hb4; have hz4 := (hb4).size; (try simp at hz4); have hl40 : w.heap.size < w4.heap.size := (by omega)); have hc40 : ∀ o, w4.cell? ⟨w.heap.size, o, none⟩ = w2.cell? ⟨w.heap.size, o, none⟩ := (fun o => hb4.cell (p := ⟨w.heap.size, o, none⟩) hl20); have hf40 : ∀ o, w4.frozen? ⟨w.heap.size, o, none⟩ = w2.frozen? ⟨w.heap.size, o, none⟩ := (fun o => hb4.frozen (p := ⟨w.heap.size, o, none⟩) hl20); clear hc4 hf4))
        refine bodyPost_ret (by simp [results, Tryd.results40, go_sem, hc40, hc2, hl20, hl40]; rfl) rfl ?_
        unfold VePost
        rw [HR.out]
        exact ⟨rfl, by (repeat (first | (with_reducible exact Below.refl _ _) | (with_reducible assumption) | (with_reducible refine Below.drew ?_) | (with_reducible refine below_drewN ?_ _) | ((with_reducible refine Below.setCell ?_ ?_ _); rotate_left; (focus (first | (simp; done) | (simp; omega) | omega))) | ((with_reducible refine Below.alloc ?_ ?_ _); rotate_left; (focus (first | (simp; done) | (simp; omega) | omega))) | ((with_reducible apply below_step1); (focus (with_reducible assumption)))))⟩

set_option maxRecDepth 100000 in
set_option maxHeartbeats 2000000 in
theorem rparse (s : ByteArray) (w : World) (hs : s.size ≤ 100000) : Calls Tryd.prog 40 #[.string s] w (VePost w (parseO s.data.toList)) := by
  by_cases h0 : s.data.toList = nullL
  · have t0 : (s.toList == [110, 117, 108, 108]) = true := by rw [Lib.toList_data, h0]; rfl
    have HR := Lib.hid (show parseO s.data.toList = (V.null, 0) by unfold parseO; rw [if_pos h0])
    clear h0
    go_enter Tryd.func40, Tryd.ntmps40
    go_wp2_with fail
    refine bodyPost_ret (by simp [results, Tryd.results40, go_sem]; rfl) rfl ?_
    unfold VePost
    rw [HR.out]
    exact ⟨rfl, by (repeat (first | (with_reducible exact Below.refl _ _) | (with_reducible assumption) | (with_reducible refine Below.drew ?_) | (with_reducible refine below_drewN ?_ _) | ((with_reducible refine Below.setCell ?_ ?_ _); rotate_left; (focus (first | (simp; done) | (simp; omega) | omega))) | ((with_reducible refine Below.alloc ?_ ?_ _); rotate_left; (focus (first | (simp; done) | (simp; omega) | omega))) | ((with_reducible apply below_step1); (focus (with_reducible assumption)))))⟩
  have t0 : (s.toList == [110, 117, 108, 108]) = false := by rw [Lib.toList_data, beq_eq_false_iff_ne]; exact h0
  obtain ⟨⟨t, n⟩, hx⟩ : ∃ x, unqO s.data.toList = x := ⟨_, rfl⟩
  by_cases hn : n = 0
  · have ht : t = [] := by
      unfold unqO at hx
      subst hn
      split at hx
      · cases hu : unqR (s.data.toList.drop 1) with
        | none => rw [hu] at hx; simp at hx; exact hx
        | some y => obtain ⟨a, b⟩ := y; rw [hu] at hx; simp at hx
      · simp at hx; exact hx
    rw [parse_none h0 (by rw [hx]; exact hn)]
    exact rparse_num s w hs t0 (by rw [hx, ht, hn])
  · have HX := Lib.hid hx
    have hp := parse_some h0 hx (by omega)
    rw [← Lib.size_eq] at hp
    have HP := Lib.hid hp
    have hQ := unquote_c s
    have n0 : (0 : Int) < (n : Int) := by omega
    clear h0 hx hp
    by_cases hl : n = s.size
    case neg =>
      have HR := Lib.hid (show parseO s.data.toList = (V.null, 2) by rw [HP.out, if_pos hl])
      have n1 : ((n : Int) != (s.size : Int)) = true := by rw [bne_iff_ne]; omega
      clear hn hl
      go_enter Tryd.func40, Tryd.ntmps40
      go_wp2_with (go_at_call 58; refine (hQ _ hs).mono ?_; rintro e w2 ⟨rfl, hb2⟩; rw [HX.out]; obtain ⟨hc2, hf2⟩ := bcell hb2; have hz2 := (hb2).size; (try simp at hz2); have hl20 : w.heap.size < w2.heap.size := (by omega))
      refine bodyPost_ret (by simp [results, Tryd.results40, go_sem, hc2, hl20]; rfl) rfl ?_
      unfold VePost
      rw [HR.out]
      exact ⟨rfl, by (repeat (first | (with_reducible exact Below.refl _ _) | (with_reducible assumption) | (with_reducible refine Below.drew ?_) | (with_reducible refine below_drewN ?_ _) | ((with_reducible refine Below.setCell ?_ ?_ _); rotate_left; (focus (first | (simp; done) | (simp; omega) | omega))) | ((with_reducible refine Below.alloc ?_ ?_ _); rotate_left; (focus (first | (simp; done) | (simp; omega) | omega))) | ((with_reducible apply below_step1); (focus (with_reducible assumption)))))⟩
    case pos =>
      have n1 : ((n : Int) != (s.size : Int)) = false := by rw [hl]; simp
      obtain ⟨ts, hts⟩ : ∃ ts, (⟨t.toArray⟩ : ByteArray) = ts := ⟨_, rfl⟩
      have htl : ts.size = t.length := by rw [← hts, Lib.size_eq]
      by_cases h32 : 32 < t.length
      · have HR := Lib.hid (show parseO s.data.toList = (V.null, 1) by rw [HP.out, if_neg (by simpa using hl), if_pos h32])
        have n2 : (32 : Int) < (ts.size : Int) := by omega
        clear hn hl htl
        go_enter Tryd.func40, Tryd.ntmps40
        go_wp2_with (go_at_call 58; refine (hQ _ hs).mono ?_; rintro e w2 ⟨rfl, hb2⟩; rw [HX.out]; simp only [hts]; obtain ⟨hc2, hf2⟩ := bcell hb2; have hz2 := (hb2).size; (try simp at hz2); have hl20 : w.heap.size < w2.heap.size := (by omega))
        refine bodyPost_ret (by simp [results, Tryd.results40, go_sem, hc2, hl20]; rfl) rfl ?_
        unfold VePost
        rw [HR.out]
        exact ⟨rfl, by (repeat (first | (with_reducible exact Below.refl _ _) | (with_reducible assumption) | (with_reducible refine Below.drew ?_) | (with_reducible refine below_drewN ?_ _) | ((with_reducible refine Below.setCell ?_ ?_ _); rotate_left; (focus (first | (simp; done) | (simp; omega) | omega))) | ((with_reducible refine Below.alloc ?_ ?_ _); rotate_left; (focus (first | (simp; done) | (simp; omega) | omega))) | ((with_reducible apply below_step1); (focus (with_reducible assumption)))))⟩
      · have HR := Lib.hid (show parseO s.data.toList = (⟨2, 0, ts⟩, 0) by rw [HP.out, if_neg (by simpa using hl), if_neg h32, hts])
        have n2 : ¬ (32 : Int) < (ts.size : Int) := by omega
        have HK := Lib.hid (V.cl_of (v := ⟨2, 0, ts⟩) (by have : ts.size ≤ 32 := (by omega); simp [V.ok, this]))
        clear hn hl htl
        go_enter Tryd.func40, Tryd.ntmps40
        go_wp2_with (first
          | (go_at_call 58; refine (hQ _ hs).mono ?_; rintro e w2 ⟨rfl, hb2⟩; rw [HX.out]; simp only [hts]; obtain ⟨hc2, hf2⟩ := bcell hb2; have hz2 := (hb2).size; (try simp at hz2); have hl20 : w.heap.size < w2.heap.size := (by omega))
          | (go_at_call 59; refine (rtext ts _).mono ?_; rintro e w4 ⟨rfl, hb4⟩; rw [HK.out]; obtain ⟨hc4, hf4⟩ := bcell hb4; have hz4 := (hb4).size; (try simp at hz4); have hl40 : w.heap.size < w4.heap.size := (by omega)))
        refine bodyPost_ret (by simp [results, Tryd.results40, go_sem, hc4, hc2, hl20, hl40]; rfl) rfl ?_
        unfold VePost
        rw [HR.out]
        exact ⟨rfl, by (repeat (first | (with_reducible exact Below.refl _ _) | (with_reducible assumption) | (with_reducible refine Below.drew ?_) | (with_reducible refine below_drewN ?_ _) | ((with_reducible refine Below.setCell ?_ ?_ _); rotate_left; (focus (first | (simp; done) | (simp; omega) | omega))) | ((with_reducible refine Below.alloc ?_ ?_ _); rotate_left; (focus (first | (simp; done) | (simp; omega) | omega))) | ((with_reducible apply below_step1); (focus (with_reducible assumption)))))⟩
end Go.Proofs.YtjlhapbahecpoaaDoor
