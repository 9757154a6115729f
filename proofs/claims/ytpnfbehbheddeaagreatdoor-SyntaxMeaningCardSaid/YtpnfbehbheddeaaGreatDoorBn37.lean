/- Contract of source. The numbers of the tokens are from 0 to 2^32. The look-up of names: findColumn, resolvePair, and the names of columns as parts of memory. At most 1000000 names. The scope of names: what lies in memory, add and find. At most 1000000 stores. The scope of names: find. At most 1000000 stores. -/
import Derived.Test.YtpnfbehbheddeaaGreatDoorBn36
import Derived.Test.YtpnfbehbheddeaaGreatDoorBn24
namespace Go.Proofs.YtpnfbehbheddeaaGreatDoor
set_option maxRecDepth 100000
set_option maxHeartbeats 8000000
set_option linter.unusedVariables false
set_option linter.unusedSimpArgs false
open Go.RowKit
section
variable {p : Pp} {w w' : World} {s s' : Ps} {d : Dc} {l : List HA}
theorem DInv.facts (I : DInv p l w s d) : p.e.toks.length ≤ 100000 ∧ s.pos ≤ p.e.toks.length ∧ posW p w = s.pos ∧ ∃ A c, w.cell? ⟨p.pb, 0, none⟩ = some (.slice A p.e.toks.length c) ∧ w.cell? ⟨p.pb, 1, none⟩ = some (.int .i64 s.pos) ∧ p.pb < w.heap.size := by
  obtain ⟨p', m, pool, hpb, he, hd, hok, hns, H⟩ := I
  unfold mA at H
  obtain ⟨rv, P, -⟩ := H.ps pkQ
  have h1 := P.few
  have h2 := P.ok
  have h3 := P.posW
  obtain ⟨⟨c0, c1, -, -, -, -⟩, -⟩ := P.cells
  have h4 := P.lt
  rw [hpb] at c0 c1 h4
  rw [he] at c0 h1 h2
  exact ⟨h1, h2, by unfold posW at h3 ⊢; rw [hpb] at h3; exact h3, _, _, c0, c1, h4⟩
theorem DInv.drewN (I : DInv p l w s d) (n : Nat) : DInv p l (w.drewN n) s d := by
  obtain ⟨p', m, pool, hpb, he, hd, hok, hns, H⟩ := I
  exact ⟨p', m, pool, hpb, he, hd, hok, hns, H.drewN n⟩
theorem declaration_d (hN : p.e.okN) (I : DInv p l w s d) (hlt : s.pos < p.e.toks.length) : Calls Tryz.prog 87 #[.pointer (some ⟨p.pb, 0, none⟩)] w fun e w' => e = .returned (.tuple #[]) ∧ DInv p l w' (declP p.e s d).2 (declP p.e s d).1 := by
  obtain ⟨p', m, pool, hpb, he, hd, hok, hns, H⟩ := I
  have h := declaration_s (p := p') (by rw [he]; exact hN) hok hns (by rw [he]; exact hlt) H
  rw [hpb, he, hd] at h
  exact h.mono fun e w' ⟨h1, p2, m2, pool2, h2, h3, h4⟩ => ⟨h1, p2, m2, pool2, h2.trans hpb, h3.trans he, h4⟩
theorem expect_d (I : DInv p l w s d) (x0 : Bs) : Calls Tryz.prog 88 #[.pointer (some ⟨p.pb, 0, none⟩), .slice (some ⟨w.heap.size, 0, none⟩) 1 1] (w.alloc (.cells #[.string ⟨x0.toArray⟩] 9)) fun e w' => e = .returned (.string ⟨(expectP p.e s [x0]).1.toArray⟩) ∧ DInv p l w' (expectP p.e s [x0]).2 d := by
  have hf := (I.facts).2.1
  obtain ⟨p', m, pool, hpb, he, hd, hok, hns, H⟩ := I
  unfold mA at H
  have h := exp1_s H pkQ x0
  rw [hpb, he] at h
  refine h.mono ?_
  rintro e w' ⟨h1, h2⟩
  have hle := (fwd_expect (e := p.e) (s := s) [x0] hf).1
  exact ⟨h1, p', m, pool, hpb, he, hd, hok, fun i hi => Nat.le_trans (hns i hi) hle, h2⟩
theorem fwd_decl (d : Dc) : Fwd p.e s (declP p.e s d).2 := by
  unfold declP
  dsimp only
  refine Fwd.trans (fwd_expect wKinds) ?_
  split
  · exact Fwd.refl
  · unfold kindP
    split
    · exact fwd_table
    · exact fwd_view
    · exact fwd_index
    · exact fwd_sketch
    · exact fwd_cache
    · exact fwd_release
    · exact fwd_stream
    · exact fwd_backup
theorem decl_lt (d : Dc) (hlt : s.pos < p.e.toks.length) : s.pos + 1 ≤ (declP p.e s d).2.pos ∧ (declP p.e s d).2.pos ≤ p.e.toks.length := by
  have h1 := expect_lt (e := p.e) (s := s) (ws := wKinds) hlt
  have h2 := fwd_expect (e := p.e) (s := s) wKinds (Nat.le_of_lt hlt)
  refine ⟨?_, (fwd_decl d (Nat.le_of_lt hlt)).2⟩
  have h3 : Fwd p.e (expectP p.e s wKinds).2 (declP p.e s d).2 := by
    unfold declP
    dsimp only
    split
    · exact Fwd.refl
    · unfold kindP
      split
      · exact fwd_table
      · exact fwd_view
      · exact fwd_index
      · exact fwd_sketch
      · exact fwd_cache
      · exact fwd_release
      · exact fwd_stream
      · exact fwd_backup
  have := (h3 h2.2).1
  omega
def SoRel (p : Pp) (l : List HA) (R : Dc × Ps) (wr : World) : Prop :=
  ∃ (f : Nat) (s : Ps) (d : Dc), DInv p l wr s d ∧ Hid (sourceP p.e f s d = R) ∧ p.e.toks.length - s.pos + 1 ≤ f
theorem source_s (hN : p.e.okN) (I : DInv p l w s d) : Calls Tryz.prog 47 #[.pointer (some ⟨p.pb, 0, none⟩)] w fun e w' => e = .returned (.tuple #[]) ∧ DInv p l w' (sourceP p.e (p.e.toks.length + 1) s d).2 (sourceP p.e (p.e.toks.length + 1) s d).1 := by
  obtain ⟨R, hR⟩ : ∃ R, sourceP p.e (p.e.toks.length + 1) s d = R := ⟨_, rfl⟩
  rw [hR]
  have HR := Lib.hid hR
  clear hR
  go_enter Tryz.func47, Tryz.ntmps47
  go_wp2_with fail
  go_loopw [11] (fun _ wr => SoRel p l R wr) (fun _ wr => p.e.toks.length - posW p wr)
  case atStart => exact ⟨_, s, d, I, HR.out, by omega⟩
  case round =>
    obtain ⟨f1, s1, d1, I1, HC, hfu⟩ := hrel
    clear I HR
    obtain ⟨f, rfl⟩ : ∃ f, f1 = f + 1 := ⟨f1 - 1, by omega⟩
    obtain ⟨hfew, hok, hpw, A, c, c0, c1, hl⟩ := I1.facts
    have HM := Lib.hid hpw
    clear hpw
    by_cases hlt : s1.pos < p.e.toks.length
    · have h2 : (s1.pos : Int) < (p.e.toks.length : Int) := by omega
      have hC := HC.out
      rw [show sourceP p.e (f + 1) s1 d1 = sourceP p.e f (expectP p.e (declP p.e s1 d1).2 [[59]]).2 (declP p.e s1 d1).1 by rw [sourceP]; rw [if_pos hlt]] at hC
      have hlp := decl_lt (p := p) d1 hlt
      have hD := fun w1 (I : DInv p l w1 s1 d1) => declaration_d hN I hlt
      generalize declP p.e s1 d1 = q at hC hlp hD
      obtain ⟨d2, s2⟩ := q
      dsimp only at hC hlp hD
      have hE := fun w1 (I : DInv p l w1 s2 d2) => expect_d I [59]
      have hle := fwd_expect (e := p.e) (s := s2) [[59]] hlp.2
      generalize expectP p.e s2 [[59]] = q at hC hE hle
      obtain ⟨wd, s3⟩ := q
      dsimp only at hC hE hle
      have HC2 := Lib.hid hC
      clear hC HC
      go_upto_region 0 with fail
      go_quiet (fail)
      generalize hw : World.drewN wr _ = w1
      have I2 : DInv p l w1 s1 d1 := by rw [← hw]; exact I1.drewN _
      clear hw I1 c0 c1
      go_wp2_with (first
        | (go_at_call 87; (with_reducible refine (hD _ I2).mono ?_); rintro e w2 ⟨rfl, I3⟩)
        | (go_at_call 88; (with_reducible refine (hE _ I3).mono ?_); rintro e w3 ⟨rfl, I4⟩))
      have hp3 := I4.facts.2.2.1
      go_roundw
      case rel => exact ⟨f, s3, d2, I4, HC2.out, by omega⟩
      case measure =>
        rw [HM.out, hp3]
        omega
    · have h2 : ¬ (s1.pos : Int) < (p.e.toks.length : Int) := by omega
      have hC := HC.out
      rw [show sourceP p.e (f + 1) s1 d1 = (d1, s1) by rw [sourceP]; rw [if_neg hlt]] at hC
      subst hC
      clear HC hlt
      go_upto_region 0 with fail
      go_quiet (fail)
      go_wp2_with fail
      go_end0
      exact ⟨rfl, I1.drewN _⟩
end
def fcR (ws : List Bs) (t : Tk) : Int × Int × Int := match findP ws t.text with
  | some k => (k, 0, 0)
  | none => (0, t.pos, 3)
theorem fcR_some {ws : List Bs} {t : Tk} {k : Nat} (h : findP ws t.text = some k) : fcR ws t = ((k : Int), 0, 0) := by unfold fcR; rw [h]
theorem fcR_none {ws : List Bs} {t : Tk} (h : findP ws t.text = none) : fcR ws t = (0, t.pos, 3) := by unfold fcR; rw [h]
def int3 (r : Int × Int × Int) : Value := .tuple #[.int .i64 r.1, .int .i64 r.2.1, .int .i64 r.2.2]
def FcPost (w : World) (r : Int × Int × Int) (e : Ending) (w' : World) : Prop := e = .returned (int3 r) ∧ Below w.heap.size w w'
theorem findColumn_c {w : World} {A : Option Addr} {n c : Nat} {ws : List Bs} (t : Tk) (hr : RowB w w.heap.size A n ws) (hn : n ≤ 1000000) : Calls Tryz.prog 143 #[.slice A n c, .agg #[.int .i64 t.kind, .string ⟨t.text.toArray⟩, .int .i64 t.int, .int .i64 t.pos]] w (FcPost w (fcR ws t)) := by
  have hr1 : RowB (w.alloc (.cells (tkC t) 100)) w.heap.size A n ws := hr.alloc (Nat.le_refl _) _
  have hI := sIndex_c (c := c) t.text hr1 (by unfold maxLen; omega)
  have hz := heap_alloc_new w (.cells (tkC t) 100)
  have hb : Below w.heap.size w (w.alloc (.cells (tkC t) 100)) := by (exact belQ)
  have hlt : w.heap.size < (w.alloc (.cells (tkC t) 100)).heap.size := by simp
  unfold tkC at hI hz hb hlt hr1
  cases hf : findP ws t.text with
  | none =>
    rw [fcR_none hf]
    rw [show idxI ws t.text = -1 by unfold idxI; rw [hf]] at hI
    clear hf hr hr1
    go_enter Tryz.func143, Tryz.ntmps143
    go_upto_region 1 with fail
    generalize w.alloc _ = w1 at hI hz hb hlt ⊢
    obtain ⟨hcB, hfB⟩ := blk_cells (hz); have d0 := hcB 0; have df0 := hfB 0; have d1 := hcB 1; have df1 := hfB 1; have d2 := hcB 2; have df2 := hfB 2; have d3 := hcB 3; have df3 := hfB 3; clear hcB hfB
    go_upto_region 3 with (go_at_call 44; refine hI.mono ?_; rintro e w2 ⟨rfl, rfl⟩)
    go_quiet (fail)
    go_wp2_with fail
    go_ret3
    exact ⟨rfl, by (exact belQ)⟩
  | some k =>
    rw [fcR_some hf]
    rw [show idxI ws t.text = (k : Int) by unfold idxI; rw [hf]] at hI
    have hk := findP_lt hf
    have hl := hr.len
    clear hf hr hr1
    go_enter Tryz.func143, Tryz.ntmps143
    go_upto_region 1 with fail
    generalize w.alloc _ = w1 at hI hz hb hlt ⊢
    obtain ⟨hcB, hfB⟩ := blk_cells (hz); have d0 := hcB 0; have df0 := hfB 0; have d1 := hcB 1; have df1 := hfB 1; have d2 := hcB 2; have df2 := hfB 2; have d3 := hcB 3; have df3 := hfB 3; clear hcB hfB
    go_wp2_with (go_at_call 44; refine hI.mono ?_; rintro e w2 ⟨rfl, rfl⟩)
    go_ret3
    exact ⟨rfl, by (exact belQ)⟩
def namesA (q : List (Value × List Bs)) : HA where
  holds w S := (∀ x ∈ q, ∃ A c, x.1 = .slice A x.2.length c ∧ (x.2 ≠ [] → ∃ b off, A = some ⟨b, off, none⟩ ∧ S b ∧ ∀ j u, (x.2.map strV)[j]? = some u → w.cell? ⟨b, off + j, none⟩ = some u)) ∧ ∀ k, S k → k < w.heap.size
  keep := by
    rintro w w' S ⟨h, h2⟩ g
    refine ⟨fun x hx => ?_, fun k hk => Nat.lt_of_lt_of_le (h2 k hk) g.size⟩
    obtain ⟨A, c, e, h3⟩ := h x hx
    refine ⟨A, c, e, fun hn => ?_⟩
    obtain ⟨b, off, e2, hs, h4⟩ := h3 hn
    exact ⟨b, off, e2, hs, fun j u hu => (World.cell?_of_block (a := ⟨b, off + j, none⟩) (g.block b hs)).trans (h4 j u hu)⟩
  lt := by
    rintro w S ⟨h, h2⟩
    exact h2
section
variable {w w' : World} {l l' : List HA} {q : List (Value × List Bs)}
theorem HS.namesNil (H : HS w l) : HS w (namesA [] :: l) := H.new (Below.refl _ _) (S' := fun _ => False) ⟨(fun x hx => (by cases hx)), fun k (hk : False) => hk.elim⟩ fun k e => e.elim
theorem HS.namesAdd {v : Value} {names : List Bs} {n : Nat} (hn : names.length = n) (H : HS w (rowA 9 1 v n (names.map strV) :: namesA q :: l)) : HS w (namesA (q ++ [(v, names)]) :: l) := by
  obtain ⟨S, S1, S2, ⟨h1, h1b⟩, ⟨T1, T2, ⟨g1, g2⟩, g3, g4, g5⟩, h3, h4⟩ := H
  subst h1b
  refine ⟨S, fun k => v.ownBlock = some k ∨ T1 k, T2, ⟨fun x hx => ?_, ?_⟩, g3, fun k a b => ?_, fun k => ?_⟩
  · rcases List.mem_append.1 hx with hx | hx
    · obtain ⟨A, c, e, h5⟩ := g1 x hx
      refine ⟨A, c, e, fun hne => ?_⟩
      obtain ⟨b, off, e2, hs, h6⟩ := h5 hne
      exact ⟨b, off, e2, .inr hs, h6⟩
    · rw [List.mem_singleton] at hx
      subst hx
      obtain ⟨A, c, e, -, -⟩ := own_slice h1
      subst e
      refine ⟨A, c, by rw [hn], fun hne => ?_⟩
      have h5 := Rd.of_own h1
      obtain ⟨b, off, e2, hb, h6⟩ := h5 (by simpa using hne)
      exact ⟨b, off, e2, .inl (by rw [e2]; rfl), h6⟩
  · rintro k (hk | hk)
    · exact (h1.lt k hk).2
    · exact g2 k hk
  · rcases a with a | a
    · exact h3 k a ((g5 k).2 (.inr b))
    · exact g4 k a b
  · rw [h4, g5, or_assoc]
end
theorem stSS : SliceTy Tryz.prog 141 25 1 24 := SliceTy.mk' Tryz.underlying141 (z := .slice none 0 0) (by kernel_rfl) rfl (by decide) (by decide)
def AddPost (zs : Nat) (n m : Nat) (xs ys : List Value) (name : Bs) (v : Value) (l : List HA) (e : Ending) (w' : World) : Prop :=
  e = .returned (.tuple #[]) ∧ ∃ sv cv, HS w' (boxA zs #[sv, cv] 143 :: rowA 9 1 sv (n + 1) (xs ++ [strV name]) :: rowA 25 1 cv (m + 1) (ys ++ [v]) :: l)
theorem scopeAdd_s {w : World} {l : List HA} {zs n m : Nat} {sv cv : Value} {xs ys : List Value} (name : Bs) (A : Option Addr) (k c : Nat) (hn : n ≤ 1000000) (hm : m ≤ 1000000) (H : HS w (boxA zs #[sv, cv] 143 :: rowA 9 1 sv n xs :: rowA 25 1 cv m ys :: l)) :
    Calls Tryz.prog 144 #[.pointer (some ⟨zs, 0, none⟩), .string ⟨name.toArray⟩, .slice A k c] w (AddPost zs n m xs ys name (.slice A k c) l) := by
  obtain ⟨As, cs, rfl⟩ := H.slice (v := sv) pkQ
  obtain ⟨Ac, cc, rfl⟩ := H.slice (v := cv) pkQ
  obtain ⟨dB, dL, hcB⟩ := HS.get (z := zs) H; obtain ⟨d0, df0⟩ := hcB 0; obtain ⟨d1, df1⟩ := hcB 1; clear hcB
  have Hd := H.drew
  have hz1 : ∀ o, (w.drew.alloc o).heap.size = w.heap.size + 1 := fun o => by simp
  go_enter Tryz.func144, Tryz.ntmps144
  (refine wp_region_T (fun i => i != 1 && decide (i < 18)) (fun w' => w'.cell? ⟨zs, 0, none⟩ = some (.slice As n cs) ∧ w'.cell? ⟨zs, 1, none⟩ = some (.slice Ac m cc)) (by kernel_rfl) ?_ (fun hHeld => ?_); (focus (try dsimp only); go_keep))
  (refine TT.takeW 1 (v := ?_) rfl (by kernel_rfl) rfl (by kernel_rfl) (by kernel_rfl) (fun _ _ _ h => h) (by rfl) ?_ ?_; rotate_left; (focus (intro w; go_simp; (try with_reducible rfl))); (try simp only [Act.put, qqa]))
  (refine TT.take 0 (v := ?_) rfl (by kernel_rfl) (by kernel_rfl) (by kernel_rfl) (fun _ _ _ h => h) (by rfl) (by assumption) ?_ ?_; rotate_left; (focus (intro w hSw; (try dsimp only at hSw); go_simp; (try with_reducible rfl))); (try simp only [Act.put]); refine TT.take 2 (v := ?_) rfl (by kernel_rfl) (by kernel_rfl) (by kernel_rfl) (fun _ _ _ h => h) (by rfl) (by assumption) ?_ ?_; rotate_left; (focus (intro w hSw; (try dsimp only at hSw); go_simp; (try with_reducible rfl))); (try simp only [Act.put]); refine TT.take 3 (v := ?_) rfl (by kernel_rfl) (by kernel_rfl) (by kernel_rfl) (fun _ _ _ h => h) (by rfl) (by assumption) ?_ ?_; rotate_left; (focus (intro w hSw; (try dsimp only at hSw); go_simp; (try with_reducible rfl))); (try simp only [Act.put]); refine TT.take 4 (v := ?_) rfl (by kernel_rfl) (by kernel_rfl) (by kernel_rfl) (fun _ _ _ h => h) (by rfl) (by assumption) ?_ ?_; rotate_left; (focus (intro w hSw; (try dsimp only at hSw); go_simp; (try with_reducible rfl))); (try simp only [Act.put]); refine TT.take 5 (v := ?_) rfl (by kernel_rfl) (by kernel_rfl) (by kernel_rfl) (fun _ _ _ h => h) (by rfl) (by assumption) ?_ ?_; rotate_left; (focus (intro w hSw; (try dsimp only at hSw); go_simp; (try with_reducible rfl))); (try simp only [Act.put]); refine TT.take 6 (v := ?_) rfl (by kernel_rfl) (by kernel_rfl) (by kernel_rfl) (fun _ _ _ h => h) (by rfl) (by assumption) ?_ ?_; rotate_left; (focus (intro w hSw; (try dsimp only at hSw); go_simp; (try with_reducible rfl))); (try simp only [Act.put]); refine TT.take 9 (v := ?_) rfl (by kernel_rfl) (by kernel_rfl) (by kernel_rfl) (fun _ _ _ h => h) (by rfl) (by assumption) ?_ ?_; rotate_left; (focus (intro w hSw; (try dsimp only at hSw); go_simp; (try with_reducible rfl))); (try simp only [Act.put]); refine TT.take 10 (v := ?_) rfl (by kernel_rfl) (by kernel_rfl) (by kernel_rfl) (fun _ _ _ h => h) (by rfl) (by assumption) ?_ ?_; rotate_left; (focus (intro w hSw; (try dsimp only at hSw); go_simp; (try with_reducible rfl))); (try simp only [Act.put]); refine TT.take 11 (v := ?_) rfl (by kernel_rfl) (by kernel_rfl) (by kernel_rfl) (fun _ _ _ h => h) (by rfl) (by assumption) ?_ ?_; rotate_left; (focus (intro w hSw; (try dsimp only at hSw); go_simp; (try with_reducible rfl))); (try simp only [Act.put]); refine TT.take 12 (v := ?_) rfl (by kernel_rfl) (by kernel_rfl) (by kernel_rfl) (fun _ _ _ h => h) (by rfl) (by assumption) ?_ ?_; rotate_left; (focus (intro w hSw; (try dsimp only at hSw); go_simp; (try with_reducible rfl))); (try simp only [Act.put]); refine TT.take 13 (v := ?_) rfl (by kernel_rfl) (by kernel_rfl) (by kernel_rfl) (fun _ _ _ h => h) (by rfl) (by assumption) ?_ ?_; rotate_left; (focus (intro w hSw; (try dsimp only at hSw); go_simp; (try with_reducible rfl))); (try simp only [Act.put]))
  (refine TT.two 7 14 (by kernel_rfl) ⟨rfl, rfl⟩ rfl rfl (fun K hK => ?_) (fun K hK => ?_))
  · (go_simp; refine hK.out _ _ ?_ (fun hHeld => ?_); (focus (try dsimp only); go_keep); clear hK K; (try simp only [Act.put, qqa, qqb, qqc]))
    have Ha := Hd.alloc #[.string ⟨name.toArray⟩] 9
    (refine TT.two 8 14 (by kernel_rfl) ⟨rfl, rfl⟩ rfl rfl (fun K hK => ?_) (fun K hK => ?_))
    · have own7 := Ha.row (v := .slice As n cs) pkQ
      ((refine step_app3 (v := .slice As n cs) (by rfl) _ _ stS (by rfl) (by rfl) own7 (by rfl) (news := [.string ⟨name.toArray⟩]) (by rfl) (litRd (heap_alloc_new _ _)) (fun h => by cases h) (by intro u hu; simp at hu; (repeat' (rcases hu with rfl | hu)); all_goals (first | rfl | (subst hu; rfl))) (by omega) (by first | exact Nat.zero_le _ | omega | (simp; omega)) ?_; intro vA wA ownA gA atA; have HA := Ha.app (v := .slice As n cs) pkQ ownA gA atA; obtain ⟨eB, eL, hcB⟩ := HS.get (z := zs) HA; obtain ⟨e0, ef0⟩ := hcB 0; obtain ⟨e1, ef1⟩ := hcB 1; clear hcB; obtain ⟨AB, cB, rfl, -, -⟩ := own_slice ownA; clear ownA gA atA); refine hK.out _ _ ?_ (fun hHeld => ?_); (focus (try dsimp only); go_keep); clear hK K; (try simp only [Act.put, qqa, qqb, qqc]))
      have HA2 := HA.alloc #[.slice A k c] 25
      have own8 := HA2.row (v := .slice Ac m cc) pkQ
      (refine TT.one 14 (by kernel_rfl) rfl rfl (fun K hK => ?_); go_simp; refine hK.out _ _ ?_ (fun hHeld => ?_); (focus (try dsimp only); go_keep); clear hK K; (try simp only [Act.put, qqa, qqb, qqc]))
      (refine TT.one 15 (by kernel_rfl) rfl rfl (fun K hK => ?_); (refine step_app3 (v := .slice Ac m cc) (by rfl) _ _ stSS (by rfl) (by rfl) own8 (by rfl) (news := [.slice A k c]) (by rfl) (litRd (heap_alloc_new _ _)) (fun h => by cases h) (by intro u hu; simp at hu; (repeat' (rcases hu with rfl | hu)); all_goals (first | rfl | (subst hu; rfl))) (by omega) (by first | exact Nat.zero_le _ | omega | (simp; omega)) ?_; intro vA wA ownA gA atA; have HB := HA2.app (v := .slice Ac m cc) pkQ ownA gA atA; obtain ⟨fB, fL, hcB⟩ := HS.get (z := zs) HB; obtain ⟨f0, ff0⟩ := hcB 0; obtain ⟨f1, ff1⟩ := hcB 1; clear hcB; obtain ⟨AC, cC, rfl, -, -⟩ := own_slice ownA); refine hK.out _ _ ?_ (fun hHeld => ?_); (focus (try dsimp only); go_keep); clear hK K; (try simp only [Act.put, qqa, qqb, qqc]))
      (refine TT.take 16 (v := ?_) rfl (by kernel_rfl) (by kernel_rfl) (by kernel_rfl) (fun _ _ _ h => h) (by rfl) (by assumption) ?_ ?_; rotate_left; (focus (intro w hSw; (try dsimp only at hSw); go_simp; (try with_reducible rfl))); (try simp only [Act.put]); refine TT.take 17 (v := ?_) rfl (by kernel_rfl) (by kernel_rfl) (by kernel_rfl) (fun _ _ _ h => h) (by rfl) (by assumption) ?_ ?_; rotate_left; (focus (intro w hSw; (try dsimp only at hSw); go_simp; (try with_reducible rfl))); (try simp only [Act.put]))
      (refine TT.out 18 (by kernel_rfl) rfl rfl (fun K hK => ?_); go_simp; refine hK.out _ _ ?_; clear hK K; (try simp only [Act.put, qqa, qqb, qqc]))
      (refine TT.takeW 19 (v := ?_) rfl (by kernel_rfl) rfl (by kernel_rfl) (by kernel_rfl) (fun _ _ _ h => h) (by rfl) ?_ ?_; rotate_left; (focus (intro w; go_simp; (try with_reducible rfl))); (try simp only [Act.put, qqa]); refine TT.takeW 20 (v := ?_) rfl (by kernel_rfl) rfl (by kernel_rfl) (by kernel_rfl) (fun _ _ _ h => h) (by rfl) ?_ ?_; rotate_left; (focus (intro w; go_simp; (try with_reducible rfl))); (try simp only [Act.put]))
      (refine TT.out 21 (by kernel_rfl) rfl rfl (fun K hK => ?_); go_simp; refine hK.out _ _ ?_; clear hK K; (try simp only [Act.put, qqa, qqb, qqc]))
      (refine TT.done (by kernel_rfl) ?_)
      go_end0
      refine ⟨rfl, .slice AB (n + 1) cB, .slice AC (m + 1) cC, ?_⟩
      rw [show strV name = .string ⟨name.toArray⟩ from rfl]
      exact ((HB.store (z := zs) pkQ 0 (.slice AB (n + 1) cB)).storeTo (z := zs) pkQ 1 _ #[.slice AB (n + 1) cB, .slice AC (m + 1) cC] rfl).sub pkQ
    · (go_simp; refine hK.out _ _ ?_ (fun hHeld => ?_); (focus (try dsimp only); go_keep); clear hK K; (try simp only [Act.put, qqa, qqb, qqc]))
      have Hb := Ha.alloc #[.slice A k c] 25
      have own7 := Hb.row (v := .slice As n cs) pkQ
      have lit1 := Hb.box (z := w.drew.heap.size) pkQ
      (refine TT.one 8 (by kernel_rfl) rfl rfl (fun K hK => ?_); (refine step_app3 (v := .slice As n cs) (by rfl) _ _ stS (by rfl) (by rfl) own7 (by rfl) (news := [.string ⟨name.toArray⟩]) (by rfl) (litRd lit1) (fun h => by cases h) (by intro u hu; simp at hu; (repeat' (rcases hu with rfl | hu)); all_goals (first | rfl | (subst hu; rfl))) (by omega) (by first | exact Nat.zero_le _ | omega | (simp; omega)) ?_; intro vA wA ownA gA atA; have HA := Hb.app (v := .slice As n cs) pkQ ownA gA atA; obtain ⟨eB, eL, hcB⟩ := HS.get (z := zs) HA; obtain ⟨e0, ef0⟩ := hcB 0; obtain ⟨e1, ef1⟩ := hcB 1; clear hcB; obtain ⟨AB, cB, rfl, -, -⟩ := own_slice ownA; clear ownA gA atA); refine hK.out _ _ ?_ (fun hHeld => ?_); (focus (try dsimp only); go_keep); clear hK K; (try simp only [Act.put, qqa, qqb, qqc]))
      have own8 := HA.row (v := .slice Ac m cc) pkQ
      have lit2 := HA.box (z := (w.drew.alloc (.cells #[.string ⟨name.toArray⟩] 9)).heap.size) pkQ
      rw [hz1] at lit2
      (refine TT.one 15 (by kernel_rfl) rfl rfl (fun K hK => ?_); (refine step_app3 (v := .slice Ac m cc) (by rfl) _ _ stSS (by rfl) (by rfl) own8 (by rfl) (news := [.slice A k c]) (by rfl) (litRd lit2) (fun h => by cases h) (by intro u hu; simp at hu; (repeat' (rcases hu with rfl | hu)); all_goals (first | rfl | (subst hu; rfl))) (by omega) (by first | exact Nat.zero_le _ | omega | (simp; omega)) ?_; intro vA wA ownA gA atA; have HB := HA.app (v := .slice Ac m cc) pkQ ownA gA atA; obtain ⟨fB, fL, hcB⟩ := HS.get (z := zs) HB; obtain ⟨f0, ff0⟩ := hcB 0; obtain ⟨f1, ff1⟩ := hcB 1; clear hcB; obtain ⟨AC, cC, rfl, -, -⟩ := own_slice ownA); refine hK.out _ _ ?_ (fun hHeld => ?_); (focus (try dsimp only); go_keep); clear hK K; (try simp only [Act.put, qqa, qqb, qqc]))
      (refine TT.take 16 (v := ?_) rfl (by kernel_rfl) (by kernel_rfl) (by kernel_rfl) (fun _ _ _ h => h) (by rfl) (by assumption) ?_ ?_; rotate_left; (focus (intro w hSw; (try dsimp only at hSw); go_simp; (try with_reducible rfl))); (try simp only [Act.put]); refine TT.take 17 (v := ?_) rfl (by kernel_rfl) (by kernel_rfl) (by kernel_rfl) (fun _ _ _ h => h) (by rfl) (by assumption) ?_ ?_; rotate_left; (focus (intro w hSw; (try dsimp only at hSw); go_simp; (try with_reducible rfl))); (try simp only [Act.put]))
      (refine TT.out 18 (by kernel_rfl) rfl rfl (fun K hK => ?_); go_simp; refine hK.out _ _ ?_; clear hK K; (try simp only [Act.put, qqa, qqb, qqc]))
      (refine TT.takeW 19 (v := ?_) rfl (by kernel_rfl) rfl (by kernel_rfl) (by kernel_rfl) (fun _ _ _ h => h) (by rfl) ?_ ?_; rotate_left; (focus (intro w; go_simp; (try with_reducible rfl))); (try simp only [Act.put, qqa]); refine TT.takeW 20 (v := ?_) rfl (by kernel_rfl) rfl (by kernel_rfl) (by kernel_rfl) (fun _ _ _ h => h) (by rfl) ?_ ?_; rotate_left; (focus (intro w; go_simp; (try with_reducible rfl))); (try simp only [Act.put]))
      (refine TT.out 21 (by kernel_rfl) rfl rfl (fun K hK => ?_); go_simp; refine hK.out _ _ ?_; clear hK K; (try simp only [Act.put, qqa, qqb, qqc]))
      (refine TT.done (by kernel_rfl) ?_)
      go_end0
      refine ⟨rfl, .slice AB (n + 1) cB, .slice AC (m + 1) cC, ?_⟩
      rw [show strV name = .string ⟨name.toArray⟩ from rfl]
      exact ((HB.store (z := zs) pkQ 0 (.slice AB (n + 1) cB)).storeTo (z := zs) pkQ 1 _ #[.slice AB (n + 1) cB, .slice AC (m + 1) cC] rfl).sub pkQ
  · (go_simp; refine hK.out _ _ ?_ (fun hHeld => ?_); (focus (try dsimp only); go_keep); clear hK K; (try simp only [Act.put, qqa, qqb, qqc]))
    have Hc := Hd.alloc #[.slice A k c] 25
    have Hb := Hc.alloc #[.string ⟨name.toArray⟩] 9
    have own7 := Hb.row (v := .slice As n cs) pkQ
    have lit1 := Hb.box (z := (w.drew.alloc (.cells #[.slice A k c] 25)).heap.size) pkQ
    rw [hz1] at lit1
    (refine TT.one 7 (by kernel_rfl) rfl rfl (fun K hK => ?_); go_simp; refine hK.out _ _ ?_ (fun hHeld => ?_); (focus (try dsimp only); go_keep); clear hK K; (try simp only [Act.put, qqa, qqb, qqc]))
    (refine TT.one 8 (by kernel_rfl) rfl rfl (fun K hK => ?_); (refine step_app3 (v := .slice As n cs) (by rfl) _ _ stS (by rfl) (by rfl) own7 (by rfl) (news := [.string ⟨name.toArray⟩]) (by rfl) (litRd lit1) (fun h => by cases h) (by intro u hu; simp at hu; (repeat' (rcases hu with rfl | hu)); all_goals (first | rfl | (subst hu; rfl))) (by omega) (by first | exact Nat.zero_le _ | omega | (simp; omega)) ?_; intro vA wA ownA gA atA; have HA := Hb.app (v := .slice As n cs) pkQ ownA gA atA; obtain ⟨eB, eL, hcB⟩ := HS.get (z := zs) HA; obtain ⟨e0, ef0⟩ := hcB 0; obtain ⟨e1, ef1⟩ := hcB 1; clear hcB; obtain ⟨AB, cB, rfl, -, -⟩ := own_slice ownA; clear ownA gA atA); refine hK.out _ _ ?_ (fun hHeld => ?_); (focus (try dsimp only); go_keep); clear hK K; (try simp only [Act.put, qqa, qqb, qqc]))
    have own8 := HA.row (v := .slice Ac m cc) pkQ
    have lit2 := HA.box (z := w.drew.heap.size) pkQ
    (refine TT.one 15 (by kernel_rfl) rfl rfl (fun K hK => ?_); (refine step_app3 (v := .slice Ac m cc) (by rfl) _ _ stSS (by rfl) (by rfl) own8 (by rfl) (news := [.slice A k c]) (by rfl) (litRd lit2) (fun h => by cases h) (by intro u hu; simp at hu; (repeat' (rcases hu with rfl | hu)); all_goals (first | rfl | (subst hu; rfl))) (by omega) (by first | exact Nat.zero_le _ | omega | (simp; omega)) ?_; intro vA wA ownA gA atA; have HB := HA.app (v := .slice Ac m cc) pkQ ownA gA atA; obtain ⟨fB, fL, hcB⟩ := HS.get (z := zs) HB; obtain ⟨f0, ff0⟩ := hcB 0; obtain ⟨f1, ff1⟩ := hcB 1; clear hcB; obtain ⟨AC, cC, rfl, -, -⟩ := own_slice ownA); refine hK.out _ _ ?_ (fun hHeld => ?_); (focus (try dsimp only); go_keep); clear hK K; (try simp only [Act.put, qqa, qqb, qqc]))
    (refine TT.take 16 (v := ?_) rfl (by kernel_rfl) (by kernel_rfl) (by kernel_rfl) (fun _ _ _ h => h) (by rfl) (by assumption) ?_ ?_; rotate_left; (focus (intro w hSw; (try dsimp only at hSw); go_simp; (try with_reducible rfl))); (try simp only [Act.put]); refine TT.take 17 (v := ?_) rfl (by kernel_rfl) (by kernel_rfl) (by kernel_rfl) (fun _ _ _ h => h) (by rfl) (by assumption) ?_ ?_; rotate_left; (focus (intro w hSw; (try dsimp only at hSw); go_simp; (try with_reducible rfl))); (try simp only [Act.put]))
    (refine TT.out 18 (by kernel_rfl) rfl rfl (fun K hK => ?_); go_simp; refine hK.out _ _ ?_; clear hK K; (try simp only [Act.put, qqa, qqb, qqc]))
    (refine TT.takeW 19 (v := ?_) rfl (by kernel_rfl) rfl (by kernel_rfl) (by kernel_rfl) (fun _ _ _ h => h) (by rfl) ?_ ?_; rotate_left; (focus (intro w; go_simp; (try with_reducible rfl))); (try simp only [Act.put, qqa]); refine TT.takeW 20 (v := ?_) rfl (by kernel_rfl) rfl (by kernel_rfl) (by kernel_rfl) (fun _ _ _ h => h) (by rfl) ?_ ?_; rotate_left; (focus (intro w; go_simp; (try with_reducible rfl))); (try simp only [Act.put]))
    (refine TT.out 21 (by kernel_rfl) rfl rfl (fun K hK => ?_); go_simp; refine hK.out _ _ ?_; clear hK K; (try simp only [Act.put, qqa, qqb, qqc]))
    (refine TT.done (by kernel_rfl) ?_)
    go_end0
    refine ⟨rfl, .slice AB (n + 1) cB, .slice AC (m + 1) cC, ?_⟩
    rw [show strV name = .string ⟨name.toArray⟩ from rfl]
    exact ((HB.store (z := zs) pkQ 0 (.slice AB (n + 1) cB)).storeTo (z := zs) pkQ 1 _ #[.slice AB (n + 1) cB, .slice AC (m + 1) cC] rfl).sub pkQ
abbrev Sq := List (Bs × Value × List Bs)
def fdR (sc : Sq) (t : Tk) : Value × Int × Int := match findP (sc.map Prod.fst) t.text with
  | some k => ((sc.map fun x => x.2.1).getD k (.slice none 0 0), 0, 0)
  | none => (.slice none 0 0, t.pos, 7)
def FindPost (w : World) (r : Value × Int × Int) (e : Ending) (w' : World) : Prop := e = .returned (.tuple #[r.1, .int .i64 r.2.1, .int .i64 r.2.2]) ∧ Below w.heap.size w w'
theorem find_c {w : World} {l : List HA} {zs : Nat} {sv cv : Value} {sc : Sq} (t : Tk) (hn : sc.length ≤ 1000000) (H : HS w (boxA zs #[sv, cv] 143 :: rowA 9 1 sv sc.length (sc.map fun x => strV x.1) :: rowA 25 1 cv sc.length (sc.map fun x => x.2.1) :: l)) :
    Calls Tryz.prog 145 #[.pointer (some ⟨zs, 0, none⟩), .agg #[.int .i64 t.kind, .string ⟨t.text.toArray⟩, .int .i64 t.int, .int .i64 t.pos]] w (FindPost w (fdR sc t)) := by
  obtain ⟨As, cs, rfl⟩ := H.slice (v := sv) pkQ
  obtain ⟨Ac, cc, rfl⟩ := H.slice (v := cv) pkQ
  have H0 := H.alloc (tkC t) 100
  have o1 := H0.row (v := .slice As sc.length cs) pkQ
  have o2 := H0.row (v := .slice Ac sc.length cc) pkQ
  have hr : RowB (w.alloc (.cells (tkC t) 100)) (w.alloc (.cells (tkC t) 100)).heap.size As sc.length (sc.map Prod.fst) := RowOf.of_own (by rw [flat_str, List.map_map]; exact o1) (by simp)
  have hb : Below w.heap.size w (w.alloc (.cells (tkC t) 100)) := by (exact belQ)
  have hI := sIndex_c (c := cs) t.text hr.drew (by unfold maxLen; omega)
  unfold tkC at H0 hI hb o2
  cases hf : findP (sc.map Prod.fst) t.text with
  | none =>
    rw [show fdR sc t = (.slice none 0 0, t.pos, 7) by unfold fdR; rw [hf]]
    rw [show idxI (sc.map Prod.fst) t.text = -1 by unfold idxI; rw [hf]] at hI
    clear hf hr o1 o2 H
    go_enter Tryz.func145, Tryz.ntmps145
    go_upto_region 1 with fail
    generalize hw : w.alloc _ = w1 at hI H0 hb ⊢
    clear hw
    obtain ⟨dB, dL, hcB⟩ := HS.get (z := zs) H0; obtain ⟨d0, df0⟩ := hcB 0; obtain ⟨d1, df1⟩ := hcB 1; clear hcB
    obtain ⟨kB, kL, hcB⟩ := HS.get (z := w.heap.size) H0; obtain ⟨k0, kf0⟩ := hcB 0; obtain ⟨k1, kf1⟩ := hcB 1; obtain ⟨k2, kf2⟩ := hcB 2; obtain ⟨k3, kf3⟩ := hcB 3; clear hcB
    (refine wp_region_G 7 (fun w' => w'.cell? ⟨zs, 0, none⟩ = some (.slice As sc.length cs) ∧ w'.cell? ⟨w.heap.size, 1, none⟩ = some (.string ⟨t.text.toArray⟩)) (by kernel_rfl) ?_ (fun hHeld => ?_); (focus (try dsimp only); go_keep))
    (refine GG.k 0 ?_; refine GG.k 1 ?_; refine GG.k 2 ?_; refine GG.k 3 ?_; refine GG.k 4 ?_; refine GG.k 5 ?_)
    (refine GG.o 6 (fun K hK => ?_); (go_simp; go_at_call 44; (with_reducible refine hI.mono ?_); rintro e w2 ⟨rfl, rfl⟩); refine hK.out _ _ ?_ (fun hHeld => ?_); (focus (try dsimp only); go_keep); clear hK K; (try simp only [Act.put, qqa, qqb, qqc]))
    (refine GG.l (fun K hK => ?_); go_simp; refine hK.out _ _ ?_; clear hK K)
    go_upto_region 3 with fail
    go_quiet (fail)
    go_wp2_with fail
    go_ret3
    exact ⟨rfl, by (exact belQ)⟩
  | some k =>
    have hk := findP_lt hf
    rw [List.length_map] at hk
    obtain ⟨x, hx⟩ : ∃ x, sc[k]? = some x := ⟨sc[k], List.getElem?_eq_getElem hk⟩
    rw [show fdR sc t = (x.2.1, 0, 0) by unfold fdR; rw [hf]; simp [hx]]
    rw [show idxI (sc.map Prod.fst) t.text = (k : Int) by unfold idxI; rw [hf]] at hI
    have h2 := Rd.of_own o2 (by intro e; have := congrArg List.length e; simp at this; rw [this] at hk; simp at hk)
    obtain ⟨b, off, e2, hb2, h3⟩ := h2
    have h4 := h3 k x.2.1 (by simp [hx])
    have hi0 : (0 : Int) ≤ (k : Int) := by omega
    have hi1 : (k : Int) < (sc.length : Int) := by omega
    rw [e2] at H0
    clear hf hr o1 o2 H h3 hx
    go_enter Tryz.func145, Tryz.ntmps145
    go_upto_region 1 with fail
    generalize hw : w.alloc _ = w1 at hI H0 hb h4 hb2 ⊢
    clear hw
    obtain ⟨dB, dL, hcB⟩ := HS.get (z := zs) H0; obtain ⟨d0, df0⟩ := hcB 0; obtain ⟨d1, df1⟩ := hcB 1; clear hcB
    obtain ⟨gB, gL, hcB⟩ := HS.get (z := w.heap.size) H0; obtain ⟨g0, gf0⟩ := hcB 0; obtain ⟨g1, gf1⟩ := hcB 1; obtain ⟨g2, gf2⟩ := hcB 2; obtain ⟨g3, gf3⟩ := hcB 3; clear hcB
    (refine wp_region_G 7 (fun w' => w'.cell? ⟨zs, 0, none⟩ = some (.slice As sc.length cs) ∧ w'.cell? ⟨w.heap.size, 1, none⟩ = some (.string ⟨t.text.toArray⟩)) (by kernel_rfl) ?_ (fun hHeld => ?_); (focus (try dsimp only); go_keep))
    (refine GG.k 0 ?_; refine GG.k 1 ?_; refine GG.k 2 ?_; refine GG.k 3 ?_; refine GG.k 4 ?_; refine GG.k 5 ?_)
    (refine GG.o 6 (fun K hK => ?_); (go_simp; go_at_call 44; (with_reducible refine hI.mono ?_); rintro e w2 ⟨rfl, rfl⟩); refine hK.out _ _ ?_ (fun hHeld => ?_); (focus (try dsimp only); go_keep); clear hK K; (try simp only [Act.put, qqa, qqb, qqc]))
    (refine GG.l (fun K hK => ?_); go_simp; refine hK.out _ _ ?_; clear hK K)
    go_wp2_with fail
    go_ret3
    exact ⟨rfl, by (exact belQ)⟩
end Go.Proofs.YtpnfbehbheddeaaGreatDoor
