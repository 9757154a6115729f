/- Contract of source. The numbers of the tokens are from 0 to 2^32. The look-up of names: findColumn, resolvePair, and the names of columns as parts of memory. At most 1000000 names. Regions that draw their order: S is asked behind the operations of T alone; what may be taken first is checked operation by operation. No condition. -/
import Derived.Test.YtpnfbehbheddeaaGreatDoorBn30
import Derived.Test.YtpnfbehbheddeaaGreatDoorBn23
namespace Go.Proofs.YtpnfbehbheddeaaGreatDoor
set_option maxRecDepth 100000
set_option maxHeartbeats 8000000
set_option linter.unusedVariables false
set_option linter.unusedSimpArgs false
open Go.RowKit
section
variable {p : Pp} {w w' : World} {s s' : Ps} {d : Dc} {l : List HA}
theorem DInv.facts (I : DInv p l w s d) : p.e.toks.length ≤ 100000 ∧ s.pos ≤ p.e.toks.length ∧ posW p w = s.pos ∧ ∃ A c, w.cell? ⟨p.pb, 0, none⟩ = some (.slice A p.e.toks.length c) ∧ w.cell? ⟨p.pb, 1, none⟩ = some (.int .i64 s.pos) ∧ p.pb < w.heap.size := by
  obtain ⟨p', m, pool, hpb, he, hd, hok, hns, H⟩ := I
  unfold mA at H
  obtain ⟨rv, P, -⟩ := H.ps pkQ
  have h1 := P.few
  have h2 := P.ok
  have h3 := P.posW
  obtain ⟨⟨c0, c1, -, -, -, -⟩, -⟩ := P.cells
  have h4 := P.lt
  rw [hpb] at c0 c1 h4
  rw [he] at c0 h1 h2
  exact ⟨h1, h2, by unfold posW at h3 ⊢; rw [hpb] at h3; exact h3, _, _, c0, c1, h4⟩
theorem DInv.drewN (I : DInv p l w s d) (n : Nat) : DInv p l (w.drewN n) s d := by
  obtain ⟨p', m, pool, hpb, he, hd, hok, hns, H⟩ := I
  exact ⟨p', m, pool, hpb, he, hd, hok, hns, H.drewN n⟩
theorem declaration_d (hN : p.e.okN) (I : DInv p l w s d) (hlt : s.pos < p.e.toks.length) : Calls Tryz.prog 87 #[.pointer (some ⟨p.pb, 0, none⟩)] w fun e w' => e = .returned (.tuple #[]) ∧ DInv p l w' (declP p.e s d).2 (declP p.e s d).1 := by
  obtain ⟨p', m, pool, hpb, he, hd, hok, hns, H⟩ := I
  have h := declaration_s (p := p') (by rw [he]; exact hN) hok hns (by rw [he]; exact hlt) H
  rw [hpb, he, hd] at h
  exact h.mono fun e w' ⟨h1, p2, m2, pool2, h2, h3, h4⟩ => ⟨h1, p2, m2, pool2, h2.trans hpb, h3.trans he, h4⟩
theorem expect_d (I : DInv p l w s d) (x0 : Bs) : Calls Tryz.prog 88 #[.pointer (some ⟨p.pb, 0, none⟩), .slice (some ⟨w.heap.size, 0, none⟩) 1 1] (w.alloc (.cells #[.string ⟨x0.toArray⟩] 9)) fun e w' => e = .returned (.string ⟨(expectP p.e s [x0]).1.toArray⟩) ∧ DInv p l w' (expectP p.e s [x0]).2 d := by
  have hf := (I.facts).2.1
  obtain ⟨p', m, pool, hpb, he, hd, hok, hns, H⟩ := I
  unfold mA at H
  have h := exp1_s H pkQ x0
  rw [hpb, he] at h
  refine h.mono ?_
  rintro e w' ⟨h1, h2⟩
  have hle := (fwd_expect (e := p.e) (s := s) [x0] hf).1
  exact ⟨h1, p', m, pool, hpb, he, hd, hok, fun i hi => Nat.le_trans (hns i hi) hle, h2⟩
theorem fwd_decl (d : Dc) : Fwd p.e s (declP p.e s d).2 := by
  unfold declP
  dsimp only
  refine Fwd.trans (fwd_expect wKinds) ?_
  split
  · exact Fwd.refl
  · unfold kindP
    split
    · exact fwd_table
    · exact fwd_view
    · exact fwd_index
    · exact fwd_sketch
    · exact fwd_cache
    · exact fwd_release
    · exact fwd_stream
    · exact fwd_backup
theorem decl_lt (d : Dc) (hlt : s.pos < p.e.toks.length) : s.pos + 1 ≤ (declP p.e s d).2.pos ∧ (declP p.e s d).2.pos ≤ p.e.toks.length := by
  have h1 := expect_lt (e := p.e) (s := s) (ws := wKinds) hlt
  have h2 := fwd_expect (e := p.e) (s := s) wKinds (Nat.le_of_lt hlt)
  refine ⟨?_, (fwd_decl d (Nat.le_of_lt hlt)).2⟩
  have h3 : Fwd p.e (expectP p.e s wKinds).2 (declP p.e s d).2 := by
    unfold declP
    dsimp only
    split
    · exact Fwd.refl
    · unfold kindP
      split
      · exact fwd_table
      · exact fwd_view
      · exact fwd_index
      · exact fwd_sketch
      · exact fwd_cache
      · exact fwd_release
      · exact fwd_stream
      · exact fwd_backup
  have := (h3 h2.2).1
  omega
def SoRel (p : Pp) (l : List HA) (R : Dc × Ps) (wr : World) : Prop :=
  ∃ (f : Nat) (s : Ps) (d : Dc), DInv p l wr s d ∧ Hid (sourceP p.e f s d = R) ∧ p.e.toks.length - s.pos + 1 ≤ f
theorem source_s (hN : p.e.okN) (I : DInv p l w s d) : Calls Tryz.prog 47 #[.pointer (some ⟨p.pb, 0, none⟩)] w fun e w' => e = .returned (.tuple #[]) ∧ DInv p l w' (sourceP p.e (p.e.toks.length + 1) s d).2 (sourceP p.e (p.e.toks.length + 1) s d).1 := by
  obtain ⟨R, hR⟩ : ∃ R, sourceP p.e (p.e.toks.length + 1) s d = R := ⟨_, rfl⟩
  rw [hR]
  have HR := Lib.hid hR
  clear hR
  go_enter Tryz.func47, Tryz.ntmps47
  go_wp2_with fail
  go_loopw [11] (fun _ wr => SoRel p l R wr) (fun _ wr => p.e.toks.length - posW p wr)
  case atStart => exact ⟨_, s, d, I, HR.out, by omega⟩
  case round =>
    obtain ⟨f1, s1, d1, I1, HC, hfu⟩ := hrel
    clear I HR
    obtain ⟨f, rfl⟩ : ∃ f, f1 = f + 1 := ⟨f1 - 1, by omega⟩
    obtain ⟨hfew, hok, hpw, A, c, c0, c1, hl⟩ := I1.facts
    have HM := Lib.hid hpw
    clear hpw
    by_cases hlt : s1.pos < p.e.toks.length
    · have h2 : (s1.pos : Int) < (p.e.toks.length : Int) := by omega
      have hC := HC.out
      rw [show sourceP p.e (f + 1) s1 d1 = sourceP p.e f (expectP p.e (declP p.e s1 d1).2 [[59]]).2 (declP p.e s1 d1).1 by rw [sourceP]; rw [if_pos hlt]] at hC
      have hlp := decl_lt (p := p) d1 hlt
      have hD := fun w1 (I : DInv p l w1 s1 d1) => declaration_d hN I hlt
      generalize declP p.e s1 d1 = q at hC hlp hD
      obtain ⟨d2, s2⟩ := q
      dsimp only at hC hlp hD
      have hE := fun w1 (I : DInv p l w1 s2 d2) => expect_d I [59]
      have hle := fwd_expect (e := p.e) (s := s2) [[59]] hlp.2
      generalize expectP p.e s2 [[59]] = q at hC hE hle
      obtain ⟨wd, s3⟩ := q
      dsimp only at hC hE hle
      have HC2 := Lib.hid hC
      clear hC HC
      go_upto_region 0 with fail
      go_quiet (fail)
      generalize hw : World.drewN wr _ = w1
      have I2 : DInv p l w1 s1 d1 := by rw [← hw]; exact I1.drewN _
      clear hw I1 c0 c1
      go_wp2_with (first
        | (go_at_call 87; (with_reducible refine (hD _ I2).mono ?_); rintro e w2 ⟨rfl, I3⟩)
        | (go_at_call 88; (with_reducible refine (hE _ I3).mono ?_); rintro e w3 ⟨rfl, I4⟩))
      have hp3 := I4.facts.2.2.1
      go_roundw
      case rel => exact ⟨f, s3, d2, I4, HC2.out, by omega⟩
      case measure =>
        rw [HM.out, hp3]
        omega
    · have h2 : ¬ (s1.pos : Int) < (p.e.toks.length : Int) := by omega
      have hC := HC.out
      rw [show sourceP p.e (f + 1) s1 d1 = (d1, s1) by rw [sourceP]; rw [if_neg hlt]] at hC
      subst hC
      clear HC hlt
      go_upto_region 0 with fail
      go_quiet (fail)
      go_wp2_with fail
      go_end0
      exact ⟨rfl, I1.drewN _⟩
end
def fcR (ws : List Bs) (t : Tk) : Int × Int × Int := match findP ws t.text with
  | some k => (k, 0, 0)
  | none => (0, t.pos, 3)
theorem fcR_some {ws : List Bs} {t : Tk} {k : Nat} (h : findP ws t.text = some k) : fcR ws t = ((k : Int), 0, 0) := by unfold fcR; rw [h]
theorem fcR_none {ws : List Bs} {t : Tk} (h : findP ws t.text = none) : fcR ws t = (0, t.pos, 3) := by unfold fcR; rw [h]
def int3 (r : Int × Int × Int) : Value := .tuple #[.int .i64 r.1, .int .i64 r.2.1, .int .i64 r.2.2]
def FcPost (w : World) (r : Int × Int × Int) (e : Ending) (w' : World) : Prop := e = .returned (int3 r) ∧ Below w.heap.size w w'
theorem findColumn_c {w : World} {A : Option Addr} {n c : Nat} {ws : List Bs} (t : Tk) (hr : RowB w w.heap.size A n ws) (hn : n ≤ 1000000) : Calls Tryz.prog 143 #[.slice A n c, .agg #[.int .i64 t.kind, .string ⟨t.text.toArray⟩, .int .i64 t.int, .int .i64 t.pos]] w (FcPost w (fcR ws t)) := by
  have hr1 : RowB (w.alloc (.cells (tkC t) 100)) w.heap.size A n ws := hr.alloc (Nat.le_refl _) _
  have hI := sIndex_c (c := c) t.text hr1 (by unfold maxLen; omega)
  have hz := heap_alloc_new w (.cells (tkC t) 100)
  have hb : Below w.heap.size w (w.alloc (.cells (tkC t) 100)) := by (exact belQ)
  have hlt : w.heap.size < (w.alloc (.cells (tkC t) 100)).heap.size := by simp
  unfold tkC at hI hz hb hlt hr1
  cases hf : findP ws t.text with
  | none =>
    rw [fcR_none hf]
    rw [show idxI ws t.text = -1 by unfold idxI; rw [hf]] at hI
    clear hf hr hr1
    go_enter Tryz.func143, Tryz.ntmps143
    go_upto_region 1 with fail
    generalize w.alloc _ = w1 at hI hz hb hlt ⊢
    obtain ⟨hcB, hfB⟩ := blk_cells (hz); have d0 := hcB 0; have df0 := hfB 0; have d1 := hcB 1; have df1 := hfB 1; have d2 := hcB 2; have df2 := hfB 2; have d3 := hcB 3; have df3 := hfB 3; clear hcB hfB
    go_upto_region 3 with (go_at_call 44; refine hI.mono ?_; rintro e w2 ⟨rfl, rfl⟩)
    go_quiet (fail)
    go_wp2_with fail
    go_ret3
    exact ⟨rfl, by (exact belQ)⟩
  | some k =>
    rw [fcR_some hf]
    rw [show idxI ws t.text = (k : Int) by unfold idxI; rw [hf]] at hI
    have hk := findP_lt hf
    have hl := hr.len
    clear hf hr hr1
    go_enter Tryz.func143, Tryz.ntmps143
    go_upto_region 1 with fail
    generalize w.alloc _ = w1 at hI hz hb hlt ⊢
    obtain ⟨hcB, hfB⟩ := blk_cells (hz); have d0 := hcB 0; have df0 := hfB 0; have d1 := hcB 1; have df1 := hfB 1; have d2 := hcB 2; have df2 := hfB 2; have d3 := hcB 3; have df3 := hfB 3; clear hcB hfB
    go_wp2_with (go_at_call 44; refine hI.mono ?_; rintro e w2 ⟨rfl, rfl⟩)
    go_ret3
    exact ⟨rfl, by (exact belQ)⟩
section
variable {P : Program} {ops : Array Oper} {Q : Exit → Act → World → Prop} {md : Region.Mode} {S : World → Prop} {T : Nat → Bool}
def Closed (md : Region.Mode) (ops : Array Oper) (listed : Array Bool) : Prop := ∀ (j : Nat) (oj : Oper), ops[j]? = some oj → listed.getD j false = true → ∀ e ∈ oj.after, Region.binds md e = true → listed.getD e.on false = true
theorem Closed.set {listed : Array Bool} {i : Nat} (h : Closed md ops listed) (hi : i ∈ Region.ready md ops listed) : Closed md ops (listed.setIfInBounds i true) := fun j oj hoj hl e he hb => by
  by_cases hij : i = j
  · subst hij
    obtain ⟨_, ot, hot, hall⟩ := mem_ready.1 hi
    have : oj = ot := Option.some.inj (hoj.symm.trans hot)
    subst this
    exact getD_set_true (hall e he hb)
  · rw [getD_set_ne false hij] at hl
    exact getD_set_true (h j oj hoj hl e he hb)
def waits (md : Region.Mode) (ops : Array Oper) : Nat → Nat → Nat → Bool
  | 0, _, _ => false
  | f + 1, j, i => match ops[j]? with
    | some oj => oj.after.any fun e => Region.binds md e && (e.on == i || waits md ops f e.on i)
    | none => false
theorem waits_listed {listed : Array Bool} (hc : Closed md ops listed) : ∀ (f j i : Nat), (∀ oj, ops[j]? = some oj → ∀ e ∈ oj.after, Region.binds md e = true → listed.getD e.on false = true) → waits md ops f j i = true → listed.getD i false = true := by
  intro f
  induction f with
  | zero => intro j i _ h; simp [waits] at h
  | succ f ih =>
    intro j i hall h
    unfold waits at h
    split at h
    · rename_i oj hoj
      obtain ⟨e, he, h2⟩ := Array.any_eq_true'.1 h
      simp only [Bool.and_eq_true, Bool.or_eq_true, beq_iff_eq] at h2
      obtain ⟨hb, h3⟩ := h2
      have h4 := hall oj hoj e he hb
      rcases h3 with h3 | h3
      · rw [← h3]; exact h4
      · exact ih e.on i (fun ok hok e' he' hb' => hc e.on ok hok h4 e' he' hb') h3
    · cases h
def okTT (md : Region.Mode) (ops : Array Oper) (T : Nat → Bool) (L : Array Bool) (i : Nat) : Bool := Region.noSelect ops && (List.range ops.size).all fun j => T j || (L.getD j false || waits md ops ops.size j i)
theorem okTT_spec {i : Nat} {L : Array Bool} (h : okTT md ops T L i = true) {listed : Array Bool} (hc : Closed md ops listed) (hL : ∀ j, L.getD j false = true → listed.getD j false = true) (hun : listed.getD i true = false) : ∀ j ∈ Region.ready md ops listed, T j = true := fun j hj => by
  simp only [okTT, Bool.and_eq_true] at h
  obtain ⟨hju, oj, hoj, hall⟩ := mem_ready.1 hj
  have h2 := List.all_eq_true.1 h.2 j (List.mem_range.2 (Array.getElem?_eq_some_iff.1 hoj).1)
  rw [Bool.or_eq_true, Bool.or_eq_true] at h2
  rcases h2 with h2 | h2 | h2
  · exact h2
  · have := hL j h2
    rw [getD_both hju] at this
    cases this
  · have := waits_listed hc _ j i (fun ot hot => by
      have : oj = ot := Option.some.inj (hoj.symm.trans hot)
      subst this
      exact hall) h2
    rw [getD_both hun] at this
    cases this
def wpAnyT (P : Program) (md : Region.Mode) (ops : Array Oper) (Q : Exit → Act → World → Prop) (S : World → Prop) (T : Nat → Bool) : Nat → Array Bool → Act → World → Prop
  | 0, listed, a, w => Region.ready md ops listed = [] ∧ Q .normal a w
  | fuel + 1, listed, a, w =>
    (Region.ready md ops listed = [] → Q .normal a w) ∧
    ∀ i ∈ Region.ready md ops listed, wpOp P ops Q i (fun a' w' => (T i = true → S w') ∧ wpAnyT P md ops Q S T fuel (listed.setIfInBounds i true) a' w') a w
theorem wpAny_of_T : ∀ (fuel : Nat) (listed : Array Bool) (a : Act) (w : World), wpAnyT P md ops Q S T fuel listed a w → wpAny P md ops Q fuel listed a w
  | 0, _, _, _, h => h
  | fuel + 1, _, _, _, h => ⟨h.1, fun i hi => wpOp_mono (fun a' w' h' => wpAny_of_T fuel _ a' w' h'.2) (h.2 i hi)⟩
theorem wpAnyT_first {R : World → Prop} {i : Nat} {oi : Oper} {v : Value} (hi : ops[i]? = some oi) (hsel : ∀ (j : Nat) (o : Oper) cs b, ops[j]? = some o → o.op ≠ .select cs b)
    (hQ : ∀ c a w, Q (.panic c) (a.put oi.dst v) w → Q (.panic c) a w) (hR : ∀ w, R w → T i = true → S w)
    {L : Array Bool} (hgo : ∀ listed w', Closed md ops listed → (∀ j, L.getD j false = true → listed.getD j false = true) → listed.getD i true = false → ∀ j ∈ Region.ready md ops listed, (T j = true → S w') → R w') :
    ∀ (fuel : Nat) (listed : Array Bool) (a : Act) (w : World), Closed md ops listed → (∀ j, L.getD j false = true → listed.getD j false = true) →
      (∀ j oj, ops[j]? = some oj → j ≠ i → listed.getD j true = false → (∀ e ∈ oj.after, Region.binds md e = true → e.on ≠ i) → oi.apart ops oj = true) →
      i ∈ Region.ready md ops listed → YieldsIf P ops R oi v a → R w →
      wpAnyT P md ops Q S T fuel (listed.setIfInBounds i true) (a.put oi.dst v) w → wpAnyT P md ops Q S T (fuel + 1) listed a w := by
  intro fuel
  induction fuel with
  | zero =>
    intro listed a w _ _ _ hr hy hS H
    refine ⟨fun h => (by rw [h] at hr; cases hr), fun j hj => ?_⟩
    by_cases hji : j = i
    · subst hji; exact hy.wpOp hi hS ⟨hR w hS, H⟩
    · have := ready_mono hj hji
      rw [H.1] at this
      cases this
  | succ fuel ih =>
    intro listed a w inv hL hfree hr hy hS H
    refine ⟨fun h => (by rw [h] at hr; cases hr), fun j hj => ?_⟩
    by_cases hji : j = i
    · subst hji; exact hy.wpOp hi hS ⟨hR w hS, H⟩
    · have h1 := H.2 j (ready_mono hj hji)
      obtain ⟨hjun, oj, hoj, hall⟩ := mem_ready.1 hj
      have hnot : ∀ e ∈ oj.after, Region.binds md e = true → e.on ≠ i := fun e he hb heq => by
        have h1 := hall e he hb
        have h0 := (mem_ready.1 hr).1
        rw [heq, getD_both h0] at h1
        cases h1
      have h2 := wpOp_putIf hoj (hfree j oj hoj hji hjun hnot) (fun cs b => hsel i oi cs b hi) (fun cs b => hsel j oj cs b hoj) hQ hy h1
      have hfree' : ∀ k ok, ops[k]? = some ok → k ≠ i → (listed.setIfInBounds j true).getD k true = false →
          (∀ e ∈ ok.after, Region.binds md e = true → e.on ≠ i) → oi.apart ops ok = true := fun k ok hk hki hun hno => by
        refine hfree k ok hk hki ?_ hno
        by_cases hjk : j = k
        · subst hjk; exact hjun
        · rw [getD_set_ne true hjk] at hun; exact hun
      refine wpOp_mono (fun a' w' h3 => ⟨h3.2.1, ih (listed.setIfInBounds j true) a' w' (inv.set hj) (fun k hk => getD_set_true (hL k hk)) hfree' (ready_mono hr (Ne.symm hji)) h3.1 (hgo listed w' inv hL (mem_ready.1 hr).1 j hj h3.2.1) ?_⟩) h2
      rw [Array.setIfInBounds_comm _ _ hji]
      exact h3.2.2
def TT (P : Program) (md : Region.Mode) (ops : Array Oper) (Q : Exit → Act → World → Prop) (S : World → Prop) (T : Nat → Bool) (fuel : Nat) (listed : Array Bool) (a : Act) (w : World) : Prop :=
  Closed md ops listed → wpAnyT P md ops Q S T fuel listed a w
theorem wp_region_T {id : Nat} {a : Act} {w : World} (T : Nat → Bool) (S : World → Prop) (hm : P.follows .mixedOrders = true) (hS : S w.drew)
    (h : S w.drew → TT P .any ops Q S T ops.size (Array.replicate ops.size false) a w.drew) : (Code.region id ops true).wp P Q a w :=
  wp_region_any hm (wpAny_of_T _ _ _ _ (h hS fun j oj _ hl => (by rw [getD_replicate_false] at hl; cases hl)))
theorem TT.take (i : Nat) {oi : Oper} {v : Value} {fuel : Nat} {listed : Array Bool} {a : Act} {w : World} (hi : ops[i]? = some oi) (hok : okTT md ops T listed i = true)
    (hf : Region.free md ops listed i = true) (hr : (Region.ready md ops listed).contains i = true)
    (hQ : ∀ c a w, Q (.panic c) (a.put oi.dst v) w → Q (.panic c) a w) (hw : Region.wanted oi (yielded ops a.tmps) = true) (hS : S w) (hy : ∀ w, S w → (execOp a.eval oi).run P w = .ok (.value v) w)
    (h : TT P md ops Q S T fuel (listed.setIfInBounds i true) (a.put oi.dst v) w) : TT P md ops Q S T (fuel + 1) listed a w := fun inv => by
  have hok2 := hok
  simp only [okTT, Bool.and_eq_true] at hok
  have hr' : i ∈ Region.ready md ops listed := by simpa using hr
  exact wpAnyT_first (R := S) hi (Region.noSelect_spec hok.1) hQ (fun _ h _ => h) (L := listed) (fun listed w' hc hL hun j hj h => h (okTT_spec hok2 hc hL hun j hj)) fuel listed a w inv (fun _ h => h) (Region.free_spec hi hf) hr' (.inl ⟨hw, hy⟩) hS (h (inv.set hr'))
theorem TT.takeW (i : Nat) {oi : Oper} {v : Value} {fuel : Nat} {listed : Array Bool} {a : Act} {w : World} (hi : ops[i]? = some oi) (hsel : Region.noSelect ops = true) (hT : T i = false)
    (hf : Region.free md ops listed i = true) (hr : (Region.ready md ops listed).contains i = true)
    (hQ : ∀ c a w, Q (.panic c) (a.put oi.dst v) w → Q (.panic c) a w) (hw : Region.wanted oi (yielded ops a.tmps) = true) (hy : ∀ w, (execOp a.eval oi).run P w = .ok (.value v) w)
    (h : TT P md ops Q S T fuel (listed.setIfInBounds i true) (a.put oi.dst v) w) : TT P md ops Q S T (fuel + 1) listed a w := fun inv => by
  have hr' : i ∈ Region.ready md ops listed := by simpa using hr
  exact wpAnyT_first (R := fun _ => True) hi (Region.noSelect_spec hsel) hQ (fun _ _ h => by rw [hT] at h; cases h) (L := listed) (fun _ _ _ _ _ _ _ _ => trivial) fuel listed a w inv (fun _ h => h) (Region.free_spec hi hf) hr' (.inl ⟨hw, fun w _ => hy w⟩) trivial (h (inv.set hr'))
theorem TT.one (i : Nat) {o : Oper} {fuel : Nat} {listed : Array Bool} {a : Act} {w : World} (hr : Region.ready md ops listed = [i]) (hT : T i = true) (ho : ops[i]? = some o)
    (h : ∀ K' : Act → World → Prop, Shut (∀ a w, S w → (S w → TT P md ops Q S T fuel (listed.setIfInBounds i true) a w) → K' a w) → if Region.wanted o (yielded ops a.tmps) = true then Oper.wp P o a w K' Q else K' (a.put o.dst undef) w) : TT P md ops Q S T (fuel + 1) listed a w := fun inv => by
  refine ⟨fun h0 => (by rw [hr] at h0; cases h0), fun j hj => ?_⟩
  have hj' := hj
  rw [hr, List.mem_singleton] at hj
  subst hj
  exact wpOp_step ho fun K' hK => h K' fun a w hS hW => hK a w ⟨fun _ => hS, hW hS (inv.set hj')⟩
theorem TT.out (i : Nat) {o : Oper} {fuel : Nat} {listed : Array Bool} {a : Act} {w : World} (hr : Region.ready md ops listed = [i]) (hT : T i = false) (ho : ops[i]? = some o)
    (h : ∀ K' : Act → World → Prop, Shut (∀ a w, TT P md ops Q S T fuel (listed.setIfInBounds i true) a w → K' a w) → if Region.wanted o (yielded ops a.tmps) = true then Oper.wp P o a w K' Q else K' (a.put o.dst undef) w) : TT P md ops Q S T (fuel + 1) listed a w := fun inv => by
  refine ⟨fun h0 => (by rw [hr] at h0; cases h0), fun j hj => ?_⟩
  have hj' := hj
  rw [hr, List.mem_singleton] at hj
  subst hj
  exact wpOp_step ho fun K' hK => h K' fun a w hW => hK a w ⟨fun h => (by rw [hT] at h; cases h), hW (inv.set hj')⟩
theorem TT.two (i j : Nat) {o o2 : Oper} {fuel : Nat} {listed : Array Bool} {a : Act} {w : World} (hr : Region.ready md ops listed = [i, j]) (hT : T i = true ∧ T j = true) (ho : ops[i]? = some o) (ho2 : ops[j]? = some o2)
    (h : ∀ K' : Act → World → Prop, Shut (∀ a w, S w → (S w → TT P md ops Q S T fuel (listed.setIfInBounds i true) a w) → K' a w) → if Region.wanted o (yielded ops a.tmps) = true then Oper.wp P o a w K' Q else K' (a.put o.dst undef) w)
    (h2 : ∀ K' : Act → World → Prop, Shut (∀ a w, S w → (S w → TT P md ops Q S T fuel (listed.setIfInBounds j true) a w) → K' a w) → if Region.wanted o2 (yielded ops a.tmps) = true then Oper.wp P o2 a w K' Q else K' (a.put o2.dst undef) w) : TT P md ops Q S T (fuel + 1) listed a w := fun inv => by
  refine ⟨fun h0 => (by rw [hr] at h0; cases h0), fun k hk => ?_⟩
  have hk' := hk
  rw [hr, List.mem_cons, List.mem_singleton] at hk
  rcases hk with rfl | rfl
  · exact wpOp_step ho fun K' hK => h K' fun a w hS hW => hK a w ⟨fun _ => hS, hW hS (inv.set hk')⟩
  · exact wpOp_step ho2 fun K' hK => h2 K' fun a w hS hW => hK a w ⟨fun _ => hS, hW hS (inv.set hk')⟩
theorem TT.done {fuel : Nat} {listed : Array Bool} {a : Act} {w : World} (hr : Region.ready md ops listed = []) (h : Q .normal a w) : TT P md ops Q S T fuel listed a w := fun _ => by
  cases fuel with
  | zero => exact ⟨hr, h⟩
  | succ n => exact ⟨fun _ => h, by rw [hr]; simp⟩
end
end Go.Proofs.YtpnfbehbheddeaaGreatDoor
