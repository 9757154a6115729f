/- Parse of a source whose first declaration is a view of a store that isn't declared. Sources of at most 2^40 bytes. The variable ErrRange can be read. The look-up of names behind a parser of declarations that has read one table. Parse of a source of one table that is right and refers to no store. Sources of at most 2^40 bytes. The variable ErrRange can be read. What the two sources of the sanity check are, as they are read: plain Lean, by evaluation. Contracts of the reference's Add and Columns, and of SameInts. Contract of the laws' sanity check awake: Parse of its two sources. The variable ErrRange can be read. How the program writes expressions as tokens: a mirror in plain Lean. No program in sight, no condition. -/
import Derived.Test.YtpnfbehbheddeaaGreatDoorBn39
import Derived.Test.YtpnfbehbheddeaaGreatDoorBn02
import Derived.Test.YtpnfbehbheddeaaGreatDoorBn34
import Derived.BigQuiet
import Derived.Test.YtpnfbehbheddeaaGreatDoorBn32
namespace Go.Proofs.YtpnfbehbheddeaaGreatDoor
set_option maxRecDepth 100000
set_option maxHeartbeats 8000000
set_option linter.unusedVariables false
set_option linter.unusedSimpArgs false
open Go.RowKit
theorem idle_SParse (w : World) : CallsD Tryz.prog 46 #[] .returning w fun e u' w' => e = .returned (.tuple #[]) ∧ u' = .returning ∧ w' = w := by
  refine callsD_of_wpS Tryz.func46 rfl fun c₀ cs hu => ?_
  apply wpS_region
  cases c₀
  simp_all [wpOpsS, go_sem, recoverD, Tryz.ntmps46, bodyPostS, results, Tryz.results46]
theorem HS.boxAt {w : World} {l l' : List HA} {z : Nat} {ds : Array Value} {te : TypeId} (H : HS w l) (hp : Pick l (boxA z ds te) l') (i : Nat) {u : Value} (h : ds[i]? = some u) : w.cell? ⟨z, i, none⟩ = some u := by
  obtain ⟨hc, -⟩ := Box.cells (H.box hp)
  rw [hc i, h]
theorem parse_V (s : ByteArray) (w : World) (hs : s.size ≤ 1099511627776) (hE : GE w) {toks : List Tk} {k : Nat} (hsc : scanO s.data.toList = (toks, k, 0)) {d : Dc} {sx : Ps} (hso : sourceP ⟨toks, s.size⟩ (toks.length + 1) ⟨0, false, 0, []⟩ Dc.nil = (d, sx)) (hf : sx.failed = false) {n : Vn} (h1 : d.cat.tables = []) (h2 : d.views = [n]) :
    Calls Tryz.prog 22 #[.string s] w fun e w' => e = .returned (.tuple #[.agg #[.slice none 0 0, .slice none 0 0, .slice none 0 0, .slice none 0 0, .slice none 0 0, .slice none 0 0, .slice none 0 0, .slice none 0 0], .int .i64 n.left.pos, .int .i64 7]) ∧ Below w.heap.size w w' := by
  have hN := scan_okN hsc s.size
  have hlen := scanO_len s.data.toList
  have hP := fun w1 hb => xscan s w1 hs (GE.below hE hb)
  rw [hsc] at hlen hP
  simp only at hlen
  unfold KPost at hP
  simp only at hP
  have HSO := Lib.hid hso
  have HF := Lib.hid hf
  have HD := Lib.hid (show d.cat.tables = [] ∧ d.views = [n] from ⟨h1, h2⟩)
  have H0 := (HS.start w).alloc #[.slice none 0 0, .slice none 0 0, .slice none 0 0, .slice none 0 0, .slice none 0 0, .slice none 0 0, .slice none 0 0, .slice none 0 0] 61
  clear hsc hso hf h1 h2
  go_enter_defers Tryz.func22, Tryz.ntmps22
  go_upto_region 1 with fail
  obtain ⟨z0, w0, ez, ew⟩ : ∃ z0 w0, w.heap.size = z0 ∧ w.alloc (.cells #[.slice none 0 0, .slice none 0 0, .slice none 0 0, .slice none 0 0, .slice none 0 0, .slice none 0 0, .slice none 0 0, .slice none 0 0] 61) = w0 := ⟨_, _, rfl, rfl⟩
  rw [ew, ez] at H0 ⊢
  clear ez ew
  have hb0 := H0.old pkQ
  go_upto_region 7 with (first
    | (go_at_call 18; refine (hP _ hb0).mono ?_; rintro e w2 ⟨A1, c1, rfl, own1, hb1⟩)
    | (go_at_call 47; have hS := source_s hN (start_D H0 hb1 own1 hlen s.size); dsimp only at hS; refine hS.mono ?_; rintro e w3 ⟨rfl, I3⟩; rw [HSO.out] at I3))
  obtain ⟨m, pool, r, ds, hd, hok, -, h3, h4, hr, H3⟩ := after_D I3
  dsimp only at hd h3 H3
  rw [HF.out] at h3
  have d3 := H3.boxAt (.here) 3 h3
  have hR := resolve_V n hd HD.out.1 HD.out.2 hok hr H3
  have hz : w2.heap.size < w3.heap.size := H3.box .here |>.lt
  clear I3 h3 h4 hr hok hd H3 H0 own1 hP
  go_upto_region 11 with (go_at_call 48; (with_reducible refine hR.mono ?_); rintro e w4 ⟨rfl, H4⟩)
  obtain ⟨dB, dL, hcB⟩ := HS.get (z := z0) H4; obtain ⟨d0, df0⟩ := hcB 0; obtain ⟨d1, df1⟩ := hcB 1; obtain ⟨d2, df2⟩ := hcB 2; obtain ⟨d3, df3⟩ := hcB 3; obtain ⟨d4, df4⟩ := hcB 4; obtain ⟨d5, df5⟩ := hcB 5; obtain ⟨d6, df6⟩ := hcB 6; obtain ⟨d7, df7⟩ := hcB 7; clear hcB
  go_wp2_with fail
  have H5 := ((((((((H4.storeTo (z := z0) pkQ 0 (.slice none 0 0) #[.slice none 0 0, .slice none 0 0, .slice none 0 0, .slice none 0 0, .slice none 0 0, .slice none 0 0, .slice none 0 0, .slice none 0 0] rfl).storeTo (z := z0) .here 1 (.slice none 0 0) #[.slice none 0 0, .slice none 0 0, .slice none 0 0, .slice none 0 0, .slice none 0 0, .slice none 0 0, .slice none 0 0, .slice none 0 0] rfl).storeTo (z := z0) .here 2 (.slice none 0 0) #[.slice none 0 0, .slice none 0 0, .slice none 0 0, .slice none 0 0, .slice none 0 0, .slice none 0 0, .slice none 0 0, .slice none 0 0] rfl).storeTo (z := z0) .here 3 (.slice none 0 0) #[.slice none 0 0, .slice none 0 0, .slice none 0 0, .slice none 0 0, .slice none 0 0, .slice none 0 0, .slice none 0 0, .slice none 0 0] rfl).storeTo (z := z0) .here 4 (.slice none 0 0) #[.slice none 0 0, .slice none 0 0, .slice none 0 0, .slice none 0 0, .slice none 0 0, .slice none 0 0, .slice none 0 0, .slice none 0 0] rfl).storeTo (z := z0) .here 5 (.slice none 0 0) #[.slice none 0 0, .slice none 0 0, .slice none 0 0, .slice none 0 0, .slice none 0 0, .slice none 0 0, .slice none 0 0, .slice none 0 0] rfl).storeTo (z := z0) .here 6 (.slice none 0 0) #[.slice none 0 0, .slice none 0 0, .slice none 0 0, .slice none 0 0, .slice none 0 0, .slice none 0 0, .slice none 0 0, .slice none 0 0] rfl).storeTo (z := z0) .here 7 (.slice none 0 0) #[.slice none 0 0, .slice none 0 0, .slice none 0 0, .slice none 0 0, .slice none 0 0, .slice none 0 0, .slice none 0 0, .slice none 0 0] rfl)
  clear d0 d1 d2 d3 d4 d5 d6 d7 df0 df1 df2 df3 df4 df5 df6 df7 dB dL H4
  generalize World.setCell _ _ _ = W at H5 ⊢
  obtain ⟨dB, dL, hcB⟩ := HS.get (z := z0) H5; obtain ⟨d0, df0⟩ := hcB 0; obtain ⟨d1, df1⟩ := hcB 1; obtain ⟨d2, df2⟩ := hcB 2; obtain ⟨d3, df3⟩ := hcB 3; obtain ⟨d4, df4⟩ := hcB 4; obtain ⟨d5, df5⟩ := hcB 5; obtain ⟨d6, df6⟩ := hcB 6; obtain ⟨d7, df7⟩ := hcB 7; clear hcB
  refine leave_idle idle_SParse (by simp [go_sem]) (by simp [results, Tryz.results22, go_sem, d0, d1, d2, d3, d4, d5, d6, d7]; rfl) ?_
  exact ⟨rfl, H5.old pkQ⟩
theorem resTable_same {t t' : Tab} {o : List (List Tk)} (h : resTable t o = .ok t') : t'.name = t.name ∧ t'.erase = t.erase ∧ t'.retain = t.retain := by
  unfold resTable at h
  split at h
  · cases h
  · injection h with h
    subst h
    exact ⟨rfl, rfl, rfl⟩
def colB (t : Tab) (i : Nat) (c : Col) : Bool := decide (c.owners.length ≤ 1000000) && decide (c.name.length ≤ 1000000) && decide (c.ns.length ≤ 1000000) && isNameB c.name && (c.ns == [] || isNameB c.ns) && !((t.cols.take i).any fun x => x.name == c.name) && c.rf == [] && isTypeB c.ty && ownersC t (-1) c.owners && rulesC t c && (i != 0 || c.owners == [])
def tabB (t : Tab) : Bool := decide (1 ≤ t.cols.length) && decide (t.cols.length ≤ 8) && decide (t.name.length ≤ 1000000) && isNameB t.name && t.erase == 0 && withinI t.retain 0 1048576 && (List.range t.cols.length).all fun i => match t.cols[i]? with
  | some c => colB t i c
  | none => true
structure TabOk (t : Tab) (X : List Co) : Prop where
  l1 : 1 ≤ X.length
  l8 : X.length ≤ 8
  nl : t.name.length ≤ 1000000
  d : declC ⟨[], []⟩ t.name = 0
  e : t.erase = 0
  r : withinI t.retain 0 1048576 = true
  c : ∀ i c v, X[i]? = some (c, v) → ColOk t X i c
theorem tabB_ok {t : Tab} {X : List Co} (h : tabB t = true) (hX : X.map Prod.fst = t.cols) : TabOk t X := by
  unfold tabB at h
  simp only [Bool.and_eq_true, decide_eq_true_eq, beq_iff_eq] at h
  obtain ⟨⟨⟨⟨⟨⟨h1, h2⟩, h3⟩, h4⟩, h5⟩, h6⟩, h7⟩ := h
  have hl : X.length = t.cols.length := by rw [← hX, List.length_map]
  refine ⟨by omega, by omega, h3, ?_, h5, h6, fun i c v hi => ?_⟩
  · unfold declC
    rw [h4]
    rfl
  · have hc : t.cols[i]? = some c := by rw [← hX, List.getElem?_map, hi]; rfl
    have h8 := List.all_eq_true.1 h7 i (List.mem_range.2 (List.getElem?_eq_some_iff.1 hc).1)
    rw [hc] at h8
    dsimp only at h8
    unfold colB at h8
    simp only [Bool.and_eq_true, Bool.or_eq_true, decide_eq_true_eq, beq_iff_eq, bne_iff_ne, ne_eq, Bool.not_eq_true'] at h8
    obtain ⟨⟨⟨⟨⟨⟨⟨⟨⟨⟨g1, g2⟩, g3⟩, g4⟩, g5⟩, g6⟩, g7⟩, g8⟩, g9⟩, g10⟩, g11⟩ := h8
    refine ⟨g1, g2, g3, g4, g5, ?_, g7, g8, g9, g10, g11⟩
    rw [← g6, ← hX, ← List.map_take, List.any_map]
    rfl
section
variable {w : World} {l : List HA} {m : Dm} {pool : Pool} {r : Nat → Value} {ds : Array Value} {pb : Nat}
def RtTPost (pb : Nat) (ds : Array Value) (t' : Tab) (Tv : Value) (l : List HA) (e : Ending) (w : World) : Prop := e = .returned (.tuple #[.int .i64 0, .int .i64 0]) ∧ ∃ (X : List Co) (cv : Value), X.map Prod.fst = t'.cols ∧ HS w (boxA pb ds 69 :: rowA 79 4 Tv 1 (tabC t'.name cv t'.erase t'.retain).toList :: rowA 82 7 cv X.length (coC X) :: allA (X.map coA) :: l)
theorem resolve_T {d : Dc} {t t' : Tab} {ow : List (List Tk)} (hm : m.dc = d) (h1 : d.cat.tables = [t]) (h2 : d.owners = [ow]) (h3 : d.cat.views = [] ∧ d.indexes = [] ∧ d.sketches = [] ∧ d.caches = []) (hwf : WfT t ow) (hsm : SmT t ow) (ht' : resTable t ow = .ok t') (hok : m.ok pool) (hr : ∀ i, i < 21 → ds[6 + i]? = some (r i))
    (H : HS w (boxA pb ds 69 :: poolA pool :: ((List.range 21).map (fun i => rowA (rty i) (rsz i) (r i) (m.ns i) (m.cs i)) ++ (allA m.tparts :: allA m.vparts :: allA m.bparts :: l)))) :
    Calls Tryz.prog 48 #[.pointer (some ⟨pb, 6, none⟩)] w (RtTPost pb ds t' (r 0) l) := by
  have hv : m.views = [] := by
    have := h3.1
    rw [← hm] at this
    exact List.map_eq_nil_iff.1 this
  have hi : m.idxs = [] := by
    have := h3.2.1
    rw [← hm] at this
    exact List.map_eq_nil_iff.1 this
  have hs : m.skts = [] := by
    have := h3.2.2.1
    rw [← hm] at this
    exact List.map_eq_nil_iff.1 this
  have hc : m.cchs = [] := by
    have := h3.2.2.2
    rw [← hm] at this
    exact List.map_eq_nil_iff.1 this
  obtain ⟨x, ht, hx1, hx2⟩ : ∃ x, m.tabs = [x] ∧ x.1 = t ∧ x.2.1 = ow := by
    rw [← hm] at h1 h2
    have h4 : m.tabs.map (fun x => x.1) = [t] := h1
    have h5 : m.tabs.map (fun x => x.2.1) = [ow] := h2
    cases h : m.tabs with
    | nil => rw [h] at h4; cases h4
    | cons a b =>
      rw [h] at h4 h5
      injection h4 with h6 h7
      injection h5 with h8 _
      exact ⟨a, by rw [List.map_eq_nil_iff.1 h7], h6, h8⟩
  have o := hok.t x (by rw [ht]; exact List.mem_singleton.2 rfl)
  subst hx1 hx2
  rw [range21] at H
  simp only [List.cons_append, List.nil_append] at H
  have e0 : rowA (rty 0) (rsz 0) (r 0) (m.ns 0) (m.cs 0) = rowA 79 4 (r 0) [x].length ([x].flatMap tabR) := by rw [show m.ns 0 = 1 by simp [Dm.ns, ht], show m.cs 0 = [x].flatMap tabR by simp [Dm.cs, ht]]; rfl
  have e16 : rowA (rty 16) (rsz 16) (r 16) (m.ns 16) (m.cs 16) = rowA 198 1 (r 16) [x].length ([x].map fun x => x.2.2.ov) := by rw [show m.ns 16 = 1 by simp [Dm.ns, ht], show m.cs 16 = [x].map (fun x => x.2.2.ov) by simp [Dm.cs, ht]]; rfl
  have e1 : rowA (rty 1) (rsz 1) (r 1) (m.ns 1) (m.cs 1) = rowA 206 9 (r 1) 0 [] := by rw [show m.ns 1 = 0 by simp [Dm.ns, hv], show m.cs 1 = [] by simp [Dm.cs, hv]]; rfl
  have e18 : rowA (rty 18) (rsz 18) (r 18) (m.ns 18) (m.cs 18) = rowA 147 8 (r 18) 0 [] := by rw [show m.ns 18 = 0 by simp [Dm.ns, hi], show m.cs 18 = [] by simp [Dm.cs, hi]]; rfl
  have e19 : rowA (rty 19) (rsz 19) (r 19) (m.ns 19) (m.cs 19) = rowA 147 8 (r 19) 0 [] := by rw [show m.ns 19 = 0 by simp [Dm.ns, hs], show m.cs 19 = [] by simp [Dm.cs, hs]]; rfl
  have e20 : rowA (rty 20) (rsz 20) (r 20) (m.ns 20) (m.cs 20) = rowA 147 8 (r 20) 0 [] := by rw [show m.ns 20 = 0 by simp [Dm.ns, hc], show m.cs 20 = [] by simp [Dm.cs, hc]]; rfl
  have ev : m.tparts = [x].flatMap fun x => x.2.2.parts x.1 := by simp [Dm.tparts, ht]
  rw [e0, e1, e16, e18, e19, e20, ev] at H
  obtain ⟨A1, k1, er1⟩ := H.slice (v := r 1) pkQ
  obtain ⟨A18, k18, er18⟩ := H.slice (v := r 18) pkQ
  obtain ⟨A19, k19, er19⟩ := H.slice (v := r 19) pkQ
  obtain ⟨A20, k20, er20⟩ := H.slice (v := r 20) pkQ
  have h6 := hr 0 (by decide)
  have h7 := hr 1 (by decide)
  have h22 := hr 16 (by decide)
  have h24 := hr 18 (by decide)
  have h25 := hr 19 (by decide)
  have h26 := hr 20 (by decide)
  rw [er1] at h7
  rw [er18] at h24
  rw [er19] at h25
  rw [er20] at h26
  have hR := resolveT_s (l := l) [x] (fun y hy => by rw [List.mem_singleton.1 hy]; exact hwf) (fun y hy => by rw [List.mem_singleton.1 hy]; exact hsm) (fun y hy => by rw [List.mem_singleton.1 hy]; exact o) (by simp) h6 h22 h7 h24 h25 h26 (H.sub pkQ)
  have hE : mapE (fun x : Tt => resTable x.1 x.2.1) [x] = .ok [t'] := by
    rw [mapE, ht']
    rfl
  rw [hE] at hR
  refine hR.mono ?_
  unfold TsPost RtTPost
  dsimp only
  rintro e w' ⟨rfl, D, hD1, hD2, hD3, H5⟩
  refine ⟨rfl, ?_⟩
  obtain ⟨dd, rfl⟩ : ∃ dd, D = [dd] := by
    cases D with
    | nil => cases hD1
    | cons a b =>
      injection hD1 with _ h
      exact ⟨a, by rw [List.map_eq_nil_iff.1 h]⟩
  injection hD1 with hD1 _
  injection hD3 with hD3 _
  have ho := hD2 dd (List.mem_singleton.2 rfl)
  unfold Td.ok at ho
  rw [hD1] at ho
  obtain ⟨n1, n2, n3⟩ := resTable_same ht'
  have H6 := (H5.sub (l' := allA ([dd].flatMap Td.parts) :: boxA pb ds 69 :: rowA 79 4 (r 0) [x].length ([x].flatMap tabR) :: l) pkQ).all_
  rw [show [dd].flatMap Td.parts = [rowA 82 7 dd.cv dd.n (coC dd.X), allA (dd.X.map coA)] from rfl] at H6
  simp only [List.cons_append, List.nil_append] at H6
  have hlen : dd.n = dd.X.length := by
    have h := (H6.row (v := dd.cv) pkQ).1
    rw [coC_len] at h
    omega
  rw [hlen] at H6
  rw [show [x].flatMap tabR = (tabC t'.name dd.cv t'.erase t'.retain).toList by rw [n1, n2, n3, hD3]; simp [tabR], show [x].length = 1 from rfl] at H6
  exact ⟨dd.X, dd.cv, ho, H6.sub pkQ⟩
end
theorem cat_ns {m : Dm} {t : Tab} (h : m.dc.cat = ⟨[t], [], [], [], [], [], [], []⟩) : m.ns 0 = 1 ∧ m.ns 1 = 0 ∧ m.ns 2 = 0 ∧ m.ns 3 = 0 ∧ m.ns 4 = 0 ∧ m.ns 5 = 0 ∧ m.ns 6 = 0 ∧ m.ns 7 = 0 := by
  unfold Dm.dc at h
  simp only [Cat.mk.injEq, List.map_eq_nil_iff] at h
  obtain ⟨h0, h1, h2, h3, h4, h5, h6, h7⟩ := h
  have h0 := congrArg List.length h0
  rw [List.length_map] at h0
  refine ⟨h0, ?_, ?_, ?_, ?_, ?_, ?_, ?_⟩
  · simp [Dm.ns, h1]
  · simp [Dm.ns, h2]
  · simp [Dm.ns, h3]
  · simp [Dm.ns, h4]
  · simp [Dm.ns, h5]
  · simp [Dm.ns, h6]
  · simp [Dm.ns, h7]
def PtPost (w0 : World) (t' : Tab) (e : Ending) (w' : World) : Prop := ∃ (X : List Co) (A A0 A1 A2 A3 A4 A5 A6 A7 : Option Addr) (kk k0 k1 k2 k3 k4 k5 k6 k7 : Nat), X.map Prod.fst = t'.cols ∧ e = .returned (.tuple #[.agg #[.slice A0 1 k0, .slice A1 0 k1, .slice A2 0 k2, .slice A3 0 k3, .slice A4 0 k4, .slice A5 0 k5, .slice A6 0 k6, .slice A7 0 k7], .int .i64 0, .int .i64 0]) ∧
  HS w' (rowA 79 4 (.slice A0 1 k0) 1 (tabC t'.name (.slice A X.length kk) t'.erase t'.retain).toList :: rowA 82 7 (.slice A X.length kk) X.length (coC X) :: allA (X.map coA) :: oldA w0 :: [])
theorem parse_T (s : ByteArray) (w : World) (hs : s.size ≤ 1099511627776) (hE : GE w) {toks : List Tk} {k : Nat} (hsc : scanO s.data.toList = (toks, k, 0)) {d : Dc} {sx : Ps} (hso : sourceP ⟨toks, s.size⟩ (toks.length + 1) ⟨0, false, 0, []⟩ Dc.nil = (d, sx)) (hf : sx.failed = false)
    {t t' : Tab} {ow : List (List Tk)} (hcat : d.cat = ⟨[t], [], [], [], [], [], [], []⟩) (h2 : d.owners = [ow]) (h3 : d.indexes = [] ∧ d.sketches = [] ∧ d.caches = []) (hwf : WfT t ow) (hsm : SmT t ow) (ht' : resTable t ow = .ok t') (hB : tabB t' = true) :
    Calls Tryz.prog 22 #[.string s] w (PtPost w t') := by
  have hN := scan_okN hsc s.size
  have hlen := scanO_len s.data.toList
  have hP := fun w1 hb => xscan s w1 hs (GE.below hE hb)
  rw [hsc] at hlen hP
  simp only at hlen
  unfold KPost at hP
  simp only at hP
  have HSO := Lib.hid hso
  have HF := Lib.hid hf
  have HC := Lib.hid hcat
  have H2 := Lib.hid h2
  have H3 := Lib.hid h3
  have HT := Lib.hid ht'
  have HB := Lib.hid hB
  have H0 := (HS.start w).alloc #[.slice none 0 0, .slice none 0 0, .slice none 0 0, .slice none 0 0, .slice none 0 0, .slice none 0 0, .slice none 0 0, .slice none 0 0] 61
  clear hsc hso hf hcat h2 h3 ht' hB
  go_enter_defers Tryz.func22, Tryz.ntmps22
  go_upto_region 1 with fail
  obtain ⟨z0, w0, ez, ew⟩ : ∃ z0 w0, w.heap.size = z0 ∧ w.alloc (.cells #[.slice none 0 0, .slice none 0 0, .slice none 0 0, .slice none 0 0, .slice none 0 0, .slice none 0 0, .slice none 0 0, .slice none 0 0] 61) = w0 := ⟨_, _, rfl, rfl⟩
  rw [ew, ez] at H0 ⊢
  clear ez ew
  have hb0 := H0.old pkQ
  go_upto_region 7 with (first
    | (go_at_call 18; refine (hP _ hb0).mono ?_; rintro e w2 ⟨A1, c1, rfl, own1, hb1⟩)
    | (go_at_call 47; have hS := source_s hN (start_D H0 hb1 own1 hlen s.size); dsimp only at hS; refine hS.mono ?_; rintro e w3 ⟨rfl, I3⟩; rw [HSO.out] at I3))
  obtain ⟨m, pool, r, ds, hd, hok, -, h3, h4, hr, H3b⟩ := after_D I3
  dsimp only at hd h3 H3b
  rw [HF.out] at h3
  have d3 := H3b.boxAt (.here) 3 h3
  have hz : w2.heap.size < w3.heap.size := H3b.box .here |>.lt
  have hcat := HC.out
  have hR := resolve_T hd (by rw [hcat]) H2.out ⟨by rw [hcat], H3.out⟩ hwf hsm HT.out hok hr H3b
  rw [range21] at H3b
  simp only [List.cons_append, List.nil_append] at H3b
  rw [← hd] at hcat
  obtain ⟨n0, n1, n2, n3, n4, n5, n6, n7⟩ := cat_ns hcat
  obtain ⟨A0, k0, er0⟩ := H3b.slice (v := r 0) pkQ
  rw [n0] at er0
  obtain ⟨A1, k1, er1⟩ := H3b.slice (v := r 1) pkQ
  rw [n1] at er1
  obtain ⟨A2, k2, er2⟩ := H3b.slice (v := r 2) pkQ
  rw [n2] at er2
  obtain ⟨A3, k3, er3⟩ := H3b.slice (v := r 3) pkQ
  rw [n3] at er3
  obtain ⟨A4, k4, er4⟩ := H3b.slice (v := r 4) pkQ
  rw [n4] at er4
  obtain ⟨A5, k5, er5⟩ := H3b.slice (v := r 5) pkQ
  rw [n5] at er5
  obtain ⟨A6, k6, er6⟩ := H3b.slice (v := r 6) pkQ
  rw [n6] at er6
  obtain ⟨A7, k7, er7⟩ := H3b.slice (v := r 7) pkQ
  rw [n7] at er7
  clear n0 n1 n2 n3 n4 n5 n6 n7 hcat I3 h3 h4 hok hd H3b H0 own1 hP
  unfold RtTPost at hR
  go_upto_region 12 with (go_at_call 48; (with_reducible refine hR.mono ?_); rintro e w4 ⟨rfl, X, cv, hX, H4⟩)
  obtain ⟨A, kk, rfl⟩ := H4.slice (v := cv) pkQ
  have hz4 : w2.heap.size < w4.heap.size := H4.box .here |>.lt
  have c0 := H4.boxAt .here 6 (hr 0 (by decide))
  rw [er0] at c0
  have c1 := H4.boxAt .here 7 (hr 1 (by decide))
  rw [er1] at c1
  have c2 := H4.boxAt .here 8 (hr 2 (by decide))
  rw [er2] at c2
  have c3 := H4.boxAt .here 9 (hr 3 (by decide))
  rw [er3] at c3
  have c4 := H4.boxAt .here 10 (hr 4 (by decide))
  rw [er4] at c4
  have c5 := H4.boxAt .here 11 (hr 5 (by decide))
  rw [er5] at c5
  have c6 := H4.boxAt .here 12 (hr 6 (by decide))
  rw [er6] at c6
  have c7 := H4.boxAt .here 13 (hr 7 (by decide))
  rw [er7] at c7
  have T := tabB_ok HB.out hX
  have HX := Lib.hid hX
  rw [er0] at H4
  have hK := Check_ok (l := boxA w2.heap.size ds 69 :: boxA z0 #[.slice none 0 0, .slice none 0 0, .slice none 0 0, .slice none 0 0, .slice none 0 0, .slice none 0 0, .slice none 0 0, .slice none 0 0] 61 :: oldA w :: []) (A1 := A1) (A2 := A2) (A3 := A3) (A4 := A4) (A5 := A5) (A6 := A6) (A7 := A7) (k1 := k1) (k2 := k2) (k3 := k3) (k4 := k4) (k5 := k5) (k6 := k6) (k7 := k7) (kk := kk) (A := A) (txs := (tabC t'.name (.slice A X.length kk) t'.erase t'.retain).toList) t' hX T.l1 T.l8 T.nl T.d T.e T.r T.c (fun j u hu => hu) (H4.sub pkQ)
  clear hX T
  go_upto_region 15 with (go_at_call 49; (with_reducible refine hK.mono ?_); rintro e w5 ⟨rfl, H6⟩)
  clear c0 c1 c2 c3 c4 c5 c6 c7 H4 hK
  have hz5 : w2.heap.size < w5.heap.size := (H6.box (z := w2.heap.size) (cs := ds) pkQ).lt
  have c0 := H6.boxAt (z := w2.heap.size) (ds := ds) pkQ 6 (hr 0 (by decide))
  rw [er0] at c0
  have c1 := H6.boxAt (z := w2.heap.size) (ds := ds) pkQ 7 (hr 1 (by decide))
  rw [er1] at c1
  have c2 := H6.boxAt (z := w2.heap.size) (ds := ds) pkQ 8 (hr 2 (by decide))
  rw [er2] at c2
  have c3 := H6.boxAt (z := w2.heap.size) (ds := ds) pkQ 9 (hr 3 (by decide))
  rw [er3] at c3
  have c4 := H6.boxAt (z := w2.heap.size) (ds := ds) pkQ 10 (hr 4 (by decide))
  rw [er4] at c4
  have c5 := H6.boxAt (z := w2.heap.size) (ds := ds) pkQ 11 (hr 5 (by decide))
  rw [er5] at c5
  have c6 := H6.boxAt (z := w2.heap.size) (ds := ds) pkQ 12 (hr 6 (by decide))
  rw [er6] at c6
  have c7 := H6.boxAt (z := w2.heap.size) (ds := ds) pkQ 13 (hr 7 (by decide))
  rw [er7] at c7
  obtain ⟨dB, dL, hcB⟩ := HS.get (z := z0) H6; obtain ⟨d0, df0⟩ := hcB 0; obtain ⟨d1, df1⟩ := hcB 1; obtain ⟨d2, df2⟩ := hcB 2; obtain ⟨d3, df3⟩ := hcB 3; obtain ⟨d4, df4⟩ := hcB 4; obtain ⟨d5, df5⟩ := hcB 5; obtain ⟨d6, df6⟩ := hcB 6; obtain ⟨d7, df7⟩ := hcB 7; clear hcB
  go_wp2_with fail
  have H7 := ((((((((H6.storeTo (z := z0) pkQ 0 (.slice A0 1 k0) #[.slice A0 1 k0, .slice none 0 0, .slice none 0 0, .slice none 0 0, .slice none 0 0, .slice none 0 0, .slice none 0 0, .slice none 0 0] rfl).storeTo (z := z0) .here 1 (.slice A1 0 k1) #[.slice A0 1 k0, .slice A1 0 k1, .slice none 0 0, .slice none 0 0, .slice none 0 0, .slice none 0 0, .slice none 0 0, .slice none 0 0] rfl).storeTo (z := z0) .here 2 (.slice A2 0 k2) #[.slice A0 1 k0, .slice A1 0 k1, .slice A2 0 k2, .slice none 0 0, .slice none 0 0, .slice none 0 0, .slice none 0 0, .slice none 0 0] rfl).storeTo (z := z0) .here 3 (.slice A3 0 k3) #[.slice A0 1 k0, .slice A1 0 k1, .slice A2 0 k2, .slice A3 0 k3, .slice none 0 0, .slice none 0 0, .slice none 0 0, .slice none 0 0] rfl).storeTo (z := z0) .here 4 (.slice A4 0 k4) #[.slice A0 1 k0, .slice A1 0 k1, .slice A2 0 k2, .slice A3 0 k3, .slice A4 0 k4, .slice none 0 0, .slice none 0 0, .slice none 0 0] rfl).storeTo (z := z0) .here 5 (.slice A5 0 k5) #[.slice A0 1 k0, .slice A1 0 k1, .slice A2 0 k2, .slice A3 0 k3, .slice A4 0 k4, .slice A5 0 k5, .slice none 0 0, .slice none 0 0] rfl).storeTo (z := z0) .here 6 (.slice A6 0 k6) #[.slice A0 1 k0, .slice A1 0 k1, .slice A2 0 k2, .slice A3 0 k3, .slice A4 0 k4, .slice A5 0 k5, .slice A6 0 k6, .slice none 0 0] rfl).storeTo (z := z0) .here 7 (.slice A7 0 k7) #[.slice A0 1 k0, .slice A1 0 k1, .slice A2 0 k2, .slice A3 0 k3, .slice A4 0 k4, .slice A5 0 k5, .slice A6 0 k6, .slice A7 0 k7] rfl)
  clear d0 d1 d2 d3 d4 d5 d6 d7 df0 df1 df2 df3 df4 df5 df6 df7 dB dL H6 c0 c1 c2 c3 c4 c5 c6 c7
  generalize World.setCell _ _ _ = W at H7 ⊢
  obtain ⟨dB, dL, hcB⟩ := HS.get (z := z0) H7; obtain ⟨d0, df0⟩ := hcB 0; obtain ⟨d1, df1⟩ := hcB 1; obtain ⟨d2, df2⟩ := hcB 2; obtain ⟨d3, df3⟩ := hcB 3; obtain ⟨d4, df4⟩ := hcB 4; obtain ⟨d5, df5⟩ := hcB 5; obtain ⟨d6, df6⟩ := hcB 6; obtain ⟨d7, df7⟩ := hcB 7; clear hcB
  refine leave_idle idle_SParse (by simp [go_sem]) (by simp [results, Tryz.results22, go_sem, d0, d1, d2, d3, d4, d5, d6, d7]; rfl) ?_
  exact ⟨X, A, A0, A1, A2, A3, A4, A5, A6, A7, kk, k0, k1, k2, k3, k4, k5, k6, k7, HX.out, rfl, H7.sub pkQ⟩
def src1 : Bs := [116, 97, 98, 108, 101, 32, 112, 101, 114, 115, 111, 110, 32, 40, 32, 105, 100, 32, 105, 110, 116, 32, 110, 97, 109, 101, 115, 112, 97, 99, 101, 32, 112, 101, 114, 115, 111, 110, 32, 44, 32, 109, 97, 105, 108, 32, 116, 101, 120, 116, 32, 112, 101, 114, 115, 111, 110, 97, 108, 32, 98, 121, 32, 105, 100, 32, 41, 32, 59]
def src2 : Bs := [118, 105, 101, 119, 32, 118, 32, 115, 101, 108, 101, 99, 116, 32, 120, 32, 61, 32, 121, 32, 102, 114, 111, 109, 32, 116, 32, 59]
def toks1 : List Tk := (scanO src1).1
def toks2 : List Tk := (scanO src2).1
theorem scan_1 : scanO src1 = (toks1, (scanO src1).2.1, 0) := by
  have h : (scanO src1).2.2 = 0 := by decide +kernel
  rw [← h]
  rfl
theorem scan_2 : scanO src2 = (toks2, (scanO src2).2.1, 0) := by
  have h : (scanO src2).2.2 = 0 := by decide +kernel
  rw [← h]
  rfl
def res1 : Dc × Ps := sourceP ⟨toks1, 69⟩ (toks1.length + 1) ⟨0, false, 0, []⟩ Dc.nil
def res2 : Dc × Ps := sourceP ⟨toks2, 28⟩ (toks2.length + 1) ⟨0, false, 0, []⟩ Dc.nil
theorem fail_1 : res1.2.failed = false := by decide +kernel
theorem fail_2 : res2.2.failed = false := by decide +kernel
def tb1 : Tab := ⟨[112, 101, 114, 115, 111, 110], [⟨[105, 100], 1, [112, 101, 114, 115, 111, 110], [], [], 0, 0⟩, ⟨[109, 97, 105, 108], 2, [], [], [], 0, 0⟩], 0, 0⟩
def tb1' : Tab := ⟨[112, 101, 114, 115, 111, 110], [⟨[105, 100], 1, [112, 101, 114, 115, 111, 110], [], [], 0, 0⟩, ⟨[109, 97, 105, 108], 2, [], [], [0], 0, 0⟩], 0, 0⟩
def ow1 : List (List Tk) := [[], [⟨1, [105, 100], 0, 63⟩]]
theorem cat_1 : res1.1.cat = ⟨[tb1], [], [], [], [], [], [], []⟩ := by kernel_rfl
theorem own_1 : res1.1.owners = [ow1] := by kernel_rfl
theorem rest_1 : res1.1.indexes = [] ∧ res1.1.sketches = [] ∧ res1.1.caches = [] := ⟨by kernel_rfl, by kernel_rfl, by kernel_rfl⟩
theorem wf_1 : WfT tb1 ow1 := ⟨rfl, by intro c hc; simp [tb1] at hc; rcases hc with rfl | rfl <;> rfl⟩
theorem sm_1 : SmT tb1 ow1 := ⟨by decide, by intro x hx; simp [ow1] at hx; rcases hx with rfl | rfl <;> simp⟩
theorem res_1 : resTable tb1 ow1 = .ok tb1' := by kernel_rfl
theorem ok_1 : tabB tb1' = true := by decide +kernel
def vn2 : Vn := ⟨⟨1, [116], 0, 25⟩, Tk.zero, [], res2.1.views.headD ⟨Tk.zero, Tk.zero, [], [], [], Xr.none_⟩ |>.items, [], Xr.none_⟩
theorem cat_2 : res2.1.cat.tables = [] := by kernel_rfl
theorem view_2 : res2.1.views = [vn2] := by kernel_rfl
theorem sameInts_c (A B : Option Addr) (n c d : Nat) (zs : List Int) (w : World) (hn : n ≤ 1000) (hr : RowI w w.heap.size A n zs) (hs : RowI w w.heap.size B n zs) : Calls Tryz.prog 23 #[.slice A n c, .slice B n d] w fun e w' => e = .returned (.bool true) ∧ Below w.heap.size w w' := by
  have tn : ((n : Int) != (n : Int)) = false := by simp
  go_enter Tryz.func23, Tryz.ntmps23
  go_wp2_with fail
  go_loopw [5] (fun v5 wr => ∃ k : Nat, v5 = .int .i64 (k : Int) ∧ k ≤ n ∧ Below w.heap.size w wr) (fun v5 _ => n - (intOf v5).toNat)
  case atStart => exact ⟨0, rfl, by omega, by (exact belQ)⟩
  case round =>
    obtain ⟨k, rfl, hk, hbel⟩ := hrel
    have hzz := hbel.size
    by_cases hlt : k < n
    · have h1 : (k : Int) < (n : Int) := by omega
      have h0 : (0 : Int) ≤ (k : Int) := by omega
      have hkw : IntKind.i64.wrap ((k : Int) + 1) = (k : Int) + 1 := IntWalk.i64_in _ (by omega)
      obtain ⟨b, off, z, rfl, hb, hz1, c0⟩ := RowI.at1 (hr.to hbel) hlt
      obtain ⟨b', off', z', rfl, hb', hz2, d0⟩ := RowI.at1 (hs.to hbel) hlt
      obtain rfl := Option.some.inj (hz1.symm.trans hz2)
      have tz : (z != z) = false := by simp
      clear hz1 hz2
      go_wp2_with fail
      go_quiet (fail)
      go_wp2_with fail
      go_roundw
      case rel => exact ⟨k + 1, by go_num, by omega, by (exact belQ)⟩
      case measure => simp [intOf]; omega
    · have h1 : ¬ (k : Int) < (n : Int) := by omega
      go_wp2_with fail
      go_ret
      exact ⟨rfl, by (exact belQ)⟩
theorem map_two {α β : Type} {X : List (α × β)} {a b : α} (h : X.map Prod.fst = [a, b]) : ∃ u v, X = [(a, u), (b, v)] := by
  cases X with
  | nil => cases h
  | cons x X =>
    cases X with
    | nil => cases h
    | cons y X =>
      cases X with
      | nil =>
        simp at h
        exact ⟨x.2, y.2, by rw [← h.1, ← h.2]⟩
      | cons z X => cases h
theorem rowI_box {w : World} {z : Nat} {te : TypeId} {a : Int} (B : Box w z #[.int .i64 a] te) : RowI w w.heap.size (some ⟨z, 0, none⟩) 1 [a] := by
  refine ⟨rfl, fun _ => ⟨z, 0, rfl, B.lt, fun j u hu => ?_⟩⟩
  obtain ⟨hc, -⟩ := Box.cells B
  rw [Nat.zero_add, hc j]
  simpa using hu
theorem awake5_c (w : World) (hE : GE w) : Calls Tryz.prog 9 #[] w fun e w' => e = .returned (.bool true) ∧ Below w.heap.size w w' := by
  have hA := parse_T ⟨src1.toArray⟩ w (by decide) hE (toks := toks1) (k := (scanO src1).2.1) scan_1 (d := res1.1) (sx := res1.2) rfl fail_1 cat_1 own_1 rest_1 wf_1 sm_1 res_1 ok_1
  have hV := fun w1 (h : GE w1) => parse_V ⟨src2.toArray⟩ w1 (by decide) h (toks := toks2) (k := (scanO src2).2.1) scan_2 (d := res2.1) (sx := res2.2) rfl fail_2 (n := vn2) cat_2 view_2
  rw [show vn2.left.pos = 25 from rfl] at hV
  unfold PtPost at hA
  unfold src1 at hA
  unfold src2 at hV
  go_enter Tryz.func9, Tryz.ntmps9
  go_upto_region 2 with (go_at_call 22; refine hA.mono ?_; rintro e w1 ⟨X, A, A0, A1, A2, A3, A4, A5, A6, A7, kk, k0, k1, k2, k3, k4, k5, k6, k7, hX, rfl, H1⟩; have HX := Lib.hid hX; clear hX)
  obtain ⟨z1, w2, ez, ew, H2⟩ := H1.alloc_ex #[.slice A0 1 k0, .slice A1 0 k1, .slice A2 0 k2, .slice A3 0 k3, .slice A4 0 k4, .slice A5 0 k5, .slice A6 0 k6, .slice A7 0 k7] 61
  (try rw [ez]); (try rw [ew])
  clear ez ew H1
  have hE2 := GE.below hE (H2.old pkQ)
  go_upto_region 3 with (go_at_call 22; refine (hV _ hE2).mono ?_; rintro e w3 ⟨rfl, hb3⟩; have H3 := H2.below hb3)
  obtain ⟨z2, w4, ez, ew, H4⟩ := H3.alloc_ex #[.slice none 0 0, .slice none 0 0, .slice none 0 0, .slice none 0 0, .slice none 0 0, .slice none 0 0, .slice none 0 0, .slice none 0 0] 61
  (try rw [ez]); (try rw [ew])
  clear ez ew H3 hb3 H2 hE2
  obtain ⟨dB, dL, hcB⟩ := HS.get (z := z1) H4; obtain ⟨d0, df0⟩ := hcB 0; clear hcB
  obtain ⟨gt, eA, -, hct, -⟩ := H4.rowAt (A := A0) pkQ (fun e => by unfold tabC at e; cases e)
  subst eA
  have t1 := hct 1 _ rfl
  obtain ⟨u0, u1, rfl⟩ := map_two HX.out
  obtain ⟨Ao, ko, e1, hz⟩ := H4.intsAt (X := [(_, u0), (_, u1)]) pkQ (x := (_, u1)) (List.mem_cons_of_mem _ (List.mem_singleton.2 rfl))
  dsimp only at e1
  subst e1
  obtain ⟨gc, eA, -, hcc, -⟩ := H4.rowAt (A := A) pkQ (fun e => by cases e)
  subst eA
  have q4 := hcc 11 _ rfl
  have hb := H4.old pkQ
  have hsz := hb.size
  have hB := (H4.alloc #[.int .i64 0] 3).box (.here)
  clear hcc hct HX H4
  dsimp only at q4 hz t1
  have tt : ((2 : Int) == 2) = true := rfl
  go_wp2_with (go_at_call 23; refine (sameInts_c Ao _ 1 ko 1 [0] _ (by omega) ?_ ?_).mono ?_)
  · exact (hz.alloc (Nat.le_refl _) _).more (by simp)
  · exact rowI_box hB
  · rintro e w5 ⟨rfl, hb5⟩
    go_wp2_with fail
    go_ret
    exact ⟨rfl, by (exact belQ)⟩
def wdK (w : Bs) : Tk := ⟨if isNameB w = true then 1 else 4, w, 0, 0⟩
def numK (n : Int) : Tk := ⟨2, [], n, 0⟩
def opW (op : Int) : Bs :=
  if op = 3 ∨ op = 5 then [45] else if op = 4 then [43] else if op = 6 then [42] else if op = 7 then [47] else if op = 8 then [43, 43]
  else if op = 9 then [108, 101, 110, 103, 116, 104] else if op = 10 then [112, 114, 101, 102, 105, 120] else if op = 11 then [61] else if op = 12 then [60]
  else if op = 13 then wNot else if op = 14 then wAnd else if op = 15 then wOr else if op = 16 then [105, 115, 110, 117, 108, 108] else if op = 17 then [99, 111, 97, 108, 101, 115, 99, 101] else [105, 102]
def isFun (op : Int) : Bool := decide (op = 9 ∨ op = 10 ∨ op = 16 ∨ op = 17 ∨ op = 18)
def constW (v : V) : List Tk := if v.k = 2 then [⟨3, v.s.data.toList, 0, 0⟩] else if v.n < 0 then [wdK [45], numK (-v.n)] else [numK v.n]
def colName (left right : List Bs) (c : Nat) : Bs := if c < left.length then left.getD c [] else right.getD (c - left.length) []
def refW (left right : List Bs) (c : Nat) : List Tk :=
  if left.length ≤ c then [wdK wRight, wdK [46], wdK (colName left right c)]
  else if colName left right c = wNot then [wdK wLeft, wdK [46], wdK wNot]
  else [wdK (colName left right c)]
def bareW (t : T) (negated : Bool) : Bool := if t.op = 1 then decide (t.v.k = 2 ∨ (0 ≤ t.v.n ∧ negated = false)) else decide (t.op = 2) || isFun t.op
def operW (x : X) (negated : Bool) (l : List Tk) : List Tk := if bareW x.t negated = true then l else wdK [40] :: (l ++ [wdK [41]])
def commaW : List (List Tk) → List Tk
  | [] => []
  | [a] => a
  | a :: b :: l => a ++ wdK [44] :: commaW (b :: l)
def nodeW (left right : List Bs) (t : T) (ks : List X) (ls : List (List Tk)) : List Tk :=
  if t.op = 1 then constW t.v
  else if t.op = 2 then refW left right t.c.toNat
  else if isFun t.op = true then [wdK (opW t.op), wdK [40]] ++ commaW ls ++ [wdK [41]]
  else match ks, ls with
    | k :: _ :: [], a :: b :: [] => operW k false a ++ wdK (opW t.op) :: operW (ks.getD 1 k) false b
    | k :: _, a :: _ => wdK (opW t.op) :: operW k (t.op == 3) a
    | _, _ => []
mutual
def X.wr (left right : List Bs) : X → List Tk
  | .node t ks => nodeW left right t ks (wrs left right ks)
def wrs (left right : List Bs) : List X → List (List Tk)
  | [] => []
  | x :: l => x.wr left right :: wrs left right l
end
end Go.Proofs.YtpnfbehbheddeaaGreatDoor
