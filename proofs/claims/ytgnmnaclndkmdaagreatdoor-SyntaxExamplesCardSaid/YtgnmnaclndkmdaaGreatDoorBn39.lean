/- The look-up of names behind a parser of declarations: a first view of a store that isn't declared; one table. Parse of a source whose first declaration is a view of a store that isn't declared. Sources of at most 2^40 bytes. The variable ErrRange can be read. The look-up of names behind a parser of declarations that has read one table. Parse of a source of one table that is right and refers to no store. Sources of at most 2^40 bytes. The variable ErrRange can be read. What the two sources of the sanity check are, as they are read: plain Lean, by evaluation. -/
import Derived.Test.YtgnmnaclndkmdaaGreatDoorBn38
import Derived.Test.YtgnmnaclndkmdaaGreatDoorBn02
namespace Go.Proofs.YtgnmnaclndkmdaaGreatDoor
open Go.RowKit

theorem range21 (f : Nat → HA) : (List.range 21).map f = [f 0, f 1, f 2, f 3, f 4, f 5, f 6, f 7, f 8, f 9, f 10, f 11, f 12, f 13, f 14, f 15, f 16, f 17, f 18, f 19, f 20] := rfl
section
variable {w : World} {l : List HA} {m : Dm} {pool : Pool} {r : Nat → Value} {ds : Array Value} {pb : Nat}
set_option maxRecDepth 100000 in
theorem resolve_V {d : Dc} (n : Vn) (hm : m.dc = d) (h1 : d.cat.tables = []) (h2 : d.views = [n]) (hok : m.ok pool) (hr : ∀ i, i < 21 → ds[6 + i]? = some (r i))
    (H : HS w (boxA pb ds 58 :: poolA pool :: ((List.range 21).map (fun i => rowA (rty i) (rsz i) (r i) (m.ns i) (m.cs i)) ++ (allA m.tparts :: allA m.vparts :: allA m.bparts :: l)))) :
    Calls Tryz.prog 43 #[.pointer (some ⟨pb, 6, none⟩)] w fun e w' => e = .returned (.tuple #[.int .i64 n.left.pos, .int .i64 7]) ∧ HS w' l := by
  have ht : m.tabs = [] := by
    rw [← hm] at h1
    exact List.map_eq_nil_iff.1 h1
  obtain ⟨x, hv, hx⟩ : ∃ x, m.views = [x] ∧ x.2.1 = n := by
    rw [← hm] at h2
    have h3 : m.views.map (fun x => x.2.1) = [n] := h2
    cases h : m.views with
    | nil => rw [h] at h3; cases h3
    | cons a b =>
      rw [h] at h3
      injection h3 with h4 h5
      exact ⟨a, by rw [List.map_eq_nil_iff.1 h5], h4⟩
  have o := hok.v x (by rw [hv]; exact List.mem_singleton.2 rfl)
  subst hx
  rw [range21] at H
  simp only [List.cons_append, List.nil_append] at H
  have e0 : rowA (rty 0) (rsz 0) (r 0) (m.ns 0) (m.cs 0) = rowA 77 4 (r 0) 0 [] := by rw [show m.ns 0 = 0 by simp [Dm.ns, ht], show m.cs 0 = [] by simp [Dm.cs, ht]]; rfl
  have e1 : rowA (rty 1) (rsz 1) (r 1) (m.ns 1) (m.cs 1) = rowA 187 9 (r 1) 1 (viwR x) := by rw [show m.ns 1 = 1 by simp [Dm.ns, hv], show m.cs 1 = viwR x by simp [Dm.cs, hv]]; rfl
  have e17 : rowA (rty 17) (rsz 17) (r 17) (m.ns 17) (m.cs 17) = rowA 191 13 (r 17) 1 (vnR x) := by rw [show m.ns 17 = 1 by simp [Dm.ns, hv], show m.cs 17 = vnR x by simp [Dm.cs, hv]]; rfl
  have ev : m.vparts = x.2.2.parts x.1 x.2.1 := by simp [Dm.vparts, hv]
  rw [e0, e1, e17, ev] at H
  have H2 := H.sub (l' := allA (x.2.2.parts x.1 x.2.1) :: boxA pb ds 58 :: rowA 187 9 (r 1) 1 (viwR x) :: rowA 191 13 (r 17) 1 (vnR x) :: rowA 77 4 (r 0) 0 [] :: l) (by with_reducible repeat constructor)
  clear H e0 e1 e17 ev hok
  have H3 := H2.all_
  unfold Vq.parts at H3
  simp only [List.cons_append, List.nil_append] at H3
  obtain ⟨A0, k0, er0⟩ := H3.slice (v := r 0) (by with_reducible repeat constructor)
  obtain ⟨A17, k17, er17⟩ := H3.slice (v := r 17) (by with_reducible repeat constructor)
  obtain ⟨oA, oc, eo⟩ := H3.slice (v := x.2.2.onv) (by with_reducible repeat constructor)
  obtain ⟨iA, ic, ei⟩ := H3.slice (v := x.2.2.nv) (by with_reducible repeat constructor)
  obtain ⟨aA, ac, ea⟩ := H3.slice (v := x.2.2.nav) (by with_reducible repeat constructor)
  obtain ⟨⟨po, ep⟩, rA, rN, rc, ec⟩ := o.cp
  have hvn : vnR x = (nc0 x.2.1.left x.2.1.right (.slice oA x.2.1.on.length oc) (.slice iA x.2.2.qi.length ic) (.slice aA x.2.2.qa.length ac) (.pointer po) (.slice rA rN rc)).toList := by
    unfold vnR
    rw [eo, ei, ea, ep, ec]
  rw [er17] at H3
  obtain ⟨gn, eg, -, -, -⟩ := H3.rowAt (A := A17) (by with_reducible repeat constructor) (fun e => by rw [hvn] at e; cases e)
  subst eg
  have h6 := hr 0 (by decide)
  have h7 := hr 1 (by decide)
  have h23 := hr 17 (by decide)
  rw [er0] at h6
  rw [er17] at h23
  have hne : viwR x ≠ [] := fun e => by unfold viwR vc0 at e; cases e
  exact resolveV_s (vxs := viwR x) (nxs := vnR x) (Vv := r 1) x.2.1 hne h6 h7 h23 (by decide) (by decide) (fun j u hu => by rw [hvn]; exact hu) (H3.sub (by with_reducible repeat constructor))
end
end Go.Proofs.YtgnmnaclndkmdaaGreatDoor
namespace Go.Proofs.YtgnmnaclndkmdaaGreatDoor
open Go.RowKit

theorem idle_SParse (w : World) : CallsD Tryz.prog 41 #[] .returning w fun e u' w' => e = .returned (.tuple #[]) ∧ u' = .returning ∧ w' = w := by
  refine callsD_of_wpS Tryz.func41 rfl fun c₀ cs hu => ?_
  apply wpS_region
  cases c₀
  simp_all [wpOpsS, go_sem, recoverD, Tryz.ntmps41, bodyPostS, results, Tryz.results41]
theorem HS.boxAt {w : World} {l l' : List HA} {z : Nat} {ds : Array Value} {te : TypeId} (H : HS w l) (hp : Pick l (boxA z ds te) l') (i : Nat) {u : Value} (h : ds[i]? = some u) : w.cell? ⟨z, i, none⟩ = some u := by
  obtain ⟨hc, -⟩ := Box.cells (H.box hp)
  rw [hc i, h]
set_option maxRecDepth 100000 in
set_option maxHeartbeats 8000000 in
theorem parse_V (s : ByteArray) (w : World) (hs : s.size ≤ 1099511627776) (hE : GE w) {toks : List Tk} {k : Nat} (hsc : scanO s.data.toList = (toks, k, 0)) {d : Dc} {sx : Ps} (hso : sourceP ⟨toks, s.size⟩ (toks.length + 1) ⟨0, false, 0, []⟩ Dc.nil = (d, sx)) (hf : sx.failed = false) {n : Vn} (h1 : d.cat.tables = []) (h2 : d.views = [n]) :
    Calls Tryz.prog 22 #[.string s] w fun e w' => e = .returned (.tuple #[.agg #[.slice none 0 0, .slice none 0 0, .slice none 0 0, .slice none 0 0, .slice none 0 0, .slice none 0 0, .slice none 0 0, .slice none 0 0], .int .i64 n.left.pos, .int .i64 7]) ∧ Below w.heap.size w w' := by
  have hN := scan_okN hsc s.size
  have hlen := scanO_len s.data.toList
  have hP := fun w1 hb => xscan s w1 hs (GE.below hE hb)
  rw [hsc] at hlen hP
  simp only at hlen
  unfold KPost at hP
  simp only at hP
  have HSO := Lib.hid hso
  have HF := Lib.hid hf
  have HD := Lib.hid (show d.cat.tables = [] ∧ d.views = [n] from ⟨h1, h2⟩)
  have H0 := (HS.start w).alloc #[.slice none 0 0, .slice none 0 0, .slice none 0 0, .slice none 0 0, .slice none 0 0, .slice none 0 0, .slice none 0 0, .slice none 0 0] 49
  clear hsc hso hf h1 h2
  go_enter_defers Tryz.func22, Tryz.ntmps22
  go_upto_region 1 with fail
  obtain ⟨z0, w0, ez, ew⟩ : ∃ z0 w0, w.heap.size = z0 ∧ w.alloc (.cells #[.slice none 0 0, .slice none 0 0, .slice none 0 0, .slice none 0 0, .slice none 0 0, .slice none 0 0, .slice none 0 0, .slice none 0 0] 49) = w0 := ⟨_, _, rfl, rfl⟩
  rw [ew, ez] at H0 ⊢
  clear ez ew
  have hb0 := H0.old (by with_reducible repeat constructor)
  go_upto_region 7 with (first
    | (go_at_call 10; refine (hP _ hb0).mono ?_; rintro e w2 ⟨A1, c1, rfl, own1, hb1⟩)
    | (go_at_call 42; have hS := source_s hN (start_D H0 hb1 own1 hlen s.size); dsimp only at hS; refine hS.mono ?_; rintro e w3 ⟨rfl, I3⟩; rw [HSO.out] at I3))
  obtain ⟨m, pool, r, ds, hd, hok, -, h3, h4, hr, H3⟩ := after_D I3
  dsimp only at hd h3 H3
  rw [HF.out] at h3
  have d3 := H3.boxAt (.here) 3 h3
  have hR := resolve_V n hd HD.out.1 HD.out.2 hok hr H3
  have hz : w2.heap.size < w3.heap.size := H3.box .here |>.lt
  clear I3 h3 h4 hr hok hd H3 H0 own1 hP
  go_upto_region 11 with (go_at_call 43; (with_reducible refine hR.mono ?_); rintro e w4 ⟨rfl, H4⟩)
  have dB := HS.box (z := z0) H4 (by with_reducible repeat constructor); have dL := Box.lt dB; obtain ⟨hcB, hfB⟩ := Box.cells dB; have d0 := hcB 0; have df0 := hfB 0; have d1 := hcB 1; have df1 := hfB 1; have d2 := hcB 2; have df2 := hfB 2; have d3 := hcB 3; have df3 := hfB 3; have d4 := hcB 4; have df4 := hfB 4; have d5 := hcB 5; have df5 := hfB 5; have d6 := hcB 6; have df6 := hfB 6; have d7 := hcB 7; have df7 := hfB 7; clear hcB hfB
  go_wp2_with fail
  have H5 := ((((((((H4.storeTo (z := z0) (by with_reducible repeat constructor) 0 (.slice none 0 0) #[.slice none 0 0, .slice none 0 0, .slice none 0 0, .slice none 0 0, .slice none 0 0, .slice none 0 0, .slice none 0 0, .slice none 0 0] rfl).storeTo (z := z0) .here 1 (.slice none 0 0) #[.slice none 0 0, .slice none 0 0, .slice none 0 0, .slice none 0 0, .slice none 0 0, .slice none 0 0, .slice none 0 0, .slice none 0 0] rfl).storeTo (z := z0) .here 2 (.slice none 0 0) #[.slice none 0 0, .slice none 0 0, .slice none 0 0, .slice none 0 0, .slice none 0 0, .slice none 0 0, .slice none 0 0, .slice none 0 0] rfl).storeTo (z := z0) .here 3 (.slice none 0 0) #[.slice none 0 0, .slice none 0 0, .slice none 0 0, .slice none 0 0, .slice none 0 0, .slice none 0 0, .slice none 0 0, .slice none 0 0] rfl).storeTo (z := z0) .here 4 (.slice none 0 0) #[.slice none 0 0, .slice none 0 0, .slice none 0 0, .slice none 0 0, .slice none 0 0, .slice none 0 0, .slice none 0 0, .slice none 0 0] rfl).storeTo (z := z0) .here 5 (.slice none 0 0) #[.slice none 0 0, .slice none 0 0, .slice none 0 0, .slice none 0 0, .slice none 0 0, .slice none 0 0, .slice none 0 0, .slice none 0 0] rfl).storeTo (z := z0) .here 6 (.slice none 0 0) #[.slice none 0 0, .slice none 0 0, .slice none 0 0, .slice none 0 0, .slice none 0 0, .slice none 0 0, .slice none 0 0, .slice none 0 0] rfl).storeTo (z := z0) .here 7 (.slice none 0 0) #[.slice none 0 0, .slice none 0 0, .slice none 0 0, .slice none 0 0, .slice none 0 0, .slice none 0 0, .slice none 0 0, .slice none 0 0] rfl)
  clear d0 d1 d2 d3 d4 d5 d6 d7 df0 df1 df2 df3 df4 df5 df6 df7 dB dL H4
  generalize World.setCell _ _ _ = W at H5 ⊢
  have dB := HS.box (z := z0) H5 (by with_reducible repeat constructor); have dL := Box.lt dB; obtain ⟨hcB, hfB⟩ := Box.cells dB; have d0 := hcB 0; have df0 := hfB 0; have d1 := hcB 1; have df1 := hfB 1; have d2 := hcB 2; have df2 := hfB 2; have d3 := hcB 3; have df3 := hfB 3; have d4 := hcB 4; have df4 := hfB 4; have d5 := hcB 5; have df5 := hfB 5; have d6 := hcB 6; have df6 := hfB 6; have d7 := hcB 7; have df7 := hfB 7; clear hcB hfB
  refine leave_idle idle_SParse (by simp [go_sem]) (by simp [results, Tryz.results22, go_sem, d0, d1, d2, d3, d4, d5, d6, d7]; rfl) ?_
  exact ⟨rfl, H5.old (by with_reducible repeat constructor)⟩
end Go.Proofs.YtgnmnaclndkmdaaGreatDoor
namespace Go.Proofs.YtgnmnaclndkmdaaGreatDoor
open Go.RowKit

theorem resTable_same {t t' : Tab} {o : List (List Tk)} (h : resTable t o = .ok t') : t'.name = t.name ∧ t'.erase = t.erase ∧ t'.retain = t.retain := by
  unfold resTable at h
  split at h
  · cases h
  · injection h with h
    subst h
    exact ⟨rfl, rfl, rfl⟩
def colB (t : Tab) (i : Nat) (c : Col) : Bool := decide (c.owners.length ≤ 1000000) && decide (c.name.length ≤ 1000000) && decide (c.ns.length ≤ 1000000) && isNameB c.name && (c.ns == [] || isNameB c.ns) && !((t.cols.take i).any fun x => x.name == c.name) && c.rf == [] && isTypeB c.ty && ownersC t (-1) c.owners && rulesC t c && (i != 0 || c.owners == [])
/-- A table that is right and refers to no store. -/
def tabB (t : Tab) : Bool := decide (1 ≤ t.cols.length) && decide (t.cols.length ≤ 8) && decide (t.name.length ≤ 1000000) && isNameB t.name && t.erase == 0 && withinI t.retain 0 1048576 && (List.range t.cols.length).all fun i => match t.cols[i]? with
  | some c => colB t i c
  | none => true
structure TabOk (t : Tab) (X : List Co) : Prop where
  l1 : 1 ≤ X.length
  l8 : X.length ≤ 8
  nl : t.name.length ≤ 1000000
  d : declC ⟨[], []⟩ t.name = 0
  e : t.erase = 0
  r : withinI t.retain 0 1048576 = true
  c : ∀ i c v, X[i]? = some (c, v) → ColOk t X i c
theorem tabB_ok {t : Tab} {X : List Co} (h : tabB t = true) (hX : X.map Prod.fst = t.cols) : TabOk t X := by
  unfold tabB at h
  simp only [Bool.and_eq_true, decide_eq_true_eq, beq_iff_eq] at h
  obtain ⟨⟨⟨⟨⟨⟨h1, h2⟩, h3⟩, h4⟩, h5⟩, h6⟩, h7⟩ := h
  have hl : X.length = t.cols.length := by rw [← hX, List.length_map]
  refine ⟨by omega, by omega, h3, ?_, h5, h6, fun i c v hi => ?_⟩
  · unfold declC
    rw [h4]
    rfl
  · have hc : t.cols[i]? = some c := by rw [← hX, List.getElem?_map, hi]; rfl
    have h8 := List.all_eq_true.1 h7 i (List.mem_range.2 (List.getElem?_eq_some_iff.1 hc).1)
    rw [hc] at h8
    dsimp only at h8
    unfold colB at h8
    simp only [Bool.and_eq_true, Bool.or_eq_true, decide_eq_true_eq, beq_iff_eq, bne_iff_ne, ne_eq, Bool.not_eq_true'] at h8
    obtain ⟨⟨⟨⟨⟨⟨⟨⟨⟨⟨g1, g2⟩, g3⟩, g4⟩, g5⟩, g6⟩, g7⟩, g8⟩, g9⟩, g10⟩, g11⟩ := h8
    refine ⟨g1, g2, g3, g4, g5, ?_, g7, g8, g9, g10, g11⟩
    rw [← g6, ← hX, ← List.map_take, List.any_map]
    rfl
section
variable {w : World} {l : List HA} {m : Dm} {pool : Pool} {r : Nat → Value} {ds : Array Value} {pb : Nat}
/-- What the look-up leaves. -/
def RtTPost (pb : Nat) (ds : Array Value) (t' : Tab) (Tv : Value) (l : List HA) (e : Ending) (w : World) : Prop := e = .returned (.tuple #[.int .i64 0, .int .i64 0]) ∧ ∃ (X : List Co) (cv : Value), X.map Prod.fst = t'.cols ∧ HS w (boxA pb ds 58 :: rowA 77 4 Tv 1 (tabC t'.name cv t'.erase t'.retain).toList :: rowA 80 7 cv X.length (coC X) :: allA (X.map coA) :: l)
set_option maxRecDepth 100000 in
theorem resolve_T {d : Dc} {t t' : Tab} {ow : List (List Tk)} (hm : m.dc = d) (h1 : d.cat.tables = [t]) (h2 : d.owners = [ow]) (h3 : d.cat.views = [] ∧ d.indexes = [] ∧ d.sketches = [] ∧ d.caches = []) (hwf : WfT t ow) (hsm : SmT t ow) (ht' : resTable t ow = .ok t') (hok : m.ok pool) (hr : ∀ i, i < 21 → ds[6 + i]? = some (r i))
    (H : HS w (boxA pb ds 58 :: poolA pool :: ((List.range 21).map (fun i => rowA (rty i) (rsz i) (r i) (m.ns i) (m.cs i)) ++ (allA m.tparts :: allA m.vparts :: allA m.bparts :: l)))) :
    Calls Tryz.prog 43 #[.pointer (some ⟨pb, 6, none⟩)] w (RtTPost pb ds t' (r 0) l) := by
  have hv : m.views = [] := by
    have := h3.1
    rw [← hm] at this
    exact List.map_eq_nil_iff.1 this
  have hi : m.idxs = [] := by
    have := h3.2.1
    rw [← hm] at this
    exact List.map_eq_nil_iff.1 this
  have hs : m.skts = [] := by
    have := h3.2.2.1
    rw [← hm] at this
    exact List.map_eq_nil_iff.1 this
  have hc : m.cchs = [] := by
    have := h3.2.2.2
    rw [← hm] at this
    exact List.map_eq_nil_iff.1 this
  obtain ⟨x, ht, hx1, hx2⟩ : ∃ x, m.tabs = [x] ∧ x.1 = t ∧ x.2.1 = ow := by
    rw [← hm] at h1 h2
    have h4 : m.tabs.map (fun x => x.1) = [t] := h1
    have h5 : m.tabs.map (fun x => x.2.1) = [ow] := h2
    cases h : m.tabs with
    | nil => rw [h] at h4; cases h4
    | cons a b =>
      rw [h] at h4 h5
      injection h4 with h6 h7
      injection h5 with h8 _
      exact ⟨a, by rw [List.map_eq_nil_iff.1 h7], h6, h8⟩
  have o := hok.t x (by rw [ht]; exact List.mem_singleton.2 rfl)
  subst hx1 hx2
  rw [range21] at H
  simp only [List.cons_append, List.nil_append] at H
  have e0 : rowA (rty 0) (rsz 0) (r 0) (m.ns 0) (m.cs 0) = rowA 77 4 (r 0) [x].length ([x].flatMap tabR) := by rw [show m.ns 0 = 1 by simp [Dm.ns, ht], show m.cs 0 = [x].flatMap tabR by simp [Dm.cs, ht]]; rfl
  have e16 : rowA (rty 16) (rsz 16) (r 16) (m.ns 16) (m.cs 16) = rowA 179 1 (r 16) [x].length ([x].map fun x => x.2.2.ov) := by rw [show m.ns 16 = 1 by simp [Dm.ns, ht], show m.cs 16 = [x].map (fun x => x.2.2.ov) by simp [Dm.cs, ht]]; rfl
  have e1 : rowA (rty 1) (rsz 1) (r 1) (m.ns 1) (m.cs 1) = rowA 187 9 (r 1) 0 [] := by rw [show m.ns 1 = 0 by simp [Dm.ns, hv], show m.cs 1 = [] by simp [Dm.cs, hv]]; rfl
  have e18 : rowA (rty 18) (rsz 18) (r 18) (m.ns 18) (m.cs 18) = rowA 141 8 (r 18) 0 [] := by rw [show m.ns 18 = 0 by simp [Dm.ns, hi], show m.cs 18 = [] by simp [Dm.cs, hi]]; rfl
  have e19 : rowA (rty 19) (rsz 19) (r 19) (m.ns 19) (m.cs 19) = rowA 141 8 (r 19) 0 [] := by rw [show m.ns 19 = 0 by simp [Dm.ns, hs], show m.cs 19 = [] by simp [Dm.cs, hs]]; rfl
  have e20 : rowA (rty 20) (rsz 20) (r 20) (m.ns 20) (m.cs 20) = rowA 141 8 (r 20) 0 [] := by rw [show m.ns 20 = 0 by simp [Dm.ns, hc], show m.cs 20 = [] by simp [Dm.cs, hc]]; rfl
  have ev : m.tparts = [x].flatMap fun x => x.2.2.parts x.1 := by simp [Dm.tparts, ht]
  rw [e0, e1, e16, e18, e19, e20, ev] at H
  obtain ⟨A1, k1, er1⟩ := H.slice (v := r 1) (by with_reducible repeat constructor)
  obtain ⟨A18, k18, er18⟩ := H.slice (v := r 18) (by with_reducible repeat constructor)
  obtain ⟨A19, k19, er19⟩ := H.slice (v := r 19) (by with_reducible repeat constructor)
  obtain ⟨A20, k20, er20⟩ := H.slice (v := r 20) (by with_reducible repeat constructor)
  have h6 := hr 0 (by decide)
  have h7 := hr 1 (by decide)
  have h22 := hr 16 (by decide)
  have h24 := hr 18 (by decide)
  have h25 := hr 19 (by decide)
  have h26 := hr 20 (by decide)
  rw [er1] at h7
  rw [er18] at h24
  rw [er19] at h25
  rw [er20] at h26
  have hR := resolveT_s (l := l) [x] (fun y hy => by rw [List.mem_singleton.1 hy]; exact hwf) (fun y hy => by rw [List.mem_singleton.1 hy]; exact hsm) (fun y hy => by rw [List.mem_singleton.1 hy]; exact o) (by simp) h6 h22 h7 h24 h25 h26 (H.sub (by with_reducible repeat constructor))
  have hE : mapE (fun x : Tt => resTable x.1 x.2.1) [x] = .ok [t'] := by
    rw [mapE, ht']
    rfl
  rw [hE] at hR
  refine hR.mono ?_
  unfold TsPost RtTPost
  dsimp only
  rintro e w' ⟨rfl, D, hD1, hD2, hD3, H5⟩
  refine ⟨rfl, ?_⟩
  obtain ⟨dd, rfl⟩ : ∃ dd, D = [dd] := by
    cases D with
    | nil => cases hD1
    | cons a b =>
      injection hD1 with _ h
      exact ⟨a, by rw [List.map_eq_nil_iff.1 h]⟩
  injection hD1 with hD1 _
  injection hD3 with hD3 _
  have ho := hD2 dd (List.mem_singleton.2 rfl)
  unfold Td.ok at ho
  rw [hD1] at ho
  obtain ⟨n1, n2, n3⟩ := resTable_same ht'
  have H6 := (H5.sub (l' := allA ([dd].flatMap Td.parts) :: boxA pb ds 58 :: rowA 77 4 (r 0) [x].length ([x].flatMap tabR) :: l) (by with_reducible repeat constructor)).all_
  rw [show [dd].flatMap Td.parts = [rowA 80 7 dd.cv dd.n (coC dd.X), allA (dd.X.map coA)] from rfl] at H6
  simp only [List.cons_append, List.nil_append] at H6
  have hlen : dd.n = dd.X.length := by
    have h := (H6.row (v := dd.cv) (by with_reducible repeat constructor)).1
    rw [coC_len] at h
    omega
  rw [hlen] at H6
  rw [show [x].flatMap tabR = (tabC t'.name dd.cv t'.erase t'.retain).toList by rw [n1, n2, n3, hD3]; simp [tabR], show [x].length = 1 from rfl] at H6
  exact ⟨dd.X, dd.cv, ho, H6.sub (by with_reducible repeat constructor)⟩
end
end Go.Proofs.YtgnmnaclndkmdaaGreatDoor
namespace Go.Proofs.YtgnmnaclndkmdaaGreatDoor
open Go.RowKit

theorem cat_ns {m : Dm} {t : Tab} (h : m.dc.cat = ⟨[t], [], [], [], [], [], [], []⟩) : m.ns 0 = 1 ∧ m.ns 1 = 0 ∧ m.ns 2 = 0 ∧ m.ns 3 = 0 ∧ m.ns 4 = 0 ∧ m.ns 5 = 0 ∧ m.ns 6 = 0 ∧ m.ns 7 = 0 := by
  unfold Dm.dc at h
  simp only [Cat.mk.injEq, List.map_eq_nil_iff] at h
  obtain ⟨h0, h1, h2, h3, h4, h5, h6, h7⟩ := h
  have h0 := congrArg List.length h0
  rw [List.length_map] at h0
  refine ⟨h0, ?_, ?_, ?_, ?_, ?_, ?_, ?_⟩
  · simp [Dm.ns, h1]
  · simp [Dm.ns, h2]
  · simp [Dm.ns, h3]
  · simp [Dm.ns, h4]
  · simp [Dm.ns, h5]
  · simp [Dm.ns, h6]
  · simp [Dm.ns, h7]
def PtPost (w0 : World) (t' : Tab) (e : Ending) (w' : World) : Prop := ∃ (X : List Co) (A A0 A1 A2 A3 A4 A5 A6 A7 : Option Addr) (kk k0 k1 k2 k3 k4 k5 k6 k7 : Nat), X.map Prod.fst = t'.cols ∧ e = .returned (.tuple #[.agg #[.slice A0 1 k0, .slice A1 0 k1, .slice A2 0 k2, .slice A3 0 k3, .slice A4 0 k4, .slice A5 0 k5, .slice A6 0 k6, .slice A7 0 k7], .int .i64 0, .int .i64 0]) ∧
  HS w' (rowA 77 4 (.slice A0 1 k0) 1 (tabC t'.name (.slice A X.length kk) t'.erase t'.retain).toList :: rowA 80 7 (.slice A X.length kk) X.length (coC X) :: allA (X.map coA) :: oldA w0 :: [])
set_option maxRecDepth 100000 in
set_option maxHeartbeats 8000000 in
theorem parse_T (s : ByteArray) (w : World) (hs : s.size ≤ 1099511627776) (hE : GE w) {toks : List Tk} {k : Nat} (hsc : scanO s.data.toList = (toks, k, 0)) {d : Dc} {sx : Ps} (hso : sourceP ⟨toks, s.size⟩ (toks.length + 1) ⟨0, false, 0, []⟩ Dc.nil = (d, sx)) (hf : sx.failed = false)
    {t t' : Tab} {ow : List (List Tk)} (hcat : d.cat = ⟨[t], [], [], [], [], [], [], []⟩) (h2 : d.owners = [ow]) (h3 : d.indexes = [] ∧ d.sketches = [] ∧ d.caches = []) (hwf : WfT t ow) (hsm : SmT t ow) (ht' : resTable t ow = .ok t') (hB : tabB t' = true) :
    Calls Tryz.prog 22 #[.string s] w (PtPost w t') := by
  have hN := scan_okN hsc s.size
  have hlen := scanO_len s.data.toList
  have hP := fun w1 hb => xscan s w1 hs (GE.below hE hb)
  rw [hsc] at hlen hP
  simp only at hlen
  unfold KPost at hP
  simp only at hP
  have HSO := Lib.hid hso
  have HF := Lib.hid hf
  have HC := Lib.hid hcat
  have H2 := Lib.hid h2
  have H3 := Lib.hid h3
  have HT := Lib.hid ht'
  have HB := Lib.hid hB
  have H0 := (HS.start w).alloc #[.slice none 0 0, .slice none 0 0, .slice none 0 0, .slice none 0 0, .slice none 0 0, .slice none 0 0, .slice none 0 0, .slice none 0 0] 49
  clear hsc hso hf hcat h2 h3 ht' hB
  go_enter_defers Tryz.func22, Tryz.ntmps22
  go_upto_region 1 with fail
  obtain ⟨z0, w0, ez, ew⟩ : ∃ z0 w0, w.heap.size = z0 ∧ w.alloc (.cells #[.slice none 0 0, .slice none 0 0, .slice none 0 0, .slice none 0 0, .slice none 0 0, .slice none 0 0, .slice none 0 0, .slice none 0 0] 49) = w0 := ⟨_, _, rfl, rfl⟩
  rw [ew, ez] at H0 ⊢
  clear ez ew
  have hb0 := H0.old (by with_reducible repeat constructor)
  go_upto_region 7 with (first
    | (go_at_call 10; refine (hP _ hb0).mono ?_; rintro e w2 ⟨A1, c1, rfl, own1, hb1⟩)
    | (go_at_call 42; have hS := source_s hN (start_D H0 hb1 own1 hlen s.size); dsimp only at hS; refine hS.mono ?_; rintro e w3 ⟨rfl, I3⟩; rw [HSO.out] at I3))
  obtain ⟨m, pool, r, ds, hd, hok, -, h3, h4, hr, H3b⟩ := after_D I3
  dsimp only at hd h3 H3b
  rw [HF.out] at h3
  have d3 := H3b.boxAt (.here) 3 h3
  have hz : w2.heap.size < w3.heap.size := H3b.box .here |>.lt
  have hcat := HC.out
  have hR := resolve_T hd (by rw [hcat]) H2.out ⟨by rw [hcat], H3.out⟩ hwf hsm HT.out hok hr H3b
  rw [range21] at H3b
  simp only [List.cons_append, List.nil_append] at H3b
  rw [← hd] at hcat
  obtain ⟨n0, n1, n2, n3, n4, n5, n6, n7⟩ := cat_ns hcat
  obtain ⟨A0, k0, er0⟩ := H3b.slice (v := r 0) (by with_reducible repeat constructor)
  rw [n0] at er0
  obtain ⟨A1, k1, er1⟩ := H3b.slice (v := r 1) (by with_reducible repeat constructor)
  rw [n1] at er1
  obtain ⟨A2, k2, er2⟩ := H3b.slice (v := r 2) (by with_reducible repeat constructor)
  rw [n2] at er2
  obtain ⟨A3, k3, er3⟩ := H3b.slice (v := r 3) (by with_reducible repeat constructor)
  rw [n3] at er3
  obtain ⟨A4, k4, er4⟩ := H3b.slice (v := r 4) (by with_reducible repeat constructor)
  rw [n4] at er4
  obtain ⟨A5, k5, er5⟩ := H3b.slice (v := r 5) (by with_reducible repeat constructor)
  rw [n5] at er5
  obtain ⟨A6, k6, er6⟩ := H3b.slice (v := r 6) (by with_reducible repeat constructor)
  rw [n6] at er6
  obtain ⟨A7, k7, er7⟩ := H3b.slice (v := r 7) (by with_reducible repeat constructor)
  rw [n7] at er7
  clear n0 n1 n2 n3 n4 n5 n6 n7 hcat I3 h3 h4 hok hd H3b H0 own1 hP
  unfold RtTPost at hR
  go_upto_region 12 with (go_at_call 43; (with_reducible refine hR.mono ?_); rintro e w4 ⟨rfl, X, cv, hX, H4⟩)
  obtain ⟨A, kk, rfl⟩ := H4.slice (v := cv) (by with_reducible repeat constructor)
  have hz4 : w2.heap.size < w4.heap.size := H4.box .here |>.lt
  have c0 := H4.boxAt .here 6 (hr 0 (by decide))
  rw [er0] at c0
  have c1 := H4.boxAt .here 7 (hr 1 (by decide))
  rw [er1] at c1
  have c2 := H4.boxAt .here 8 (hr 2 (by decide))
  rw [er2] at c2
  have c3 := H4.boxAt .here 9 (hr 3 (by decide))
  rw [er3] at c3
  have c4 := H4.boxAt .here 10 (hr 4 (by decide))
  rw [er4] at c4
  have c5 := H4.boxAt .here 11 (hr 5 (by decide))
  rw [er5] at c5
  have c6 := H4.boxAt .here 12 (hr 6 (by decide))
  rw [er6] at c6
  have c7 := H4.boxAt .here 13 (hr 7 (by decide))
  rw [er7] at c7
  have T := tabB_ok HB.out hX
  have HX := Lib.hid hX
  rw [er0] at H4
  have hK := Check_ok (l := boxA w2.heap.size ds 58 :: boxA z0 #[.slice none 0 0, .slice none 0 0, .slice none 0 0, .slice none 0 0, .slice none 0 0, .slice none 0 0, .slice none 0 0, .slice none 0 0] 49 :: oldA w :: []) (A1 := A1) (A2 := A2) (A3 := A3) (A4 := A4) (A5 := A5) (A6 := A6) (A7 := A7) (k1 := k1) (k2 := k2) (k3 := k3) (k4 := k4) (k5 := k5) (k6 := k6) (k7 := k7) (kk := kk) (A := A) (txs := (tabC t'.name (.slice A X.length kk) t'.erase t'.retain).toList) t' hX T.l1 T.l8 T.nl T.d T.e T.r T.c (fun j u hu => hu) (H4.sub (by with_reducible repeat constructor))
  clear hX T
  go_upto_region 15 with (go_at_call 44; (with_reducible refine hK.mono ?_); rintro e w5 ⟨rfl, H6⟩)
  clear c0 c1 c2 c3 c4 c5 c6 c7 H4 hK
  have hz5 : w2.heap.size < w5.heap.size := (H6.box (z := w2.heap.size) (cs := ds) (by with_reducible repeat constructor)).lt
  have c0 := H6.boxAt (z := w2.heap.size) (ds := ds) (by with_reducible repeat constructor) 6 (hr 0 (by decide))
  rw [er0] at c0
  have c1 := H6.boxAt (z := w2.heap.size) (ds := ds) (by with_reducible repeat constructor) 7 (hr 1 (by decide))
  rw [er1] at c1
  have c2 := H6.boxAt (z := w2.heap.size) (ds := ds) (by with_reducible repeat constructor) 8 (hr 2 (by decide))
  rw [er2] at c2
  have c3 := H6.boxAt (z := w2.heap.size) (ds := ds) (by with_reducible repeat constructor) 9 (hr 3 (by decide))
  rw [er3] at c3
  have c4 := H6.boxAt (z := w2.heap.size) (ds := ds) (by with_reducible repeat constructor) 10 (hr 4 (by decide))
  rw [er4] at c4
  have c5 := H6.boxAt (z := w2.heap.size) (ds := ds) (by with_reducible repeat constructor) 11 (hr 5 (by decide))
  rw [er5] at c5
  have c6 := H6.boxAt (z := w2.heap.size) (ds := ds) (by with_reducible repeat constructor) 12 (hr 6 (by decide))
  rw [er6] at c6
  have c7 := H6.boxAt (z := w2.heap.size) (ds := ds) (by with_reducible repeat constructor) 13 (hr 7 (by decide))
  rw [er7] at c7
  have dB := HS.box (z := z0) H6 (by with_reducible repeat constructor); have dL := Box.lt dB; obtain ⟨hcB, hfB⟩ := Box.cells dB; have d0 := hcB 0; have df0 := hfB 0; have d1 := hcB 1; have df1 := hfB 1; have d2 := hcB 2; have df2 := hfB 2; have d3 := hcB 3; have df3 := hfB 3; have d4 := hcB 4; have df4 := hfB 4; have d5 := hcB 5; have df5 := hfB 5; have d6 := hcB 6; have df6 := hfB 6; have d7 := hcB 7; have df7 := hfB 7; clear hcB hfB
  go_wp2_with fail
  have H7 := ((((((((H6.storeTo (z := z0) (by with_reducible repeat constructor) 0 (.slice A0 1 k0) #[.slice A0 1 k0, .slice none 0 0, .slice none 0 0, .slice none 0 0, .slice none 0 0, .slice none 0 0, .slice none 0 0, .slice none 0 0] rfl).storeTo (z := z0) .here 1 (.slice A1 0 k1) #[.slice A0 1 k0, .slice A1 0 k1, .slice none 0 0, .slice none 0 0, .slice none 0 0, .slice none 0 0, .slice none 0 0, .slice none 0 0] rfl).storeTo (z := z0) .here 2 (.slice A2 0 k2) #[.slice A0 1 k0, .slice A1 0 k1, .slice A2 0 k2, .slice none 0 0, .slice none 0 0, .slice none 0 0, .slice none 0 0, .slice none 0 0] rfl).storeTo (z := z0) .here 3 (.slice A3 0 k3) #[.slice A0 1 k0, .slice A1 0 k1, .slice A2 0 k2, .slice A3 0 k3, .slice none 0 0, .slice none 0 0, .slice none 0 0, .slice none 0 0] rfl).storeTo (z := z0) .here 4 (.slice A4 0 k4) #[.slice A0 1 k0, .slice A1 0 k1, .slice A2 0 k2, .slice A3 0 k3, .slice A4 0 k4, .slice none 0 0, .slice none 0 0, .slice none 0 0] rfl).storeTo (z := z0) .here 5 (.slice A5 0 k5) #[.slice A0 1 k0, .slice A1 0 k1, .slice A2 0 k2, .slice A3 0 k3, .slice A4 0 k4, .slice A5 0 k5, .slice none 0 0, .slice none 0 0] rfl).storeTo (z := z0) .here 6 (.slice A6 0 k6) #[.slice A0 1 k0, .slice A1 0 k1, .slice A2 0 k2, .slice A3 0 k3, .slice A4 0 k4, .slice A5 0 k5, .slice A6 0 k6, .slice none 0 0] rfl).storeTo (z := z0) .here 7 (.slice A7 0 k7) #[.slice A0 1 k0, .slice A1 0 k1, .slice A2 0 k2, .slice A3 0 k3, .slice A4 0 k4, .slice A5 0 k5, .slice A6 0 k6, .slice A7 0 k7] rfl)
  clear d0 d1 d2 d3 d4 d5 d6 d7 df0 df1 df2 df3 df4 df5 df6 df7 dB dL H6 c0 c1 c2 c3 c4 c5 c6 c7
  generalize World.setCell _ _ _ = W at H7 ⊢
  have dB := HS.box (z := z0) H7 (by with_reducible repeat constructor); have dL := Box.lt dB; obtain ⟨hcB, hfB⟩ := Box.cells dB; have d0 := hcB 0; have df0 := hfB 0; have d1 := hcB 1; have df1 := hfB 1; have d2 := hcB 2; have df2 := hfB 2; have d3 := hcB 3; have df3 := hfB 3; have d4 := hcB 4; have df4 := hfB 4; have d5 := hcB 5; have df5 := hfB 5; have d6 := hcB 6; have df6 := hfB 6; have d7 := hcB 7; have df7 := hfB 7; clear hcB hfB
  refine leave_idle idle_SParse (by simp [go_sem]) (by simp [results, Tryz.results22, go_sem, d0, d1, d2, d3, d4, d5, d6, d7]; rfl) ?_
  exact ⟨X, A, A0, A1, A2, A3, A4, A5, A6, A7, kk, k0, k1, k2, k3, k4, k5, k6, k7, HX.out, rfl, H7.sub (by with_reducible repeat constructor)⟩
end Go.Proofs.YtgnmnaclndkmdaaGreatDoor
namespace Go.Proofs.YtgnmnaclndkmdaaGreatDoor

def src1 : Bs := [116, 97, 98, 108, 101, 32, 112, 101, 114, 115, 111, 110, 32, 40, 32, 105, 100, 32, 105, 110, 116, 32, 110, 97, 109, 101, 115, 112, 97, 99, 101, 32, 112, 101, 114, 115, 111, 110, 32, 44, 32, 109, 97, 105, 108, 32, 116, 101, 120, 116, 32, 112, 101, 114, 115, 111, 110, 97, 108, 32, 98, 121, 32, 105, 100, 32, 41, 32, 59]
def src2 : Bs := [118, 105, 101, 119, 32, 118, 32, 115, 101, 108, 101, 99, 116, 32, 120, 32, 61, 32, 121, 32, 102, 114, 111, 109, 32, 116, 32, 59]
def toks1 : List Tk := (scanO src1).1
def toks2 : List Tk := (scanO src2).1
theorem scan_1 : scanO src1 = (toks1, (scanO src1).2.1, 0) := by
  have h : (scanO src1).2.2 = 0 := by decide +kernel
  rw [← h]
  rfl
theorem scan_2 : scanO src2 = (toks2, (scanO src2).2.1, 0) := by
  have h : (scanO src2).2.2 = 0 := by decide +kernel
  rw [← h]
  rfl
def res1 : Dc × Ps := sourceP ⟨toks1, 69⟩ (toks1.length + 1) ⟨0, false, 0, []⟩ Dc.nil
def res2 : Dc × Ps := sourceP ⟨toks2, 28⟩ (toks2.length + 1) ⟨0, false, 0, []⟩ Dc.nil
theorem fail_1 : res1.2.failed = false := by decide +kernel
theorem fail_2 : res2.2.failed = false := by decide +kernel
def tb1 : Tab := ⟨[112, 101, 114, 115, 111, 110], [⟨[105, 100], 1, [112, 101, 114, 115, 111, 110], [], [], 0, 0⟩, ⟨[109, 97, 105, 108], 2, [], [], [], 0, 0⟩], 0, 0⟩
def tb1' : Tab := ⟨[112, 101, 114, 115, 111, 110], [⟨[105, 100], 1, [112, 101, 114, 115, 111, 110], [], [], 0, 0⟩, ⟨[109, 97, 105, 108], 2, [], [], [0], 0, 0⟩], 0, 0⟩
def ow1 : List (List Tk) := [[], [⟨1, [105, 100], 0, 63⟩]]
theorem cat_1 : res1.1.cat = ⟨[tb1], [], [], [], [], [], [], []⟩ := by kernel_rfl
theorem own_1 : res1.1.owners = [ow1] := by kernel_rfl
theorem rest_1 : res1.1.indexes = [] ∧ res1.1.sketches = [] ∧ res1.1.caches = [] := ⟨by kernel_rfl, by kernel_rfl, by kernel_rfl⟩
theorem wf_1 : WfT tb1 ow1 := ⟨rfl, by intro c hc; simp [tb1] at hc; rcases hc with rfl | rfl <;> rfl⟩
theorem sm_1 : SmT tb1 ow1 := ⟨by decide, by intro x hx; simp [ow1] at hx; rcases hx with rfl | rfl <;> simp⟩
theorem res_1 : resTable tb1 ow1 = .ok tb1' := by kernel_rfl
theorem ok_1 : tabB tb1' = true := by decide +kernel
def vn2 : Vn := ⟨⟨1, [116], 0, 25⟩, Tk.zero, [], res2.1.views.headD ⟨Tk.zero, Tk.zero, [], [], [], Xr.none_⟩ |>.items, [], Xr.none_⟩
theorem cat_2 : res2.1.cat.tables = [] := by kernel_rfl
theorem view_2 : res2.1.views = [vn2] := by kernel_rfl
end Go.Proofs.YtgnmnaclndkmdaaGreatDoor
