/- The columns of generated expressions under the names of the law SyntaxExprBack: plain Lean, no program in sight. The walk of the law SyntaxExprBack; where the table of powers of ten is as it is laid and the variable ErrRange can be read. What the rows' lists with the two errors give, and a world that meets them. No condition. How a slice of ints that came in is opened. No condition. -/
import Derived.Test.YtpnfbehbheddeaaGreatDoorBn44
import Derived.Test.YtpnfbehbheddeaaGreatDoorBn42
import Derived.Test.YtpnfbehbheddeaaGreatDoorBn31
import Derived.Test.YtpnfbehbheddeaaGreatDoorBn01
import Derived.Test.YtpnfbehbheddeaaGreatDoorBn15
import Derived.LaidMore
import Derived.LaidOnce
import Derived.SizedLaws
namespace Go.Proofs.YtpnfbehbheddeaaGreatDoor
set_option maxRecDepth 100000
set_option maxHeartbeats 8000000
set_option linter.unusedVariables false
set_option linter.unusedSimpArgs false
theorem flat_ok : ∀ (n : Nat) (x : X), x.flat.length ≤ n → x.wf = true → (∀ c ∈ x.cols, True) → (∀ t ∈ x.flat, t.ok = true) ∧ ∀ c ∈ x.cols, ∃ t ∈ x.flat, t.op = 2 ∧ t.c.toNat = c :=
  X.ind (P := fun _ => True) (M := fun x => (∀ t ∈ x.flat, t.ok = true) ∧ ∀ c ∈ x.cols, ∃ t ∈ x.flat, t.op = 2 ∧ t.c.toNat = c) fun t ks ht _ _ h => by
    have hl : ∀ l : List X, (∀ k ∈ l, (∀ t ∈ k.flat, t.ok = true) ∧ ∀ c ∈ k.cols, ∃ t ∈ k.flat, t.op = 2 ∧ t.c.toNat = c) → (∀ t ∈ flats l, t.ok = true) ∧ ∀ c ∈ colss l, ∃ t ∈ flats l, t.op = 2 ∧ t.c.toNat = c := fun l => by
      induction l with
      | nil => intro _; exact ⟨fun t ht => (by cases ht), fun c hc => (by cases hc)⟩
      | cons a l ih =>
        intro h
        obtain ⟨i1, i2⟩ := ih fun k hk => h k (by simp [hk])
        obtain ⟨a1, a2⟩ := h a (by simp)
        rw [flats, colss]
        refine ⟨fun t ht => ?_, fun c hc => ?_⟩
        · rcases List.mem_append.1 ht with ht | ht
          · exact a1 t ht
          · exact i1 t ht
        · rcases List.mem_append.1 hc with hc | hc
          · obtain ⟨t, h1, h2⟩ := a2 c hc
            exact ⟨t, List.mem_append_left _ h1, h2⟩
          · obtain ⟨t, h1, h2⟩ := i2 c hc
            exact ⟨t, List.mem_append_right _ h1, h2⟩
    obtain ⟨i1, i2⟩ := hl ks fun k hk => (h k hk).2.2
    rw [X.flat_node, X.cols]
    refine ⟨fun u hu => ?_, fun c hc => ?_⟩
    · rcases List.mem_cons.1 hu with rfl | hu
      · exact ht
      · exact i1 u hu
    · rcases List.mem_append.1 hc with hc | hc
      · split at hc
        · rename_i h2
          exact ⟨t, by simp, h2, (List.mem_singleton.1 hc).symm⟩
        · cases hc
      · obtain ⟨u, h1, h2⟩ := i2 c hc
        exact ⟨u, List.mem_cons_of_mem _ h1, h2⟩
theorem col_pos {t : T} (h : t.ok = true) (h2 : t.op = 2) : 0 ≤ t.c := (node_col h h2).2
theorem addL_in {c a : Int} : ∀ {l : List Int}, c ∈ addL l a → c = a ∨ c ∈ l
  | [], h => by rw [addL] at h; exact .inl (List.mem_singleton.1 h)
  | b :: l, h => by
    rw [addL] at h
    split at h
    · rcases List.mem_cons.1 h with rfl | h
      · exact .inr (by simp)
      · rcases addL_in h with h | h
        · exact .inl h
        · exact .inr (by simp [h])
    · split at h
      · exact .inr h
      · rcases List.mem_cons.1 h with h | h
        · exact .inl h
        · exact .inr h
theorem addL_len (a : Int) : ∀ l : List Int, (addL l a).length ≤ l.length + 1
  | [] => by simp [addL]
  | b :: l => by
    have := addL_len a l
    rw [addL]
    split
    · simp only [List.length_cons]; omega
    · split <;> simp
theorem colsA_mem {c : Int} {e : List T} (h : c ∈ colsA e) : ∃ t ∈ e, t.op = 2 ∧ t.c = c := by
  have hg : ∀ (l m : List Int), c ∈ l.foldl addL m → c ∈ l ∨ c ∈ m := fun l => by
    induction l with
    | nil => intro m h; exact .inr h
    | cons a l ih =>
      intro m h
      rw [List.foldl_cons] at h
      rcases ih _ h with h | h
      · exact .inl (by simp [h])
      · rcases addL_in h with h | h
        · exact .inl (by simp [h])
        · exact .inr h
  rcases hg _ _ h with h | h
  · unfold colsL at h
    obtain ⟨t, ht, rfl⟩ := List.mem_map.1 h
    obtain ⟨h1, h2⟩ := List.mem_filter.1 ht
    exact ⟨t, h1, by simpa using h2, rfl⟩
  · cases h
theorem colsA_len (e : List T) : (colsA e).length ≤ e.length := by
  have hg : ∀ (l m : List Int), (l.foldl addL m).length ≤ l.length + m.length := fun l => by
    induction l with
    | nil => intro m; simp
    | cons a l ih =>
      intro m
      have := ih (addL m a)
      have := addL_len a m
      rw [List.foldl_cons, List.length_cons]
      omega
  have h1 := hg (colsL e) []
  have h2 : (colsL e).length ≤ e.length := by
    unfold colsL
    rw [List.length_map]
    exact List.length_filter_le _ _
  unfold colsA
  simp only [List.length_nil] at h1
  omega
def leftB : List Bs := [[97], wNot, [105, 102], wLeft]
def rightB : List Bs := [[98], wRight, [97]]
theorem okB : ∀ c, c < 7 → okCol leftB rightB c := by
  have h : ∀ c : Fin 7, isNameB (colName leftB rightB c) = true := by decide
  exact fun c hc => h ⟨c, hc⟩
theorem findB : ∀ c, c < 7 → Finds leftB rightB c := by
  have h : ∀ c : Fin 7, findP (if leftB.length ≤ (c : Nat) then rightB else leftB) (colName leftB rightB c) = some (if leftB.length ≤ (c : Nat) then c - leftB.length else c) := by decide
  exact fun c hc => h ⟨c, hc⟩
theorem shortB : ∀ c, (colName leftB rightB c).length ≤ 1000000 := fun c => by
  have h : ∀ c : Fin 7, (colName leftB rightB c).length ≤ 1000000 := by decide
  by_cases hc : c < 7
  · exact h ⟨c, hc⟩
  · unfold colName
    rw [if_neg (by show ¬ c < 4; omega)]
    rw [List.getD_eq_getElem?_getD, List.getElem?_eq_none (by show 3 ≤ c - 4; omega)]
    simp
section
variable {x : X} (hw : x.wf = true) (hc : colsIn 7 x.flat)
include hw hc
theorem colsB : ∀ c ∈ x.cols, c < 7 := fun c hcc => by
  obtain ⟨t, h1, h2, h3⟩ := (flat_ok _ x (Nat.le_refl _) hw fun _ _ => trivial).2 c hcc
  have := hc t h1 h2
  omega
theorem namesB : ∀ c ∈ colsA x.flat, 0 ≤ c ∧ c < ((4 + 3 : Nat) : Int) ∧ isNameB (colName leftB rightB c.toNat) = true := fun c hcc => by
  obtain ⟨t, h1, h2, rfl⟩ := colsA_mem hcc
  have h3 := hc t h1 h2
  have h4 := col_pos ((flat_ok _ x (Nat.le_refl _) hw fun _ _ => trivial).1 t h1) h2
  exact ⟨h4, h3, okB _ (by omega)⟩
theorem backB (hd : x.flat.length ≤ 40) : pexprO (joinK (x.wr leftB rightB)) leftB rightB = (x.flat, 0, 0) :=
  pexpr_back hw (fun c h => okB c (colsB hw hc c h)) (fun c h => findB c (colsB hw hc c h)) (by omega)
theorem lensB (hd : x.flat.length ≤ 40) : (x.wr leftB rightB).length ≤ 100000 ∧ (∀ t ∈ x.wr leftB rightB, t.text.length ≤ 100000) ∧ (joinK (x.wr leftB rightB)).length ≤ 1099511627776 := by
  have hok : ∀ c ∈ x.cols, okCol leftB rightB c := fun c h => okB c (colsB hw hc c h)
  have h1 := wr_count hw hok
  have h2 := joinK_len (x.wr leftB rightB)
  exact ⟨by omega, fun t ht => by have := (wr_good hw hok t ht).2.2; omega, by omega⟩
end
open Go.RowKit
theorem Box.grown {w w' : World} {z : Nat} {cs : Array Value} {te : TypeId} {r : Option Nat} (B : Box w z cs te) (hg : w.grownBy w' r) (hz : some z ≠ r) : Box w' z cs te := (hg.block z B.lt hz).trans B
theorem syntaxExprBack_w (Z : Option Addr) (zn zc : Nat) (zs : List Int) (w : World) (hz : IntsR w Z zn zc zs) (hG : G w) (hE : GE w) : Calls Tryz.prog 5 #[.slice Z zn zc] w fun e w' => e = .returned (.bool true) ∧ Below w.heap.size w w' := by
  have hnew := new_c Z zn zc zs w hz
  clear hz
  go_enter Tryz.func5, Tryz.ntmps5
  go_upto_region 2 with (go_at_call 6; refine hnew.mono ?_; rintro e w1 ⟨b, g, rfl, htp, hb0, hg0, hb1⟩)
  have hz1 := hb1.size
  have H1 := HS.start w1
  obtain ⟨z, w2, ez, ew, H2⟩ := H1.alloc2_ex #[.string ⟨#[97]⟩, .string ⟨#[110, 111, 116]⟩, .string ⟨#[105, 102]⟩, .string ⟨#[108, 101, 102, 116]⟩] 9 #[.string ⟨#[98]⟩, .string ⟨#[114, 105, 103, 104, 116]⟩, .string ⟨#[97]⟩] 9
  have h12 := H2.old pkQ
  have B1 := H2.box (z := z) pkQ
  have B2 := H2.box (z := z + 1) pkQ
  have hz2 := h12.size
  have hlt := htp.lt
  have hltg := htp.ltg
  have hbw2 : Below w.heap.size w w2 := below_step h12 hb1 (Nat.le_refl _)
  have ht2 := htp.step h12
  clear H1 H2
  have hE3 := fun w4 (hb : Below w.heap.size w w4) => GE.below hE hb
  have hAw := fun w9 (hb : Below w.heap.size w w9) => awake5_c w9 (GE.below hE hb)
  clear hnew
  go_wp2_with fail
  have hez : w1.heap.size ≤ z := Nat.le_of_eq ez
  clear ez ew
  refine (texpr b g 7 (by omega) (by omega) 4 w2 (by omega) (by omega) ht2).mono ?_
  rintro e w3 ⟨A3, c3, x, rfl, own3, hwf, hdp, hcl, ht3, hg3⟩
  have hz3 := hg3.size
  have hbw3 : Below w.heap.size w w3 := hbw2.grown hg3 (by omega) (fun k hk => by injection hk with hk; omega)
  have hT : RowT w3 w3.heap.size A3 x.flat.length x.flat := RowOf.of_own own3 rfl
  have hL := rowOf_box (f := fun l => [strV l]) (l := leftB) (n := 4) (B1.grown hg3 (fun h => by injection h with h; omega)) rfl rfl
  have hR := rowOf_box (f := fun l => [strV l]) (l := rightB) (n := 3) (B2.grown hg3 (fun h => by injection h with h; omega)) rfl rfl
  have hs40 := X.size4 hwf hdp
  obtain ⟨n1, n2, n3⟩ := lensB hwf hcl hs40
  have hbk := backB hwf hcl hs40
  have hFm := formatExpr_ok (w := w3) (tc := c3) (ln := 4) (rn := 3) (lc := 4) (rc := 3) hT hL hR (by omega) (by decide) (by decide) shortB (valid4 hwf hdp) hwf rfl (fun t ht h2 => hcl t ht h2) (namesB hwf hcl) (by have := colsA_len x.flat; omega) n1 n2 (hG.below hbw3)
  generalize joinK (x.wr leftB rightB) = txt at hFm hbk n3
  unfold SPost at hFm
  have hP := fun w4 (hb : Below w3.heap.size w3 w4) => pexpr_c ⟨txt.toArray⟩ (lc := 4) (rc := 3) (left := leftB) (right := rightB) w4 (by show txt.toArray.size ≤ _; simpa using n3) (hE3 _ (below_step hb hbw3 (Nat.le_refl _))) ((hL.below hb).more hb.size) ((hR.below hb).more hb.size) (by decide) (by decide)
  rw [show (⟨txt.toArray⟩ : ByteArray).data.toList = txt from rfl, hbk] at hP
  unfold PxPost at hP
  dsimp only at hP
  generalize x.flat = es at hT hP hFm hs40
  have hS := fun w5 A5 c5 (hb : Below w3.heap.size w3 w5) (h5 : RowT w5 w5.heap.size A5 es.length es) => rsame A5 A3 es.length c5 c3 es w5 (Nat.le_trans hs40 (by decide)) h5 ((hT.below hb).more hb.size)
  clear hT hL hR B1 B2 own3 hwf hdp hcl hbk n1 n2 hs40
  go_wp2_with (first
    | (go_at_call 14; refine hFm.mono ?_; rintro e w4 ⟨rfl, hb4⟩)
    | (go_at_call 8; refine (hP _ hb4).mono ?_; rintro e w5 ⟨v5, rfl, own5, hb5⟩; obtain ⟨A5, c5, rfl, k3, k4⟩ := own_slice own5; have hb35 : Below w3.heap.size w3 w5 := below_step hb5 hb4 (Nat.le_refl _); have R5 : RowT w5 w5.heap.size A5 es.length es := RowOf.of_own own5 rfl)
    | (go_at_call 11; refine (hS _ A5 c5 hb35 R5).mono ?_; rintro e w6 ⟨rfl, hb6⟩; have hbw6 : Below w.heap.size w w6 := below_step (below_step hb6 hb35 (Nat.le_refl _)) hbw3 (Nat.le_refl _))
    | (go_at_call 9; refine (hAw _ hbw6).mono ?_; rintro e w10 ⟨rfl, hb10⟩))
  go_ret
  exact ⟨rfl, below_step hb10 hbw6 (Nat.le_refl _)⟩
open Go.ChangeShapes Go.WideShapes Go.ChangeAt
def laid5 : List (String × DataW Unit) := laid3 ++ [("strconv.ErrRange", Rows.laid_strconv_ErrRange), ("strconv.ErrSyntax", Rows.laid_strconv_ErrSyntax)]
theorem g_of_laid5 {W : World} (h : laidMetH Tryz.prog laid5 W) : G W := pow_of rfl h
theorem trod_err {H : Type} {enc : TypeId × Value → H} {W : World} {base : Nat} {sp : Nat → Bool} {held : Bool} {fuel : Nat} {cs : List Value} {x : DataW H × List MemPlace} (h : DataW.trod enc Tryz.prog W base sp held fuel 184 cs = some x) : ∃ ev, cs = [ev] ∧ (ev = .nilIface ∨ ∃ te pe, ev = .iface te pe) := by
  have hu := Tryz.underlying184
  cases fuel with
  | zero => simp [DataW.trod] at h
  | succ n =>
    unfold DataW.trod at h
    rw [hu] at h
    split at h <;> simp_all
theorem e_of_laid5 {W : World} (h : laidMetH Tryz.prog laid5 W) : GE W := by
  have h2 := laidMetH.filter (fun x => x.1 == "strconv.ErrRange") h
  have h3 : laidMet Tryz.prog [("strconv.ErrRange", Rows.laid_strconv_ErrRange)] W := by
    have e : laid5.filter (fun x => x.1 == "strconv.ErrRange") = [("strconv.ErrRange", Rows.laid_strconv_ErrRange)] := rfl
    rw [e] at h2
    exact (laidMetH_iff.1 h2).1
  obtain ⟨ps, ⟨g1, t1, cs1, f1, p1, q1, hg1, ht1, hv1, hd1, _, _⟩, _, _⟩ := h3
  obtain rfl := Option.some.inj ((show Tryz.prog.globalNamed "strconv.ErrRange" = some 5 by kernel_rfl).symm.trans hg1)
  obtain rfl := Option.some.inj ((show (Tryz.prog.globals[5]?).map (·.type) = some 184 by kernel_rfl).symm.trans ht1)
  obtain ⟨ev, hcs, hev⟩ := trod_err hd1
  have hc := World.var?_cell hg1 hv1 0
  rw [Array.eq_one_of_toList hcs] at hc
  have hc' : W.cell? ⟨5, 0, none⟩ = some ev := by simpa using hc
  refine ⟨?_, ev, hc', hev⟩
  rcases Nat.lt_or_ge 5 W.heap.size with hl | hl
  · exact hl
  · simp [World.cell?, Array.getElem?_eq_none hl] at hc'
noncomputable def doorWorld (os : Os) : World := World.doorLaid Tryz.prog 3000 os
open Go.Deep
theorem bytesInt : Tryz.prog.bytesOf 3 = 8 := by kernel_rfl
section
variable {H : Type} {enc : TypeId × Value → H} {w : World} {base : Nat} {spare : Nat → Bool} {held : Bool} {fuel : Nat}
theorem open_intsR {A : Option Addr} {n c : Nat} {x : DataW H × List MemPlace} (h : DataW.trod enc Tryz.prog w base spare held fuel 22 [.slice A n c] = some x) :
    ∃ zs : List Int, (∀ (ts : List TypeId) (ds : List (DataW H)) (j : Nat), (DataW.weightsEach Tryz.prog ts ds).all (· ≤ reachBytes) = true → ts[j]? = some 22 → ds[j]? = some x.1 → IntsR w A n c zs) := by
  rcases open_ints Tryz.underlying22 Tryz.underlying3 cellsInt h with ⟨hcs, _⟩ | ⟨a, l, cp, zs, hcs, _, hl, hm, hz, hx, hcell, _⟩
  · simp at hcs
    obtain ⟨rfl, rfl, rfl⟩ := hcs
    exact ⟨[], fun _ _ _ _ _ _ => ⟨rfl, fun _ => ⟨rfl, rfl⟩, by omega, fun h0 => absurd rfl h0⟩⟩
  · simp at hcs
    obtain ⟨rfl, rfl, rfl⟩ := hcs
    have hzl : n ≤ zs.length := by rw [hz]; split <;> omega
    refine ⟨zs.take n, fun ts ds j hsz ht hd => ?_⟩
    have hb : n ≤ 17592186044416 := by
      have := sized_slice hsz ht (by rw [hd, hx]) Tryz.underlying22
      rw [bytesInt] at this
      simp only [lits, List.length_map, List.length_take, List.length_drop] at this
      have h2 : reachBytes < 2 ^ 47 := reachBytes_lt
      omega
    refine ⟨by simp; omega, (fun e => by cases e), hb, fun hne => ?_⟩
    have hpos : 0 < n := by
      rcases Nat.eq_zero_or_pos n with h0 | h0
      · subst h0; simp [icells] at hne
      · exact h0
    obtain ⟨b, off, spot⟩ := a
    have hc0 := hcell 0 (by omega)
    have hspot : spot = none := by simpa [Addr.add] using World.cell?_spot hc0
    subst hspot
    refine ⟨b, off, rfl, by simpa [Addr.add] using cell_lt hc0, fun j u hu => ?_⟩
    have hj : j < (zs.take n).length := by
      have := (List.getElem?_eq_some_iff.1 hu).1
      simpa [icells] using this
    have hjz : j < zs.length := by simp at hj; omega
    have := hcell j hjz
    rw [addr_add] at this
    rw [this, ← hu]
    simp only [icells, List.getElem?_map, List.getElem?_eq_getElem hj, List.getElem_take, Option.map_some, List.getD, List.getElem?_eq_getElem hjz, Option.getD_some]
end
end Go.Proofs.YtpnfbehbheddeaaGreatDoor
