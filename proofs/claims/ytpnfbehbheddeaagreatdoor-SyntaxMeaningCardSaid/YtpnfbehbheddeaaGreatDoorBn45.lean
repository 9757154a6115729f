/- The walk of the law SyntaxMeaning; where the variable ErrRange can be read. What the rows' lists with the two errors give, and a world that meets them. No condition. How a slice of ints that came in is opened. No condition. -/
import Derived.Test.YtpnfbehbheddeaaGreatDoorBn25
import Derived.Test.YtpnfbehbheddeaaGreatDoorBn44
import Derived.Test.YtpnfbehbheddeaaGreatDoorBn38
import Derived.Test.YtpnfbehbheddeaaGreatDoorBn16
import Derived.Test.YtpnfbehbheddeaaGreatDoorBn00
import Derived.Test.YtpnfbehbheddeaaGreatDoorBn20
import Derived.LaidMore
import Derived.LaidOnce
import Derived.SizedLaws
namespace Go.Proofs.YtpnfbehbheddeaaGreatDoor
set_option maxRecDepth 100000
set_option maxHeartbeats 8000000
set_option linter.unusedVariables false
set_option linter.unusedSimpArgs false
open Go.RowKit
theorem Box.grownM {w w' : World} {z : Nat} {cs : Array Value} {te : TypeId} {r : Option Nat} (B : Box w z cs te) (hg : w.grownBy w' r) (hz : some z ≠ r) : Box w' z cs te := (hg.block z B.lt hz).trans B
theorem rowOf_boxM {α : Type} {f : α → List Value} {w : World} {z : Nat} {cs : Array Value} {te : TypeId} {l : List α} (B : Box w z cs te) (h : cs.toList = l.flatMap f) {n : Nat} (hn : l.length = n) : @RowOf α f w w.heap.size (some ⟨z, 0, none⟩) n l := by
  refine ⟨hn, fun _ => ⟨z, 0, rfl, B.lt, fun j u hu => ?_⟩⟩
  obtain ⟨hc, -⟩ := Box.cells B
  rw [Nat.zero_add, hc j, ← Array.getElem?_toList, h]
  exact hu
theorem eqV_self (v : V) (w : World) : (binOp .eql 36 (.agg #[.int .i64 v.k, .int .i64 v.n, .string v.s]) (.agg #[.int .i64 v.k, .int .i64 v.n, .string v.s])).run Tryz.prog w = .ok (.bool true) w := by
  rw [run_eqV, show eqB v.k v.n v.s v.k v.n v.s = v.beq v from rfl, (V.beq_iff v v).2 rfl]
def leftM : List Bs := [[97], [98], [99]]
theorem syntaxMeaning_w (Z : Option Addr) (zn zc : Nat) (zs : List Int) (w : World) (hz : IntsR w Z zn zc zs) (hE : GE w) : Calls Tryz.prog 3 #[.slice Z zn zc] w fun e w' => e = .returned (.bool true) ∧ Below w.heap.size w w' := by
  have hnew := new_c Z zn zc zs w hz
  clear hz
  go_enter Tryz.func3, Tryz.ntmps3
  go_wp2_with fail
  refine hnew.mono ?_
  rintro e w1 ⟨b, g, rfl, htp, hb0, hg0, hb1⟩
  have hz1 := hb1.size
  have hlt := htp.lt
  have hltg := htp.ltg
  clear hnew
  go_wp2_with fail
  obtain ⟨z, w2, ez, ew, H2⟩ := (HS.start w1).alloc_ex #[.string ⟨#[97]⟩, .string ⟨#[98]⟩, .string ⟨#[99]⟩] 9
  (try rw [ez]); (try rw [ew])
  have h12 := H2.old pkQ
  have B := H2.box (z := z) pkQ
  clear ew H2
  have hz12 := h12.size
  refine (tformula b g 3 w2 (by omega) (htp.step h12)).mono ?_
  rintro e w3 ⟨s, rfl, hf, ht3, hg3⟩
  have hz3 := hg3.size
  have hbw2 : Below w.heap.size w w2 := below_step h12 hb1 (Nat.le_refl _)
  have hbw3 : Below w.heap.size w w3 := hbw2.grown hg3 (by omega) (fun k hk => by injection hk with hk; omega)
  have hL := rowOf_boxM (f := fun l => [strV l]) (l := leftM) (n := 3) (B.grownM hg3 (fun h => by injection h with h; omega)) rfl rfl
  have hsl : s.length ≤ 1000 := Nat.le_trans hf.short (lenF_le 3 (by omega))
  obtain ⟨hq1, hq2⟩ := formula_law hf (by decide) leftM []
  have hP1 := pexpr_c ⟨s.toArray⟩ (DA := none) (lc := 3) (rc := 0) (left := leftM) (right := []) w3 (by show s.toArray.size ≤ _; simp; omega) (GE.below hE hbw3) hL RowOf.nil_ (by decide) (by decide)
  obtain ⟨u1, hu1, a1⟩ := add_ex [40, 32, 40, 32] s (by simp; omega)
  obtain ⟨u2, hu2, a2⟩ := add_ex u1 [32, 41, 32, 41] (by rw [hu1]; simp; omega)
  have hP2 := fun w4 (hb : Below w3.heap.size w3 w4) => pexpr_c ⟨u2.toArray⟩ (DA := none) (lc := 3) (rc := 0) (left := leftM) (right := []) w4 (by show u2.toArray.size ≤ _; rw [hu2, hu1]; simp; omega) (GE.below hE (below_step hb hbw3 (Nat.le_refl _))) ((hL.below hb).more hb.size) RowOf.nil_ (by decide) (by decide)
  rw [← hu1, ← hu2] at hq1 hq2
  rw [show (⟨s.toArray⟩ : ByteArray).data.toList = s from rfl] at hP1
  rw [show (⟨u2.toArray⟩ : ByteArray).data.toList = u2 from rfl] at hP2
  generalize pexprO s leftM [] = r1 at hP1 hq1 hq2
  generalize pexprO u2 leftM [] = r2 at hP2 hq1 hq2
  obtain ⟨es, i1, ec⟩ := r1
  obtain ⟨es2, i2, ec2⟩ := r2
  dsimp only at hq1 hq2
  obtain rfl := hq1
  have HQ := Lib.hid hq2
  unfold PxPost at hP1 hP2
  dsimp only at hP1 hP2
  clear hq2 hf hu1 hu2 hL B hb1 ez
  have hAw := fun w9 (hb : Below w.heap.size w w9) => awake5_c w9 (GE.below hE hb)
  by_cases h0 : ec2 = 0
  · subst h0
    obtain rfl := HQ.out rfl
    clear HQ
    go_wp2_with fail
    refine hP1.mono ?_
    rintro e w4 ⟨v1, rfl, own1, hb4⟩
    obtain ⟨A1, c1, rfl, k1, k2⟩ := own_slice own1
    go_wp2_with fail
    refine (hP2 _ hb4).mono ?_
    rintro e w5 ⟨v2, rfl, own2, hb5⟩
    obtain ⟨A2, c2, rfl, k3, k4⟩ := own_slice own2
    go_wp2_with fail
    have hbw5 : Below w.heap.size w w5 := below_step hb5 (below_step hb4 hbw3 (Nat.le_refl _)) (Nat.le_refl _)
    have hz4 := hb4.size
    have hz5 := hb5.size
    have ht5 := (ht3.step hb4).step hb5
    have own3 := own_below own1 hb5
    refine (trow b g 3 w5 (by omega) ht5).mono ?_
    rintro e w6 ⟨o6, vs, rfl, own6, hok6, hvl, ht6, hg6⟩
    obtain ⟨A6, c6, rfl, k5, k6⟩ := own_slice own6
    have hz6 := hg6.size
    have hbw6 : Below w.heap.size w w6 := hbw5.grown hg6 (by omega) (fun k hk => by injection hk with hk; omega)
    have R1 : RowT w6 w6.heap.size A1 es2.length es2 := RowOf.of_own (own_tape own3 hg6 (by omega)) rfl
    have R2 : RowT w6 w6.heap.size A2 es2.length es2 := RowOf.of_own (own_tape own2 hg6 (by omega)) rfl
    have RV : Row w6 w6.heap.size A6 vs.length vs := RowOf.of_own own6 rfl
    have hm : maxLen = 4503599627370496 ∨ True := .inr trivial
    have hS := rsame A1 A2 es2.length c1 c2 es2 w6 (by omega) R1 R2
    have hV1 := fun w8 (hb : Below w6.heap.size w6 w8) => xeval A1 A6 es2.length c1 vs.length c6 es2 vs w8 (by omega) (by omega) ((R1.below hb).more hb.size) ((RV.below hb).more hb.size)
    have hV2 := fun w8 (hb : Below w6.heap.size w6 w8) => xeval A2 A6 es2.length c2 vs.length c6 es2 vs w8 (by omega) (by omega) ((R2.below hb).more hb.size) ((RV.below hb).more hb.size)
    generalize evalE es2 vs = ev at hV1 hV2
    have heq := eqV_self ev
    clear hP1 hP2 own1 own2 own3 own6 R1 R2 RV hm hok6
    go_wp2_with fail
    refine hS.mono ?_
    rintro e w7 ⟨rfl, hb7⟩
    go_wp2_with fail
    refine (hV1 _ hb7).mono ?_
    rintro e w8 ⟨rfl, hb8⟩
    have hb68 : Below w6.heap.size w6 w8 := below_step hb8 hb7 (Nat.le_refl _)
    go_wp2_with fail
    refine (hV2 _ hb68).mono ?_
    rintro e w9 ⟨rfl, hb9⟩
    have hbw9 : Below w.heap.size w w9 := below_step (below_step hb9 hb68 (Nat.le_refl _)) hbw6 (Nat.le_refl _)
    go_wp2_with fail
    refine (hAw _ hbw9).mono ?_
    rintro e w10 ⟨rfl, hb10⟩
    go_wp2_with fail
    go_ret
    exact ⟨rfl, below_step hb10 hbw9 (Nat.le_refl _)⟩
  · have t1 : (ec2 != 0) = true := by simpa using h0
    have t2 : (ec2 == 0) = false := by simpa using h0
    clear HQ
    go_wp2_with fail
    refine hP1.mono ?_
    rintro e w4 ⟨v1, rfl, own1, hb4⟩
    obtain ⟨A1, c1, rfl, k1, k2⟩ := own_slice own1
    go_wp2_with fail
    refine (hP2 _ hb4).mono ?_
    rintro e w5 ⟨v2, rfl, own2, hb5⟩
    obtain ⟨A2, c2, rfl, k3, k4⟩ := own_slice own2
    have hbw5 : Below w.heap.size w w5 := below_step hb5 (below_step hb4 hbw3 (Nat.le_refl _)) (Nat.le_refl _)
    go_wp2_with fail
    refine (hAw _ hbw5).mono ?_
    rintro e w10 ⟨rfl, hb10⟩
    go_wp2_with fail
    go_ret
    exact ⟨rfl, below_step hb10 hbw5 (Nat.le_refl _)⟩
open Go.ChangeShapes Go.WideShapes Go.ChangeAt
def laid5 : List (String × DataW Unit) := laid3 ++ [("strconv.ErrRange", Rows.laid_strconv_ErrRange), ("strconv.ErrSyntax", Rows.laid_strconv_ErrSyntax)]
theorem trod_err {H : Type} {enc : TypeId × Value → H} {W : World} {base : Nat} {sp : Nat → Bool} {held : Bool} {fuel : Nat} {cs : List Value} {x : DataW H × List MemPlace} (h : DataW.trod enc Tryz.prog W base sp held fuel 184 cs = some x) : ∃ ev, cs = [ev] ∧ (ev = .nilIface ∨ ∃ te pe, ev = .iface te pe) := by
  have hu := Tryz.underlying184
  cases fuel with
  | zero => simp [DataW.trod] at h
  | succ n =>
    unfold DataW.trod at h
    rw [hu] at h
    split at h <;> simp_all
theorem e_of_laid5 {W : World} (h : laidMetH Tryz.prog laid5 W) : GE W := by
  have h2 := laidMetH.filter (fun x => x.1 == "strconv.ErrRange") h
  have h3 : laidMet Tryz.prog [("strconv.ErrRange", Rows.laid_strconv_ErrRange)] W := by
    have e : laid5.filter (fun x => x.1 == "strconv.ErrRange") = [("strconv.ErrRange", Rows.laid_strconv_ErrRange)] := rfl
    rw [e] at h2
    exact (laidMetH_iff.1 h2).1
  obtain ⟨ps, ⟨g1, t1, cs1, f1, p1, q1, hg1, ht1, hv1, hd1, _, _⟩, _, _⟩ := h3
  obtain rfl := Option.some.inj ((show Tryz.prog.globalNamed "strconv.ErrRange" = some 5 by kernel_rfl).symm.trans hg1)
  obtain rfl := Option.some.inj ((show (Tryz.prog.globals[5]?).map (·.type) = some 184 by kernel_rfl).symm.trans ht1)
  obtain ⟨ev, hcs, hev⟩ := trod_err hd1
  have hc := World.var?_cell hg1 hv1 0
  rw [Array.eq_one_of_toList hcs] at hc
  have hc' : W.cell? ⟨5, 0, none⟩ = some ev := by simpa using hc
  refine ⟨?_, ev, hc', hev⟩
  rcases Nat.lt_or_ge 5 W.heap.size with hl | hl
  · exact hl
  · simp [World.cell?, Array.getElem?_eq_none hl] at hc'
noncomputable def doorWorld (os : Os) : World := World.doorLaid Tryz.prog 3000 os
open Go.Deep
theorem bytesInt : Tryz.prog.bytesOf 3 = 8 := by kernel_rfl
section
variable {H : Type} {enc : TypeId × Value → H} {w : World} {base : Nat} {spare : Nat → Bool} {held : Bool} {fuel : Nat}
theorem open_intsR {A : Option Addr} {n c : Nat} {x : DataW H × List MemPlace} (h : DataW.trod enc Tryz.prog w base spare held fuel 22 [.slice A n c] = some x) :
    ∃ zs : List Int, (∀ (ts : List TypeId) (ds : List (DataW H)) (j : Nat), (DataW.weightsEach Tryz.prog ts ds).all (· ≤ reachBytes) = true → ts[j]? = some 22 → ds[j]? = some x.1 → IntsR w A n c zs) := by
  rcases open_ints Tryz.underlying22 Tryz.underlying3 cellsInt h with ⟨hcs, _⟩ | ⟨a, l, cp, zs, hcs, _, hl, hm, hz, hx, hcell, _⟩
  · simp at hcs
    obtain ⟨rfl, rfl, rfl⟩ := hcs
    exact ⟨[], fun _ _ _ _ _ _ => ⟨rfl, fun _ => ⟨rfl, rfl⟩, by omega, fun h0 => absurd rfl h0⟩⟩
  · simp at hcs
    obtain ⟨rfl, rfl, rfl⟩ := hcs
    have hzl : n ≤ zs.length := by rw [hz]; split <;> omega
    refine ⟨zs.take n, fun ts ds j hsz ht hd => ?_⟩
    have hb : n ≤ 17592186044416 := by
      have := sized_slice hsz ht (by rw [hd, hx]) Tryz.underlying22
      rw [bytesInt] at this
      simp only [lits, List.length_map, List.length_take, List.length_drop] at this
      have h2 : reachBytes < 2 ^ 47 := reachBytes_lt
      omega
    refine ⟨by simp; omega, (fun e => by cases e), hb, fun hne => ?_⟩
    have hpos : 0 < n := by
      rcases Nat.eq_zero_or_pos n with h0 | h0
      · subst h0; simp [icells] at hne
      · exact h0
    obtain ⟨b, off, spot⟩ := a
    have hc0 := hcell 0 (by omega)
    have hspot : spot = none := by simpa [Addr.add] using World.cell?_spot hc0
    subst hspot
    refine ⟨b, off, rfl, by simpa [Addr.add] using cell_lt hc0, fun j u hu => ?_⟩
    have hj : j < (zs.take n).length := by
      have := (List.getElem?_eq_some_iff.1 hu).1
      simpa [icells] using this
    have hjz : j < zs.length := by simp at hj; omega
    have := hcell j hjz
    rw [addr_add] at this
    rw [this, ← hu]
    simp only [icells, List.getElem?_map, List.getElem?_eq_getElem hj, List.getElem_take, Option.map_some, List.getD, List.getElem?_eq_getElem hjz, Option.getD_some]
end
end Go.Proofs.YtpnfbehbheddeaaGreatDoor
