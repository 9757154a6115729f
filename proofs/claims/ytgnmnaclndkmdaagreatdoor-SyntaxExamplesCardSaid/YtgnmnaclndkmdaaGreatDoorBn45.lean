/- Example 2 of the chapter, by evaluation: plain Lean. Contracts of the reference's Substitute, and of Same where both are equal. The walk of the law SyntaxExamples; where the table of powers of ten is as it is laid and the variable ErrRange can be read. What the rows' lists with the two errors give, and a world that meets them. No condition. -/
import Derived.Test.YtgnmnaclndkmdaaGreatDoorBn16
import Derived.Test.YtgnmnaclndkmdaaGreatDoorBn40
import Derived.Test.YtgnmnaclndkmdaaGreatDoorBn11
import Derived.Test.YtgnmnaclndkmdaaGreatDoorBn09
import Derived.Test.YtgnmnaclndkmdaaGreatDoorBn06
import Derived.Test.YtgnmnaclndkmdaaGreatDoorBn02
import Derived.Test.YtgnmnaclndkmdaaGreatDoorBn19
import Derived.Test.YtgnmnaclndkmdaaGreatDoorBn32
import Derived.Test.YtgnmnaclndkmdaaGreatDoorBn08
import Derived.Test.YtgnmnaclndkmdaaGreatDoorBn44
import Derived.Test.YtgnmnaclndkmdaaGreatDoorBn01
import Derived.Test.YtgnmnaclndkmdaaGreatDoorBn14
import Derived.LaidMore
import Derived.LaidOnce
namespace Go.Proofs.YtgnmnaclndkmdaaGreatDoor

def src0 : Bs := [45, 32, 49, 32, 43, 32, 97, 32, 42, 32, 50, 32, 60, 61, 32, 114, 105, 103, 104, 116, 46, 98]
def want0 : Bs := [110, 111, 116, 32, 40, 32, 114, 105, 103, 104, 116, 32, 46, 32, 98, 32, 60, 32, 40, 32, 40, 32, 45, 32, 49, 32, 41, 32, 43, 32, 40, 32, 97, 32, 42, 32, 50, 32, 41, 32, 41, 32, 41]
def es0 : List T := [⟨13, V.null, 0⟩, ⟨12, V.null, 0⟩, ⟨2, V.null, 1⟩, ⟨4, V.null, 0⟩, ⟨1, ⟨1, -1, ⟨#[]⟩⟩, 0⟩, ⟨6, V.null, 0⟩, ⟨2, V.null, 0⟩, ⟨1, ⟨1, 2, ⟨#[]⟩⟩, 0⟩]
def x0 : X := .node ⟨13, V.null, 0⟩ [.node ⟨12, V.null, 0⟩ [.node ⟨2, V.null, 1⟩ [], .node ⟨4, V.null, 0⟩ [.node ⟨1, ⟨1, -1, ⟨#[]⟩⟩, 0⟩ [], .node ⟨6, V.null, 0⟩ [.node ⟨2, V.null, 0⟩ [], .node ⟨1, ⟨1, 2, ⟨#[]⟩⟩, 0⟩ []]]]]
theorem parse_0 : pexprO src0 [[97]] [[98]] = (es0, 0, 0) := by kernel_rfl
theorem flat_0 : es0 = x0.flat := by kernel_rfl
theorem wf_0 : x0.wf = true := by decide +kernel
theorem valid_0 : validE es0 = true := by
  have h := treeE_flat (x := x0) (by decide +kernel) wf_0 (by decide +kernel)
  rw [← flat_0] at h
  unfold treeE at h
  split at h
  · assumption
  · cases h
theorem cols_0 : ∀ t ∈ x0.flat, t.op = 2 → t.c < ((1 + 1 : Nat) : Int) := fun t ht => by
  have h := List.all_eq_true.1 (show x0.flat.all (fun t => decide (t.op = 2 → t.c < 2)) = true by decide +kernel) t ht
  exact fun h2 => (of_decide_eq_true h) h2
theorem names_0 : ∀ c ∈ colsA es0, 0 ≤ c ∧ c < ((1 + 1 : Nat) : Int) ∧ isNameB (colName [[97]] [[98]] c.toNat) = true := fun c hc => by
  have h := List.all_eq_true.1 (show (colsA es0).all (fun c => decide (0 ≤ c) && (decide (c < 2) && isNameB (colName [[97]] [[98]] c.toNat))) = true by decide +kernel) c hc
  simpa using h
theorem short_0 : ∀ c, (colName [[97]] [[98]] c).length ≤ 1000000 := fun c => by rcases c with _ | _ | c <;> simp [colName]
theorem few_0 : (colsA es0).length ≤ 1000 := by decide +kernel
theorem len_0 : (x0.wr [[97]] [[98]]).length ≤ 100000 := by decide +kernel
theorem texts_0 : ∀ t ∈ x0.wr [[97]] [[98]], t.text.length ≤ 100000 := fun t ht => by
  have h := List.all_eq_true.1 (show (x0.wr [[97]] [[98]]).all (fun t => decide (t.text.length ≤ 100000)) = true by decide +kernel) t ht
  simpa using h
theorem join_0 : joinK (x0.wr [[97]] [[98]]) = want0 := by decide +kernel
end Go.Proofs.YtgnmnaclndkmdaaGreatDoor
namespace Go.Proofs.YtgnmnaclndkmdaaGreatDoor
open Go.RowKit

theorem standT : Tryz.prog.stoodInHeld 31 = false := by kernel_rfl
theorem neqT_self (t : T) (w : World) : (binOp .neq 31 (.agg #[.int .i64 t.op, .int .i64 t.v.k, .int .i64 t.v.n, .string t.v.s, .int .i64 t.c]) (.agg #[.int .i64 t.op, .int .i64 t.v.k, .int .i64 t.v.n, .string t.v.s, .int .i64 t.c])).run Tryz.prog w = .ok (.bool false) w := by
  have hu := Tryz.underlying31
  have hu2 := Tryz.underlying28
  have h1 := standT
  have h2 := standV
  simp [go_sem, h1, h2, hu, hu2]
set_option maxRecDepth 100000 in
set_option maxHeartbeats 1000000 in
theorem rsame (A B : Option Addr) (n c d : Nat) (es : List T) (w : World) (hn : n ≤ maxLen) (hr : RowT w w.heap.size A n es) (hs : RowT w w.heap.size B n es) : Calls Tryz.prog 6 #[.slice A n c, .slice B n d] w fun e w' => e = .returned (.bool true) ∧ Below w.heap.size w w' := by
  unfold maxLen at hn
  have tn : ((n : Int) != (n : Int)) = false := by simp
  go_enter Tryz.func6, Tryz.ntmps6
  go_wp2_with fail
  go_loopw [5] (fun v5 wr => ∃ k : Nat, v5 = .int .i64 (k : Int) ∧ k ≤ n ∧ Below w.heap.size w wr) (fun v5 _ => n - (intOf v5).toNat)
  case atStart => exact ⟨0, rfl, by omega, by (repeat (first | (with_reducible exact Below.refl _ _) | (with_reducible assumption) | (with_reducible refine Below.drew ?_) | (with_reducible refine below_drewN ?_ _) | ((with_reducible refine Below.setCell ?_ ?_ _); rotate_left; (focus (first | (simp; done) | (simp; omega) | omega))) | ((with_reducible refine Below.alloc ?_ ?_ _); rotate_left; (focus (first | (simp; done) | (simp; omega) | omega))) | ((with_reducible apply below_step1); (focus (with_reducible assumption)))))⟩
  case round =>
    obtain ⟨k, rfl, hk, hbel⟩ := hrel
    have hzz := hbel.size
    by_cases hlt : k < n
    · have h1 : (k : Int) < (n : Int) := by omega
      have h0 : (0 : Int) ≤ (k : Int) := by omega
      have hkw : IntKind.i64.wrap ((k : Int) + 1) = (k : Int) + 1 := IntWalk.i64_in _ (by omega)
      obtain ⟨b, off, t, rfl, hb, ht, c0, c1, c2, c3, c4⟩ := RowT.at5 (hr.to hbel) hlt
      obtain ⟨b', off', t', rfl, hb', ht', d0, d1, d2, d3, d4⟩ := RowT.at5 (hs.to hbel) hlt
      obtain rfl := Option.some.inj (ht.symm.trans ht')
      have hneq := neqT_self t
      clear ht ht'
      go_wp2_with fail
      go_quiet (fail)
      go_wp2_with fail
      go_roundw
      case rel => exact ⟨k + 1, by go_num, by omega, by (repeat (first | (with_reducible exact Below.refl _ _) | (with_reducible assumption) | (with_reducible refine Below.drew ?_) | (with_reducible refine below_drewN ?_ _) | ((with_reducible refine Below.setCell ?_ ?_ _); rotate_left; (focus (first | (simp; done) | (simp; omega) | omega))) | ((with_reducible refine Below.alloc ?_ ?_ _); rotate_left; (focus (first | (simp; done) | (simp; omega) | omega))) | ((with_reducible apply below_step1); (focus (with_reducible assumption)))))⟩
      case measure => simp [intOf]; omega
    · have h1 : ¬ (k : Int) < (n : Int) := by omega
      go_wp2_with fail
      go_ret
      exact ⟨rfl, by (repeat (first | (with_reducible exact Below.refl _ _) | (with_reducible assumption) | (with_reducible refine Below.drew ?_) | (with_reducible refine below_drewN ?_ _) | ((with_reducible refine Below.setCell ?_ ?_ _); rotate_left; (focus (first | (simp; done) | (simp; omega) | omega))) | ((with_reducible refine Below.alloc ?_ ?_ _); rotate_left; (focus (first | (simp; done) | (simp; omega) | omega))) | ((with_reducible apply below_step1); (focus (with_reducible assumption)))))⟩
end Go.Proofs.YtgnmnaclndkmdaaGreatDoor
namespace Go.Proofs.YtgnmnaclndkmdaaGreatDoor
open Go.RowKit

theorem rowOf_box {α : Type} {f : α → List Value} {w : World} {z : Nat} {cs : Array Value} {te : TypeId} {l : List α} (B : Box w z cs te) (h : cs.toList = l.flatMap f) {n : Nat} (hn : l.length = n) : @RowOf α f w w.heap.size (some ⟨z, 0, none⟩) n l := by
  refine ⟨hn, fun _ => ⟨z, 0, rfl, B.lt, fun j u hu => ?_⟩⟩
  obtain ⟨hc, -⟩ := Box.cells B
  rw [Nat.zero_add, hc j, ← Array.getElem?_toList, h]
  exact hu
set_option maxRecDepth 100000 in
set_option maxHeartbeats 8000000 in
theorem syntaxExamples_w (w : World) (hG : G w) (hE : GE w) : Calls Tryz.prog 3 #[] w fun e w' => e = .returned (.bool true) ∧ Below w.heap.size w w' := by
  have H0 := HS.start w
  obtain ⟨z, w1, ez, ew, H1⟩ := H0.alloc2_ex #[.string ⟨#[97]⟩] 9 #[.string ⟨#[98]⟩] 9
  have hb1 := H1.old (by with_reducible repeat constructor)
  have B1 := H1.box (z := z) (cs := #[.string ⟨#[97]⟩]) (by with_reducible repeat constructor)
  have B2 := H1.box (z := z + 1) (cs := #[.string ⟨#[98]⟩]) (by with_reducible repeat constructor)
  have hP := pexpr_c ⟨src0.toArray⟩ (lc := 1) (rc := 1) (left := [[97]]) (right := [[98]]) w1 (by decide) (GE.below hE hb1) (rowOf_box B1 rfl rfl) (rowOf_box B2 rfl rfl) (by decide) (by decide)
  unfold PxPost at hP
  rw [show (⟨src0.toArray⟩ : ByteArray).data.toList = src0 from rfl, parse_0] at hP
  dsimp only at hP
  rw [show es0.length = 8 from rfl] at hP
  unfold src0 at hP
  have hI1 : ∀ w1, Calls Tryz.prog 5 #[.int .i64 (-1)] w1 fun e w' => e = .returned (.agg #[.int .i64 1, .int .i64 (-1), .string ⟨#[]⟩]) ∧ Below w1.heap.size w1 w' := fun w1 => rint (-1) w1
  have hI2 : ∀ w1, Calls Tryz.prog 5 #[.int .i64 2] w1 fun e w' => e = .returned (.agg #[.int .i64 1, .int .i64 2, .string ⟨#[]⟩]) ∧ Below w1.heap.size w1 w' := fun w1 => rint 2 w1
  have hsz1 := hb1.size
  go_enter Tryz.func3, Tryz.ntmps3
  go_upto_region 2 with (go_at_call 4; refine hP.mono ?_; rintro e w2 ⟨v, rfl, own, hb2⟩; obtain ⟨A, c, rfl, -, -⟩ := own_slice own)
  have hR : RowT w2 w2.heap.size A 8 es0 := RowOf.of_own own rfl
  clear hP own B1 B2 H1 ez ew
  have hbA : Below w.heap.size w w2 := below_step hb2 hb1 (Nat.le_refl _)
  go_upto_region 3 with (first
    | (go_at_call 5; refine (hI1 _).mono ?_; rintro e w3 ⟨rfl, hb3⟩)
    | (go_at_call 5; refine (hI2 _).mono ?_; rintro e w4 ⟨rfl, hb4⟩))
  have H4 := ((HS.start w2).below hb3).below hb4
  obtain ⟨y, w5, ez, ew, H5⟩ := H4.alloc2_ex #[.int .i64 1, .int .i64 (-1), .string ⟨#[]⟩] 28 #[.int .i64 1, .int .i64 2, .string ⟨#[]⟩] 28
  (try rw [ez]); (try rw [ew])
  have dB := HS.box (z := y) H5 (by with_reducible repeat constructor); have dL := Box.lt dB; obtain ⟨hcB, hfB⟩ := Box.cells dB; have d0 := hcB 0; have df0 := hfB 0; have d1 := hcB 1; have df1 := hfB 1; have d2 := hcB 2; have df2 := hfB 2; clear hcB hfB
  have xB := HS.box (z := y + 1) H5 (by with_reducible repeat constructor); have xL := Box.lt xB; obtain ⟨hcB, hfB⟩ := Box.cells xB; have x0 := hcB 0; have xf0 := hfB 0; have x1 := hcB 1; have xf1 := hfB 1; have x2 := hcB 2; have xf2 := hfB 2; clear hcB hfB
  clear H4 hb3 hb4 hI1 hI2
  go_upto_region 4 with fail
  clear ez ew d0 d1 d2 x0 x1 x2 df0 df1 df2 xf0 xf1 xf2 dB dL xB xL
  obtain ⟨u, w6, ez, ew, H6⟩ := H5.alloc_ex #[.int .i64 13, .int .i64 0, .int .i64 0, .string ⟨#[]⟩, .int .i64 0, .int .i64 12, .int .i64 0, .int .i64 0, .string ⟨#[]⟩, .int .i64 0, .int .i64 2, .int .i64 0, .int .i64 0, .string ⟨#[]⟩, .int .i64 1, .int .i64 4, .int .i64 0, .int .i64 0, .string ⟨#[]⟩, .int .i64 0, .int .i64 1, .int .i64 1, .int .i64 (-1), .string ⟨#[]⟩, .int .i64 0, .int .i64 6, .int .i64 0, .int .i64 0, .string ⟨#[]⟩, .int .i64 0, .int .i64 2, .int .i64 0, .int .i64 0, .string ⟨#[]⟩, .int .i64 0, .int .i64 1, .int .i64 1, .int .i64 (2), .string ⟨#[]⟩, .int .i64 0] 31
  (try rw [ez]); (try rw [ew])
  clear ez ew H5
  have B6 := H6.box .here
  have hb26 := H6.old (by with_reducible repeat constructor)
  have hS := rsame A (some ⟨u, 0, none⟩) 8 c 8 es0 w6 (by decide) ((hR.below hb26).more hb26.size) (rowOf_box B6 (by kernel_rfl) rfl)
  have hb6 : Below w.heap.size w w6 := below_step hb26 hbA (Nat.le_refl _)
  have hFm := fun w8 q (hb : Below w2.heap.size w2 w8) (B1 : Box w8 q #[.string ⟨#[97]⟩] 9) (B2 : Box w8 (q + 1) #[.string ⟨#[98]⟩] 9) => formatExpr_ok (w := w8) (tc := c) (ln := 1) (rn := 1) (lc := 1) (rc := 1) (left := [[97]]) (right := [[98]]) ((hR.below hb).more hb.size) (rowOf_box B1 rfl rfl) (rowOf_box B2 rfl rfl) (by decide) (by decide) (by decide) short_0 valid_0 wf_0 flat_0 cols_0 names_0 few_0 len_0 texts_0 (hG.below (below_step hb hbA (Nat.le_refl _)))
  simp only [join_0] at hFm
  unfold SPost at hFm
  have hq : (want0 == [110, 111, 116, 32, 40, 32, 114, 105, 103, 104, 116, 32, 46, 32, 98, 32, 60, 32, 40, 32, 40, 32, 45, 32, 49, 32, 41, 32, 43, 32, 40, 32, 97, 32, 42, 32, 50, 32, 41, 32, 41, 32, 41]) = true := rfl
  have hAw := fun w9 (hb : Below w.heap.size w w9) => awake5_c w9 (GE.below hE hb)
  generalize want0 = wnt at hFm hq
  clear B6
  go_wp2_with (first
    | (go_at_call 6; (with_reducible refine hS.mono ?_); rintro e w7 ⟨rfl, hb7⟩; have H7 := H6.below hb7; obtain ⟨q, w8, eq, ew8, H8⟩ := H7.alloc2_ex #[.string ⟨#[97]⟩] 9 #[.string ⟨#[98]⟩] 9; have B1 := H8.box (z := q) (cs := #[.string ⟨#[97]⟩]) (by with_reducible repeat constructor); have B2 := H8.box (z := q + 1) (cs := #[.string ⟨#[98]⟩]) (by with_reducible repeat constructor); have hb28 := H8.old (by with_reducible repeat constructor))
    | (go_at_call 7; (with_reducible refine (hFm w8 q hb28 B1 B2).mono ?_); rintro e w9 ⟨rfl, hb9⟩; have hbw : Below w.heap.size w w9 := below_step hb9 (below_step hb28 hbA (Nat.le_refl _)) (Nat.le_refl _))
    | (go_at_call 8; (with_reducible refine (hAw _ hbw).mono ?_); rintro e w10 ⟨rfl, hb10⟩))
  go_ret
  exact ⟨rfl, below_step hb10 hbw (Nat.le_refl _)⟩
end Go.Proofs.YtgnmnaclndkmdaaGreatDoor
namespace Go.Proofs.YtgnmnaclndkmdaaGreatDoor
open Go.ChangeShapes Go.WideShapes Go.ChangeAt Go.RowKit

def laid5 : List (String × DataW Unit) := laid3 ++ [("strconv.ErrRange", Rows.laid_strconv_ErrRange), ("strconv.ErrSyntax", Rows.laid_strconv_ErrSyntax)]
theorem g_of_laid5 {W : World} (h : laidMetH Tryz.prog laid5 W) : G W := pow_of rfl h
set_option maxRecDepth 100000 in
theorem trod_err {H : Type} {enc : TypeId × Value → H} {W : World} {base : Nat} {sp : Nat → Bool} {held : Bool} {fuel : Nat} {cs : List Value} {x : DataW H × List MemPlace} (h : DataW.trod enc Tryz.prog W base sp held fuel 129 cs = some x) : ∃ ev, cs = [ev] ∧ (ev = .nilIface ∨ ∃ te pe, ev = .iface te pe) := by
  have hu := Tryz.underlying129
  cases fuel with
  | zero => simp [DataW.trod] at h
  | succ n =>
    unfold DataW.trod at h
    rw [hu] at h
    split at h <;> simp_all
theorem e_of_laid5 {W : World} (h : laidMetH Tryz.prog laid5 W) : GE W := by
  have h2 := laidMetH.filter (fun x => x.1 == "strconv.ErrRange") h
  have h3 : laidMet Tryz.prog [("strconv.ErrRange", Rows.laid_strconv_ErrRange)] W := by
    have e : laid5.filter (fun x => x.1 == "strconv.ErrRange") = [("strconv.ErrRange", Rows.laid_strconv_ErrRange)] := rfl
    rw [e] at h2
    exact (laidMetH_iff.1 h2).1
  obtain ⟨ps, ⟨g1, t1, cs1, f1, p1, q1, hg1, ht1, hv1, hd1, _, _⟩, _, _⟩ := h3
  obtain rfl := Option.some.inj ((show Tryz.prog.globalNamed "strconv.ErrRange" = some 5 by kernel_rfl).symm.trans hg1)
  obtain rfl := Option.some.inj ((show (Tryz.prog.globals[5]?).map (·.type) = some 129 by kernel_rfl).symm.trans ht1)
  obtain ⟨ev, hcs, hev⟩ := trod_err hd1
  have hc := World.var?_cell hg1 hv1 0
  rw [Array.eq_one_of_toList hcs] at hc
  have hc' : W.cell? ⟨5, 0, none⟩ = some ev := by simpa using hc
  refine ⟨?_, ev, hc', hev⟩
  rcases Nat.lt_or_ge 5 W.heap.size with hl | hl
  · exact hl
  · simp [World.cell?, Array.getElem?_eq_none hl] at hc'
noncomputable def doorWorld (os : Os) : World := World.doorLaid Tryz.prog 3000 os
end Go.Proofs.YtgnmnaclndkmdaaGreatDoor
