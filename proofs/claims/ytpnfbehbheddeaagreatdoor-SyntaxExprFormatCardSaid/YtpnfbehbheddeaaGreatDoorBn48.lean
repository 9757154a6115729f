/- Contract of FormatExpr for valid expressions whose columns have names. The table of powers of ten is as it is laid. The program's FormatExpr for any expression and any names: no tree, or a column without a name, gives the empty text. Rows of at most 1000 terms. The table of powers of ten is as it is laid. The reference's named and FormatExpr, for rows of at most 1000 terms and names of at most 1000000 bytes. How a row of strings that came in is opened. No condition. -/
import Derived.Test.YtpnfbehbheddeaaGreatDoorBn47
import Derived.Test.YtpnfbehbheddeaaGreatDoorBn34
import Derived.Test.YtpnfbehbheddeaaGreatDoorBn42
import Derived.Test.YtpnfbehbheddeaaGreatDoorBn46
import Derived.Test.YtpnfbehbheddeaaGreatDoorBn16
import Derived.Test.YtpnfbehbheddeaaGreatDoorBn01
import Derived.Test.YtpnfbehbheddeaaGreatDoorBn09
namespace Go.Proofs.YtpnfbehbheddeaaGreatDoor
set_option maxRecDepth 100000
set_option maxHeartbeats 8000000
set_option linter.unusedVariables false
set_option linter.unusedSimpArgs false
open Go.RowKit
theorem idle_FormatExpr (w : World) : CallsD Tryz.prog 30 #[] .returning w fun e u' w' => e = .returned (.tuple #[]) ∧ u' = .returning ∧ w' = w := by
  refine callsD_of_wpS Tryz.func30 rfl fun c₀ cs hu => ?_
  apply wpS_region
  cases c₀
  simp_all [wpOpsS, go_sem, recoverD, Tryz.ntmps30, bodyPostS, results, Tryz.results30]
theorem formatExpr_ok {w : World} {tn tc ln lc rn rc : Nat} {TA LA DA : Option Addr} {es : List T} {left right : List Bs} {x : X} (hT : RowT w w.heap.size TA tn es) (hl : RowB w w.heap.size LA ln left) (hr : RowB w w.heap.size DA rn right) (htn : tn ≤ 1000) (hln : ln ≤ 1000000) (hrn : rn ≤ 1000000) (hnm : ∀ c, (colName left right c).length ≤ 1000000)
    (hv : validE es = true) (hw : x.wf = true) (hx : es = x.flat) (hcol : ∀ t ∈ x.flat, t.op = 2 → t.c < ((ln + rn : Nat) : Int)) (hcl : ∀ c ∈ colsA es, 0 ≤ c ∧ c < ((ln + rn : Nat) : Int) ∧ isNameB (colName left right c.toNat) = true) (hn : (colsA es).length ≤ 1000) (hlen : (x.wr left right).length ≤ 100000) (htx : ∀ t ∈ x.wr left right, t.text.length ≤ 100000) (hG : G w) :
    Calls Tryz.prog 14 #[.slice TA tn tc, .slice LA ln lc, .slice DA rn rc] w (SPost w (joinK (x.wr left right))) := by
  have hV := xvalidE TA tn tc es w (by unfold maxLen; omega) hT
  rw [hv] at hV
  have hC := fun w1 (hb : Below w.heap.size w w1) => xcolumns TA tn tc es w1 (by unfold maxLen; omega) ((hT.below hb).more hb.size)
  rw [show colsV es = colsA es by unfold colsV; rw [if_pos hv]] at hC
  unfold ClPost at hC
  have hE := fun w1 wb l l' (H : HS w1 (wA wb [] :: l)) (ho : Pick l (oldA w) l') => expression_w (tc := tc) (lc := lc) (rc := rc) hT hl hr htn hln hrn hnm hw hx hcol (L := []) (by simp; omega) H ho
  rw [List.nil_append] at hE
  have hN := fun w1 (hb : Below w.heap.size w w1) (m : Nat) (hm : m < ln + rn) => columnName_c (lc := lc) (rc := rc) m ((hl.below hb).more hb.size) ((hr.below hb).more hb.size) hln hrn hm
  have hI := fun w1 (m : Nat) => xisName ⟨(colName left right m).toArray⟩ w1 (by show (colName left right m).toArray.size ≤ _; have := hnm m; simp; omega)
  dsimp only at hI
  have hJ := fun w1 A c (hr : RowK w1 w1.heap.size A (x.wr left right).length (x.wr left right)) (hG : G w1) => xjoin A (x.wr left right).length c (x.wr left right) w1 hlen hr htx hG
  unfold SPost at hJ ⊢
  have HCL := Lib.hid hcl
  have hsum : IntKind.i64.wrap ((ln : Int) + (rn : Int)) = ((ln + rn : Nat) : Int) := by rw [IntWalk.i64_in _ (by omega)]; omega
  generalize colsA es = cs at hC HCL hn
  have HG := Lib.hid hG
  have HH := HS.start w
  clear hT hl hr hnm hv hw hx hcol hcl hlen htx hG
  go_enter_defers Tryz.func14, Tryz.ntmps14
  go_upto_region 5 with (first
    | (go_at_call 26; (with_reducible refine hV.mono ?_); rintro e w1 ⟨rfl, hb1⟩)
    | (go_at_call 31; (with_reducible refine (hC _ hb1).mono ?_); rintro e w2 ⟨A, c, rfl, hR, -, hb2⟩))
  have hb : Below w.heap.size w w2 := by (exact belQ)
  clear hV hC
  go_loopw [16] (fun v16 wr => ∃ i : Nat, v16 = .int .i64 (i : Int) ∧ i ≤ cs.length ∧ wr = w2) (fun v16 _ => cs.length - (intOf v16).toNat)
  case atStart => exact ⟨0, rfl, by omega, rfl⟩
  case round =>
    obtain ⟨i, rfl, hi, rfl⟩ := hrel
    by_cases hlt : i < cs.length
    · have h1 : (i : Int) < (cs.length : Int) := by omega
      have h0 : (0 : Int) ≤ (i : Int) := by omega
      obtain ⟨b, off, z, rfl, hbb, hz, hcell⟩ := RowI.at1 hR hlt
      obtain ⟨hz0, hz1, hz2⟩ := HCL.out z (List.mem_of_getElem? hz)
      obtain ⟨m, rfl⟩ : ∃ m : Nat, z = (m : Int) := ⟨z.toNat, by omega⟩
      rw [Int.toNat_natCast] at hz2
      have hm : m < ln + rn := by omega
      have hN2 := hN wr hb m hm
      have hI2 := fun w1 => hI w1 m
      rw [hz2] at hI2
      have h2 : ¬ ((ln + rn : Nat) : Int) ≤ (m : Int) := by omega
      generalize colName left right m = nm at hN2 hI2
      clear hz hz0 hz1 hz2 hm hR
      go_wp2_with (first
        | (go_at_call 33; (with_reducible refine hN2.mono ?_); rintro e w3 ⟨rfl, rfl⟩)
        | (go_at_call 32; (with_reducible refine (hI2 _).mono ?_); rintro e w4 ⟨rfl, rfl⟩))
      go_roundw
      case rel => exact ⟨i + 1, by go_num, by omega, trivial⟩
      case measure => simp [intOf]; omega
    · obtain rfl : i = cs.length := by omega
      have h1 : ¬ (cs.length : Int) < (cs.length : Int) := by omega
      have H3 := (HH.below hb).wNew
      have hE2 := hE _ _ _ _ H3 .here
      clear hR hE hN hI HCL hlt
      go_upto_region 12 with (go_at_call 34; refine hE2.mono ?_; rintro e w4 ⟨rfl, H4⟩)
      obtain ⟨TA2, c2, H5⟩ := H4.wOpen (wb := wr.heap.size) pkQ
      obtain ⟨dB, dL, hcB⟩ := HS.get (z := wr.heap.size) H5; obtain ⟨d0, df0⟩ := hcB 0; clear hcB
      have hb5 := H5.old pkQ
      have hJ2 := hJ _ TA2 c2 (RowOf.of_own (H5.row (v := .slice TA2 (x.wr left right).length c2) pkQ) rfl) (HG.out.below hb5)
      go_wp2_with (go_at_call 35; (with_reducible refine hJ2.mono ?_); rintro e w6 ⟨rfl, hb6⟩)
      refine leave_idle idle_FormatExpr (by simp [go_sem]) (by simp [results, Tryz.results14, go_sem]; rfl) ?_
      exact ⟨rfl, below_step hb6 hb5 (Nat.le_refl _)⟩
def goodC (left right : List Bs) (z : Int) : Bool := decide (z < ((left.length + right.length : Nat) : Int)) && isNameB (colName left right z.toNat)
def fmtE (es : List T) (left right : List Bs) : Bs := match treeE es with
  | none => []
  | some x => if (colsA es).all (goodC left right) = true then joinK (x.wr left right) else []
theorem colsA_iff (es : List T) (z : Int) : z ∈ colsA es ↔ ∃ t ∈ es, t.op = 2 ∧ t.c = z := by
  unfold colsA
  rw [(foldl_add (colsL es) [] trivial).2]
  unfold colsL
  simp only [List.not_mem_nil, or_false, List.mem_map, List.mem_filter, beq_iff_eq]
  exact ⟨fun ⟨t, ⟨a, b⟩, c⟩ => ⟨t, a, b, c⟩, fun ⟨t, a, b, c⟩ => ⟨t, ⟨a, b⟩, c⟩⟩
theorem named_cols (es : List T) (left right : List Bs) : (es.all fun t => !(t.op == 2) || goodC left right t.c) = (colsA es).all (goodC left right) := by
  rw [Bool.eq_iff_iff, List.all_eq_true, List.all_eq_true]
  constructor
  · intro h z hz
    obtain ⟨t, h1, h2, rfl⟩ := (colsA_iff es z).1 hz
    have h3 := h t h1
    rw [h2] at h3
    exact h3
  · intro h t ht
    by_cases h2 : t.op = 2
    · rw [h _ ((colsA_iff es t.c).2 ⟨t, ht, h2, rfl⟩), Bool.or_true]
    · rw [beq_eq_false_iff_ne.2 h2]
      rfl
section
variable {es : List T} {left right : List Bs} {x : X} (hx : es = x.flat) (hw : x.wf = true) (h : (colsA es).all (goodC left right) = true)
include hx h
theorem good_term : ∀ t ∈ x.flat, t.op = 2 → t.c < ((left.length + right.length : Nat) : Int) ∧ isNameB (colName left right t.c.toNat) = true := fun t ht h2 => by
  have h3 := List.all_eq_true.1 h t.c ((colsA_iff es t.c).2 ⟨t, hx ▸ ht, h2, rfl⟩)
  unfold goodC at h3
  rw [Bool.and_eq_true, decide_eq_true_eq] at h3
  exact h3
include hw
theorem good_ok : ∀ c ∈ x.cols, okCol left right c := fun c hc => by
  obtain ⟨t, h1, h2, rfl⟩ := (flat_ok _ x (Nat.le_refl _) hw fun _ _ => trivial).2 c hc
  exact (good_term hx h t h1 h2).2
theorem good_cols : ∀ c ∈ colsA es, 0 ≤ c ∧ c < ((left.length + right.length : Nat) : Int) ∧ isNameB (colName left right c.toNat) = true := fun c hc => by
  obtain ⟨t, h1, h2, rfl⟩ := (colsA_iff es c).1 hc
  rw [hx] at h1
  exact ⟨col_pos ((flat_ok _ x (Nat.le_refl _) hw fun _ _ => trivial).1 t h1) h2, good_term hx h t h1 h2⟩
theorem good_lens (hl : es.length ≤ 64) : (x.wr left right).length ≤ 1000 ∧ ∀ t ∈ x.wr left right, t.text.length ≤ 32 := by
  have h1 := wr_count hw (good_ok hx hw h)
  rw [hx] at hl
  exact ⟨by omega, fun t ht => (wr_good hw (good_ok hx hw h) t ht).2.2⟩
end
theorem cols_pos {es : List T} (hv : validE es = true) : ∀ c ∈ colsA es, 0 ≤ c := fun c hc => by
  obtain ⟨x, -, rfl, hw, -⟩ := treeE_ok hv
  obtain ⟨t, h1, h2, rfl⟩ := (colsA_iff _ c).1 hc
  exact col_pos ((flat_ok _ x (Nat.le_refl _) hw fun _ _ => trivial).1 t h1) h2
theorem formatExpr_bad {w : World} {tn tc ln lc rn rc : Nat} {TA LA DA : Option Addr} {es : List T} (hT : RowT w w.heap.size TA tn es) (htn : tn ≤ 1000) (hv : validE es = false) :
    Calls Tryz.prog 14 #[.slice TA tn tc, .slice LA ln lc, .slice DA rn rc] w (SPost w []) := by
  have hV := xvalidE TA tn tc es w (by unfold maxLen; omega) hT
  rw [hv] at hV
  clear hT hv
  go_enter_defers Tryz.func14, Tryz.ntmps14
  go_wp2_with (go_at_call 26; (with_reducible refine hV.mono ?_); rintro e w1 ⟨rfl, hb1⟩)
  refine leave_idle idle_FormatExpr (by simp [go_sem]) (by simp [results, Tryz.results14, go_sem]; rfl) ?_
  exact ⟨rfl, hb1⟩
theorem formatExpr_un {w : World} {tn tc ln lc rn rc : Nat} {TA LA DA : Option Addr} {es : List T} {left right : List Bs} (hT : RowT w w.heap.size TA tn es) (hl : RowB w w.heap.size LA ln left) (hr : RowB w w.heap.size DA rn right) (htn : tn ≤ 1000) (hln : ln ≤ 1000000) (hrn : rn ≤ 1000000) (hnm : ∀ c, (colName left right c).length ≤ 1000000)
    (hv : validE es = true) (hun : (colsA es).all (goodC left right) = false) :
    Calls Tryz.prog 14 #[.slice TA tn tc, .slice LA ln lc, .slice DA rn rc] w (SPost w []) := by
  have hV := xvalidE TA tn tc es w (by unfold maxLen; omega) hT
  rw [hv] at hV
  have hC := fun w1 (hb : Below w.heap.size w w1) => xcolumns TA tn tc es w1 (by unfold maxLen; omega) ((hT.below hb).more hb.size)
  rw [show colsV es = colsA es by unfold colsV; rw [if_pos hv]] at hC
  unfold ClPost at hC
  have hN := fun w1 (hb : Below w.heap.size w w1) (m : Nat) (hm : m < ln + rn) => columnName_c (lc := lc) (rc := rc) m ((hl.below hb).more hb.size) ((hr.below hb).more hb.size) hln hrn hm
  have hI := fun w1 (m : Nat) => xisName ⟨(colName left right m).toArray⟩ w1 (by show (colName left right m).toArray.size ≤ _; have := hnm m; simp; omega)
  dsimp only at hI
  have hpos := Lib.hid (cols_pos hv)
  have hlen : (colsA es).length ≤ 1000 := by
    have h1 := colsA_len es
    have h2 := hT.len
    omega
  have hll := hl.len
  have hrl := hr.len
  have HGC := Lib.hid (show ∀ z : Int, goodC left right z = (decide (z < ((ln + rn : Nat) : Int)) && isNameB (colName left right z.toNat)) from fun z => by unfold goodC; rw [hll, hrl])
  have hsum : IntKind.i64.wrap ((ln : Int) + (rn : Int)) = ((ln + rn : Nat) : Int) := by rw [IntWalk.i64_in _ (by omega)]; omega
  have HUN := Lib.hid hun
  generalize colsA es = cs at hC hpos hlen HUN
  clear hT hl hr hnm hv hun hll hrl
  go_enter_defers Tryz.func14, Tryz.ntmps14
  go_upto_region 5 with (first
    | (go_at_call 26; (with_reducible refine hV.mono ?_); rintro e w1 ⟨rfl, hb1⟩)
    | (go_at_call 31; (with_reducible refine (hC _ hb1).mono ?_); rintro e w2 ⟨A, c, rfl, hR, -, hb2⟩))
  have hb : Below w.heap.size w w2 := by (exact belQ)
  clear hV hC
  go_loopw [16] (fun v16 wr => ∃ i : Nat, v16 = .int .i64 (i : Int) ∧ i ≤ cs.length ∧ wr = w2 ∧ Hid ((cs.take i).all (goodC left right) = true)) (fun v16 _ => cs.length - (intOf v16).toNat)
  case atStart => exact ⟨0, rfl, by omega, rfl, Lib.hid (by simp)⟩
  case round =>
    obtain ⟨i, rfl, hi, rfl, HA⟩ := hrel
    by_cases hlt : i < cs.length
    · have h1 : (i : Int) < (cs.length : Int) := by omega
      have h0 : (0 : Int) ≤ (i : Int) := by omega
      obtain ⟨b, off, z, rfl, hbb, hz, hcell⟩ := RowI.at1 hR hlt
      have hz0 := hpos.out z (List.mem_of_getElem? hz)
      obtain ⟨m, rfl⟩ : ∃ m : Nat, z = (m : Int) := ⟨z.toNat, by omega⟩
      have HT := Lib.hid (show (cs.take (i + 1)).all (goodC left right) = ((cs.take i).all (goodC left right) && goodC left right (m : Int)) by
        rw [List.take_add_one, hz, Option.toList_some, List.all_append]; simp)
      have hg := HGC.out (m : Int)
      rw [Int.toNat_natCast] at hg
      by_cases hm : m < ln + rn
      · have hN2 := hN wr hb m hm
        have hI2 := fun w1 => hI w1 m
        have h2 : ¬ ((ln + rn : Nat) : Int) ≤ (m : Int) := by omega
        rw [show decide ((m : Int) < ((ln + rn : Nat) : Int)) = true from decide_eq_true (by omega), Bool.true_and] at hg
        rw [hg] at HT
        generalize colName left right m = nm at hN2 hI2 HT hg
        clear hg
        cases hq : isNameB nm
        · rw [hq] at hI2
          clear hz hz0 hm hR HT
          go_wp2_with (first
            | (go_at_call 33; (with_reducible refine hN2.mono ?_); rintro e w3 ⟨rfl, rfl⟩)
            | (go_at_call 32; (with_reducible refine (hI2 _).mono ?_); rintro e w4 ⟨rfl, rfl⟩))
          refine leave_idle idle_FormatExpr (by simp [go_sem]) (by simp [results, Tryz.results14, go_sem]; rfl) ?_
          exact ⟨rfl, hb⟩
        · rw [hq] at hI2
          clear hz hz0 hm hR
          go_wp2_with (first
            | (go_at_call 33; (with_reducible refine hN2.mono ?_); rintro e w3 ⟨rfl, rfl⟩)
            | (go_at_call 32; (with_reducible refine (hI2 _).mono ?_); rintro e w4 ⟨rfl, rfl⟩))
          go_roundw
          case rel => exact ⟨i + 1, by go_num, by omega, trivial, Lib.hid (by rw [HT.out, HA.out, hq]; rfl)⟩
          case measure => simp [intOf]; omega
      · have h2 : ((ln + rn : Nat) : Int) ≤ (m : Int) := by omega
        clear hz hz0 hm hR HT hg hN hI
        go_wp2_with fail
        refine leave_idle idle_FormatExpr (by simp [go_sem]) (by simp [results, Tryz.results14, go_sem]; rfl) ?_
        exact ⟨rfl, hb⟩
    · obtain rfl : i = cs.length := by omega
      have h2 := HA.out
      rw [List.take_length, HUN.out] at h2
      cases h2
theorem formatExpr_c {w : World} {tn tc ln lc rn rc : Nat} {TA LA DA : Option Addr} {es : List T} {left right : List Bs} (hT : RowT w w.heap.size TA tn es) (hl : RowB w w.heap.size LA ln left) (hr : RowB w w.heap.size DA rn right) (htn : tn ≤ 1000) (hln : ln ≤ 1000000) (hrn : rn ≤ 1000000) (hnm : ∀ c, (colName left right c).length ≤ 1000000) (hG : G w) :
    Calls Tryz.prog 14 #[.slice TA tn tc, .slice LA ln lc, .slice DA rn rc] w (SPost w (fmtE es left right)) := by
  unfold fmtE
  cases hv : validE es
  · rw [treeE_bad hv]
    exact formatExpr_bad hT htn hv
  · obtain ⟨x, hx, hfl, hw, hd, hl64⟩ := treeE_ok hv
    rw [hx]
    dsimp only
    cases hun : (colsA es).all (goodC left right)
    · rw [if_neg (by simp)]
      exact formatExpr_un hT hl hr htn hln hrn hnm hv hun
    · rw [if_pos rfl]
      have h1 := good_lens hfl hw hun hl64
      have h2 := colsA_len es
      have hll := hl.len
      have hrl := hr.len
      exact formatExpr_ok hT hl hr htn hln hrn hnm hv hw hfl (fun t ht h => by rw [← hll, ← hrl]; exact (good_term hfl hun t ht h).1) (fun c hc => by rw [← hll, ← hrl]; exact good_cols hfl hw hun c hc) (by omega) (by omega) (fun t ht => by have := h1.2 t ht; omega) hG
def namedB (left right : List Bs) (es : List T) : Bool := es.all fun t => !(t.op == 2) || goodC left right t.c
theorem namedB_snoc {left right : List Bs} {es : List T} {i : Nat} {t : T} (h : es[i]? = some t) : namedB left right (es.take (i + 1)) = (namedB left right (es.take i) && (!(t.op == 2) || goodC left right t.c)) := by
  unfold namedB
  rw [List.take_add_one, h, Option.toList_some, List.all_append]
  simp
theorem namedB_not {left right : List Bs} {es : List T} {i : Nat} {t : T} (h : es[i]? = some t) (hg : (!(t.op == 2) || goodC left right t.c) = false) : namedB left right es = false := by
  unfold namedB
  rw [List.all_eq_false]
  exact ⟨t, List.mem_of_getElem? h, by simp [hg]⟩
theorem rnamed_c {w : World} {tn tc ln lc rn rc : Nat} {TA LA DA : Option Addr} {es : List T} {left right : List Bs} (hT : RowT w w.heap.size TA tn es) (hl : RowB w w.heap.size LA ln left) (hr : RowB w w.heap.size DA rn right) (htn : tn ≤ 1000) (hln : ln ≤ 1000000) (hrn : rn ≤ 1000000) (hnm : ∀ c, (colName left right c).length ≤ 1000000)
    (hpos : ∀ t ∈ es, t.op = 2 → 0 ≤ t.c) :
    Calls Tryz.prog 37 #[.slice TA tn tc, .slice LA ln lc, .slice DA rn rc] w fun e w' => e = .returned (.bool (namedB left right es)) ∧ Below w.heap.size w w' := by
  have hI := fun w1 (m : Nat) => risName ⟨(colName left right m).toArray⟩ w1 (by show (colName left right m).toArray.size ≤ _; have := hnm m; simp; omega)
  dsimp only at hI
  have hll := hl.len
  have hrl := hr.len
  have htl := hT.len
  have HGC := Lib.hid (show ∀ z : Int, goodC left right z = (decide (z < ((ln + rn : Nat) : Int)) && isNameB (colName left right z.toNat)) from fun z => by unfold goodC; rw [hll, hrl])
  have HNL := Lib.hid (show ∀ m : Nat, m < ln → ∀ s, left[m]? = some s → colName left right m = s from fun m hm s hs => by unfold colName; rw [if_pos (by omega), List.getD_eq_getElem?_getD, hs]; rfl)
  have HNR := Lib.hid (show ∀ m : Nat, ln ≤ m → ∀ s, right[m - ln]? = some s → colName left right m = s from fun m hm s hs => by unfold colName; rw [if_neg (by omega), List.getD_eq_getElem?_getD, hll, hs]; rfl)
  have hpos := Lib.hid hpos
  have hsum : IntKind.i64.wrap ((ln : Int) + (rn : Int)) = ((ln + rn : Nat) : Int) := by rw [IntWalk.i64_in _ (by omega)]; omega
  have HLN := Lib.hid htl
  clear hnm hll hrl htl
  go_enter Tryz.func37, Tryz.ntmps37
  go_wp2_with fail
  go_loopw [7] (fun v4 wr => ∃ i : Nat, v4 = .int .i64 (i : Int) ∧ i ≤ tn ∧ Hid (namedB left right (es.take i) = true) ∧ Below w.heap.size w wr) (fun v4 _ => tn - (intOf v4).toNat)
  case atStart => exact ⟨0, rfl, by omega, Lib.hid rfl, by (exact belQ)⟩
  case round =>
    obtain ⟨i, rfl, hi, HA, hb⟩ := hrel
    by_cases hlt : i < tn
    · have h1 : (i : Int) < (tn : Int) := by omega
      have h0 : (0 : Int) ≤ (i : Int) := by omega
      have hiw : IntKind.i64.wrap ((i : Int) + 1) = (i : Int) + 1 := IntWalk.i64_in _ (by omega)
      obtain ⟨b, off, t, rfl, hbb, ht, d0, d1, d2, d3, d4⟩ := RowT.at5 ((hT.below hb).more hb.size) hlt
      have HT := Lib.hid (namedB_snoc (left := left) (right := right) ht)
      have HT2 := Lib.hid (fun hg => namedB_not (left := left) (right := right) ht hg)
      by_cases h2 : t.op = 2
      · have z0 := hpos.out t (List.mem_of_getElem? ht) h2
        obtain ⟨m, hm⟩ : ∃ m : Nat, t.c = (m : Int) := ⟨t.c.toNat, by omega⟩
        have hg := HGC.out (m : Int)
        rw [Int.toNat_natCast] at hg
        rw [h2] at d0
        rw [hm] at d4
        have HT := Lib.hid (show namedB left right (es.take (i + 1)) = (namedB left right (es.take i) && goodC left right (m : Int)) by rw [HT.out, h2, hm]; rfl)
        have HT2 := Lib.hid (show goodC left right (m : Int) = false → namedB left right es = false from fun h => HT2.out (by rw [h2, hm]; exact h))
        clear h2 hm z0 ht hpos d1 d2 d3
        by_cases hml : m < ln
        · have h3 : (m : Int) < (ln : Int) := by omega
          have h4 : (0 : Int) ≤ (m : Int) := by omega
          obtain ⟨b2, off2, s, rfl, hb2, hs, hc2⟩ := RowB.at1 ((hl.below hb).more hb.size) hml
          have hI2 := hI wr m
          rw [show decide ((m : Int) < ((ln + rn : Nat) : Int)) = true from decide_eq_true (by omega), Bool.true_and] at hg
          rw [HNL.out m hml s hs] at hI2 hg
          have hg := Lib.hid hg
          clear hs hl hr hT hml hI
          cases hq : isNameB s
          · rw [hq] at hI2
            go_wp2_with (go_at_call 70; (with_reducible refine hI2.mono ?_); rintro e w4 ⟨rfl, rfl⟩)
            go_ret
            exact ⟨ret_bool (HT2.out (hg.out.trans hq)).symm, hb⟩
          · rw [hq] at hI2
            go_wp2_with (go_at_call 70; (with_reducible refine hI2.mono ?_); rintro e w4 ⟨rfl, rfl⟩)
            go_roundw
            case rel => exact ⟨i + 1, by go_num, by omega, Lib.hid (by rw [HT.out, HA.out, hg.out, hq]; rfl), hb⟩
            case measure => simp [intOf]; omega
        · have h3 : ¬ (m : Int) < (ln : Int) := by omega
          by_cases hmr : m < ln + rn
          · have h5 : ¬ ((ln + rn : Nat) : Int) ≤ (m : Int) := by omega
            have hw : IntKind.i64.wrap ((m : Int) - (ln : Int)) = ((m - ln : Nat) : Int) := by rw [IntWalk.i64_in _ (by omega)]; omega
            have h6 : (0 : Int) ≤ ((m - ln : Nat) : Int) := by omega
            have h7 : ((m - ln : Nat) : Int) < (rn : Int) := by omega
            obtain ⟨b2, off2, s, rfl, hb2, hs, hc2⟩ := RowB.at1 ((hr.below hb).more hb.size) (show m - ln < rn by omega)
            have hI2 := hI wr m
            rw [show decide ((m : Int) < ((ln + rn : Nat) : Int)) = true from decide_eq_true (by omega), Bool.true_and] at hg
            rw [HNR.out m (by omega) s hs] at hI2 hg
            have hg := Lib.hid hg
            clear hs hl hr hT hI hml hmr
            cases hq : isNameB s
            · rw [hq] at hI2
              go_wp2_with (go_at_call 70; (with_reducible refine hI2.mono ?_); rintro e w4 ⟨rfl, rfl⟩)
              go_ret
              exact ⟨ret_bool (HT2.out (hg.out.trans hq)).symm, hb⟩
            · rw [hq] at hI2
              go_wp2_with (go_at_call 70; (with_reducible refine hI2.mono ?_); rintro e w4 ⟨rfl, rfl⟩)
              go_roundw
              case rel => exact ⟨i + 1, by go_num, by omega, Lib.hid (by rw [HT.out, HA.out, hg.out, hq]; rfl), hb⟩
              case measure => simp [intOf]; omega
          · have h5 : ((ln + rn : Nat) : Int) ≤ (m : Int) := by omega
            have hg := Lib.hid (show goodC left right (m : Int) = false by rw [hg, show decide ((m : Int) < ((ln + rn : Nat) : Int)) = false from decide_eq_false (by omega)]; rfl)
            clear hl hr hT hI hml hmr
            go_wp2_with fail
            go_ret
            exact ⟨ret_bool (HT2.out hg.out).symm, hb⟩
      · have t2 : (t.op == 2) = false := by simpa using h2
        have t3 : (t.op != 2) = true := by simpa using h2
        have HT := Lib.hid (show namedB left right (es.take (i + 1)) = namedB left right (es.take i) by rw [HT.out, t2]; simp)
        clear h2 ht hpos hl hr hT hI HT2
        go_wp2_with fail
        go_roundw
        case rel => exact ⟨i + 1, by go_num, by omega, Lib.hid (by rw [HT.out, HA.out]), hb⟩
        case measure => simp [intOf]; omega
    · obtain rfl : i = tn := by omega
      have h1 : ¬ (i : Int) < (i : Int) := by omega
      have h2 := HA.out
      rw [← HLN.out, List.take_length] at h2
      have h2 := Lib.hid h2
      clear hl hr hT hI hpos
      go_wp2_with fail
      go_ret
      exact ⟨by first | exact ret_bool h2.out.symm | exact ret_bool rfl, hb⟩
theorem at0_wordsK (l : List Tk) : wordsK (l.map Tk.at0) = wordsK l := by
  induction l with
  | nil => rfl
  | cons a l ih =>
    have h : ∀ (t : Tk) (m : List Tk), wordsK (t :: m) = if tokOk t = true then wordTk t :: wordsK m else wordsK m := fun t m => by
      unfold wordsK
      rw [List.filter_cons]
      split <;> rfl
    rw [List.map_cons, h, h, ih]
    rfl
theorem joinK_same {l m : List Tk} (h : sameTk l m) : joinK l = joinK m := by
  unfold sameTk at h
  unfold joinK
  rw [← at0_wordsK l, h, at0_wordsK]
theorem same_text {l m : List Tk} (h : sameTk l m) {k : Nat} (hm : ∀ t ∈ m, t.text.length ≤ k) : ∀ t ∈ l, t.text.length ≤ k := fun t ht => by
  have h1 : t.at0 ∈ m.map Tk.at0 := by
    rw [← show l.map Tk.at0 = m.map Tk.at0 from h]
    exact List.mem_map_of_mem ht
  obtain ⟨u, h2, h3⟩ := List.mem_map.1 h1
  have h4 := hm u h2
  have h5 : u.at0.text = t.at0.text := congrArg Tk.text h3
  rwa [show u.text = t.text from h5] at h4
theorem cols_named (es : List T) (left right : List Bs) : namedB left right es = (colsA es).all (goodC left right) := named_cols es left right
theorem rformatExpr_c {w : World} {tn tc ln lc rn rc : Nat} {LA DA : Option Addr} {TA : Option Addr} {es : List T} {left right : List Bs} (hT : RowT w w.heap.size TA tn es) (hl : RowB w w.heap.size LA ln left) (hr : RowB w w.heap.size DA rn right) (htn : tn ≤ 1000) (htc : tn ≤ tc) (hcm : tc ≤ maxLen) (hln : ln ≤ 1000000) (hrn : rn ≤ 1000000) (hnm : ∀ c, (colName left right c).length ≤ 1000000) :
    Calls Tryz.prog 15 #[.slice TA tn tc, .slice LA ln lc, .slice DA rn rc] w (SPost w (fmtE es left right)) := by
  have hV := rvalidE TA tn tc es w (by unfold maxLen; omega) hT
  cases hv : validE es
  · rw [hv] at hV
    have HE := Lib.hid (show fmtE es left right = [] by unfold fmtE; rw [treeE_bad hv])
    clear hv hT hl hr hnm
    go_enter Tryz.func15, Tryz.ntmps15
    go_wp2_with (go_at_call 36; refine (hV).mono ?_; rintro e w1 ⟨rfl, hb1⟩; have hz1 := hb1.size; (try simp at hz1))
    go_ret
    unfold SPost
    rw [HE.out]
    exact ⟨rfl, by (exact belQ)⟩
  · rw [hv] at hV
    obtain ⟨x, hx, hfl, hw, hd, hl64⟩ := treeE_ok hv
    have hpos : ∀ t ∈ es, t.op = 2 → 0 ≤ t.c := fun t ht h2 => col_pos ((flat_ok _ x (Nat.le_refl _) hw fun _ _ => trivial).1 t (hfl ▸ ht)) h2
    have hN := fun w1 (hb : Below w.heap.size w w1) => rnamed_c (tc := tc) (lc := lc) (rc := rc) ((hT.below hb).more hb.size) ((hl.below hb).more hb.size) ((hr.below hb).more hb.size) htn hln hrn hnm hpos
    rw [cols_named] at hN
    cases hun : (colsA es).all (goodC left right)
    · rw [hun] at hN
      have HE := Lib.hid (show fmtE es left right = [] by unfold fmtE; rw [hx]; dsimp only; rw [if_neg (by simp [hun])])
      clear hv hT hl hr hnm hun hpos hx hfl hw hd hl64
      go_enter Tryz.func15, Tryz.ntmps15
      go_wp2_with (first
        | (go_at_call 36; refine (hV).mono ?_; rintro e w1 ⟨rfl, hb1⟩; have hz1 := hb1.size; (try simp at hz1))
        | (go_at_call 37; refine (hN _ hb1).mono ?_; rintro e w2 ⟨rfl, hb2⟩; have hz2 := hb2.size; (try simp at hz2)))
      go_ret
      unfold SPost
      rw [HE.out]
      exact ⟨rfl, by (exact belQ)⟩
    · rw [hun] at hN
      have HE := Lib.hid (show fmtE es left right = joinK (x.wr left right) by unfold fmtE; rw [hx]; dsimp only; rw [if_pos hun])
      have hok := good_ok hfl hw hun
      obtain ⟨k1, k2⟩ := good_lens hfl hw hun hl64
      obtain ⟨b, off, rfl⟩ : ∃ b off, TA = some ⟨b, off, none⟩ := by
        obtain ⟨b, off, t, h, _⟩ := RowT.at5 hT (k := 0) (by have := x.flat_pos; rw [← hfl, hT.len] at this; omega)
        exact ⟨b, off, h⟩
      rw [hfl] at hT
      have hTk := fun w1 (H : HS w1 [oldA w]) => rtokens_c (lc := lc) (rc := rc) hl hr hln hrn 16 x b off tn tc w1 [oldA w] [] hd (by omega) hw hok htc hcm htn hT H .here
      have hJ := fun w1 A c ts (hs : sameTk ts (x.wr left right)) (hr : RowK w1 w1.heap.size A ts.length ts) => rjoin A ts.length c ts w1 (by rw [sameTk_len hs]; omega) hr (same_text hs fun t ht => by have := k2 t ht; omega)
      have HJ := Lib.hid (fun ts (hs : sameTk ts (x.wr left right)) => joinK_same hs)
      have HH := HS.start w
      clear hv hT hl hr hnm hun hpos hx hfl hw hd hl64 hok k1 k2
      go_enter Tryz.func15, Tryz.ntmps15
      go_wp2_with (first
        | (go_at_call 36; refine (hV).mono ?_; rintro e w1 ⟨rfl, hb1⟩; have hz1 := hb1.size; (try simp at hz1))
        | (go_at_call 37; refine (hN _ hb1).mono ?_; rintro e w2 ⟨rfl, hb2⟩; have hz2 := hb2.size; (try simp at hz2))
        | (go_at_call 39; refine (hTk _ ((HH.below hb1).below hb2)).mono ?_; rintro e w3 ⟨A3, c3, t3, rfl, s3, H3⟩; have hb3 := H3.old (.there .here))
        | (go_at_call 38; refine (hJ _ A3 c3 t3 s3 (RowOf.of_own (H3.row (v := .slice A3 t3.length c3) pkQ) rfl)).mono ?_; rintro e w4 ⟨rfl, hb4⟩))
      go_ret
      unfold SPost
      rw [HE.out, ← HJ.out t3 s3]
      exact ⟨rfl, below_step hb4 hb3 (Nat.le_refl _)⟩
open Go.ChangeShapes Go.WideShapes Go.Deep
section
variable {H : Type} {enc : TypeId × Value → H} {w : World} {base : Nat} {spare : Nat → Bool} {held : Bool} {fuel : Nat}
theorem open_rowS {A : Option Addr} {n c : Nat} {x : DataW H × List MemPlace} (h : DataW.trod enc Tryz.prog w base spare held fuel 25 [.slice A n c] = some x) : n ≤ maxLen ∧ ∃ ss, RowS w w.heap.size A n ss := by
  rcases open_slice Tryz.underlying25 h with ⟨h0, _⟩ | ⟨a, len, cap, m, n', D, Pl, hcs, hb, hl, hm, hmm, _, hi⟩
  · simp at h0
    obtain ⟨rfl, rfl, rfl⟩ := h0
    exact ⟨Nat.zero_le _, [], RowOf.nil_⟩
  · simp at hcs
    obtain ⟨rfl, rfl, rfl⟩ := hcs
    refine ⟨by omega, ?_⟩
    have hnm : n ≤ m := by rw [hmm]; split <;> omega
    have h3 := cellsStr
    obtain ⟨vs, hv1, hv2⟩ := exists_list (P := fun i (s : ByteArray) => w.cell? (a.add i) = some (.string s)) n (fun i hin => by
      obtain ⟨cs', hc, ht⟩ := hi i (by omega)
      rw [h3] at hc
      obtain ⟨s, e2, _⟩ := DataW.trod_string Tryz.underlying9 ht
      obtain ⟨_, hcl, hat⟩ := World.cells?_some hc
      refine ⟨s, ?_⟩
      have := hat 0 (by omega)
      rw [e2, Nat.mul_one] at this
      have h0 : (a.add i).add 0 = a.add i := rfl
      rw [h0] at this
      simpa using this)
    refine ⟨vs, hv1, fun hne => ?_⟩
    have hl0 : 0 < vs.length := by
      rcases Nat.eq_zero_or_pos vs.length with h0 | h0
      · rw [List.eq_nil_of_length_eq_zero h0] at hne
        exact absurd rfl hne
      · exact h0
    obtain ⟨b, off, spot⟩ := a
    have hc0 := hv2 0 vs[0] (List.getElem?_eq_getElem hl0)
    have hspot : spot = none := by simpa [Addr.add] using World.cell?_spot hc0
    subst hspot
    refine ⟨b, off, rfl, by simpa [Addr.add] using cell_lt hc0, fun j u hu => ?_⟩
    have hj : j < vs.length := by
      have := (List.getElem?_eq_some_iff.1 hu).1
      rwa [flatMap_len 1 (fun _ => rfl), Nat.mul_one] at this
    have hx := flatMap_at (cells := fun s : ByteArray => [Value.string s]) 1 (fun _ => rfl) vs j 0 vs[j] _ (List.getElem?_eq_getElem hj) rfl
    rw [Nat.mul_one, Nat.add_zero, hu] at hx
    have hf := hv2 j _ (List.getElem?_eq_getElem hj)
    rw [← hx] at hf
    rwa [addr_add] at hf
end
end Go.Proofs.YtpnfbehbheddeaaGreatDoor
