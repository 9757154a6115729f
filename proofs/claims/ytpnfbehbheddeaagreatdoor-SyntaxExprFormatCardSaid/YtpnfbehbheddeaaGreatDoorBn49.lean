/- The walk of the law SyntaxExprFormat; where the table of powers of ten is as it is laid and the variable ErrRange can be read. What the rows' lists with the two errors give, and a world that meets them. No condition. What a slice that came in has as its capacity. No condition. How a slice of ints that came in is opened. No condition. -/
import Derived.Test.YtpnfbehbheddeaaGreatDoorBn48
import Derived.Test.YtpnfbehbheddeaaGreatDoorBn40
import Derived.Test.YtpnfbehbheddeaaGreatDoorBn34
import Derived.Test.YtpnfbehbheddeaaGreatDoorBn33
import Derived.Test.YtpnfbehbheddeaaGreatDoorBn06
import Derived.Test.YtpnfbehbheddeaaGreatDoorBn03
import Derived.Test.YtpnfbehbheddeaaGreatDoorBn01
import Derived.Test.YtpnfbehbheddeaaGreatDoorBn15
import Derived.LaidMore
import Derived.LaidOnce
import Derived.SizedLaws
namespace Go.Proofs.YtpnfbehbheddeaaGreatDoor
set_option maxRecDepth 100000
set_option maxHeartbeats 8000000
set_option linter.unusedVariables false
set_option linter.unusedSimpArgs false
open Go.RowKit
theorem rowB_of_rowS {w : World} {B n : Nat} {A : Option Addr} {ss : List ByteArray} (h : RowS w B A n ss) : RowB w B A n (ss.map fun s => s.data.toList) := by
  refine ⟨by rw [List.length_map]; exact h.len, ?_⟩
  have e : (ss.map fun s => s.data.toList).flatMap (fun l => [strV l]) = ss.flatMap fun s => [Value.string s] := by
    clear h
    induction ss with
    | nil => rfl
    | cons s ss ih => simpa [strV] using ih
  show Rd w B A ((ss.map fun s => s.data.toList).flatMap (fun l => [strV l]))
  rw [e]
  exact h.rd
theorem rowOf_boxF {α : Type} {f : α → List Value} {w : World} {z : Nat} {cs : Array Value} {te : TypeId} {l : List α} (B : Box w z cs te) (h : cs.toList = l.flatMap f) {n : Nat} (hn : l.length = n) : @RowOf α f w w.heap.size (some ⟨z, 0, none⟩) n l := by
  refine ⟨hn, fun _ => ⟨z, 0, rfl, B.lt, fun j u hu => ?_⟩⟩
  obtain ⟨hc, -⟩ := Box.cells B
  rw [Nat.zero_add, hc j, ← Array.getElem?_toList, h]
  exact hu
theorem own_bounds {w : World} {base m c n size : Nat} {e : TypeId} {A : Option Addr} {xs : List Value} (h : w.ownsRow base e size (.slice A m c) n xs) : n ≤ c ∧ c ≤ maxLen := by
  obtain ⟨A', c', e', h1, h2⟩ := own_slice h
  cases e'
  exact ⟨h1, h2⟩
theorem colName_len {left right : List Bs} {k : Nat} (hl : ∀ s ∈ left, s.length ≤ k) (hr : ∀ s ∈ right, s.length ≤ k) : ∀ c, (colName left right c).length ≤ k := fun c => by
  have h : ∀ (l : List Bs) (i : Nat), (∀ s ∈ l, s.length ≤ k) → (l.getD i []).length ≤ k := fun l i hl => by
    rw [List.getD_eq_getElem?_getD]
    cases hi : l[i]? with
    | none => exact Nat.zero_le _
    | some s => exact hl s (List.mem_of_getElem? hi)
  unfold colName
  split
  · exact h _ _ hl
  · exact h _ _ hr
def leftF : List Bs := [[97], [110, 111, 116]]
def rightF : List Bs := [[98], [97]]
theorem leftF_len : ∀ s ∈ leftF, s.length ≤ 1000000 := by decide
theorem rightF_len : ∀ s ∈ rightF, s.length ≤ 1000000 := by decide
def small100 (s : ByteArray) : Bool := decide (s.size ≤ 100)
theorem syntaxExprFormat_w (Z A R : Option Addr) (zn zc n c m d : Nat) (zs : List Int) (es : List T) (names : List ByteArray) (w : World) (hz : IntsR w Z zn zc zs) (hn : n ≤ c) (hc : c ≤ maxLen) (hm : m ≤ maxLen) (hr : RowT w w.heap.size A n es) (hv : RowS w w.heap.size R m names) (hG : G w) (hE : GE w) :
    Calls Tryz.prog 4 #[.slice Z zn zc, .slice A n c, .slice R m d] w fun e w' => e = .returned (.bool true) ∧ Below w.heap.size w w' := by
  have hnew := new_c Z zn zc zs w hz
  have hAw := fun w9 (hb : Below w.heap.size w w9) => awake5_c w9 (GE.below hE hb)
  clear hz
  go_enter Tryz.func4, Tryz.ntmps4
  go_wp2_with fail
  refine hnew.mono ?_
  rintro e w1 ⟨b, g, rfl, htp, hb0, hg0, hb1⟩
  have hz1 := hb1.size
  clear hnew
  by_cases h80 : 80 < n
  · have t1 : (80 : Int) < (n : Int) := by omega
    clear hr hv htp
    go_wp2_with (go_at_call 9; refine (hAw _ hb1).mono ?_; rintro e w2 ⟨rfl, hb2⟩)
    go_ret
    exact ⟨rfl, below_step hb2 hb1 (Nat.le_refl _)⟩
  have t1 : ¬ (80 : Int) < (n : Int) := by omega
  by_cases h12 : 12 < m
  · have t2 : (12 : Int) < (m : Int) := by omega
    clear hr hv htp
    go_wp2_with (go_at_call 9; refine (hAw _ hb1).mono ?_; rintro e w2 ⟨rfl, hb2⟩)
    go_ret
    exact ⟨rfl, below_step hb2 hb1 (Nat.le_refl _)⟩
  have t2 : ¬ (12 : Int) < (m : Int) := by omega
  have hr1 := hr.to hb1
  have hv1 := hv.to hb1
  have HM := Lib.hid hv.len
  go_wp2_with fail
  go_loopw [8] (fun v5 wr => ∃ i : Nat, v5 = .int .i64 (i : Int) ∧ i ≤ n ∧ w1 = wr) (fun v5 _ => n - (intOf v5).toNat)
  case atStart => exact ⟨0, rfl, by omega, rfl⟩
  case round =>
    obtain ⟨i, rfl, hi, rfl⟩ := hrel
    by_cases hlt : i < n
    · have h1 : (i : Int) < (n : Int) := by omega
      have h0 : (0 : Int) ≤ (i : Int) := by omega
      have hiw : IntKind.i64.wrap ((i : Int) + 1) = (i : Int) + 1 := IntWalk.i64_in _ (by omega)
      obtain ⟨b2, off, t, rfl, hbb, ht, d0, d1, d2, d3, d4⟩ := RowT.at5 hr1 hlt
      by_cases hs : 100 < t.v.s.size
      · have t3 : (100 : Int) < (t.v.s.size : Int) := by omega
        clear hr hv htp hr1 hv1 ht d0 d1 d2 d4
        go_wp2_with (go_at_call 9; refine (hAw _ hb1).mono ?_; rintro e w2 ⟨rfl, hb2⟩)
        go_ret
        exact ⟨rfl, below_step hb2 hb1 (Nat.le_refl _)⟩
      · have t3 : ¬ (100 : Int) < (t.v.s.size : Int) := by omega
        clear hr hv htp hr1 hv1 ht d0 d1 d2 d4
        go_wp2_with fail
        go_roundw
        case rel => exact ⟨i + 1, by go_num, by omega, trivial⟩
        case measure => simp [intOf]; omega
    · have h1 : ¬ (i : Int) < (n : Int) := by omega
      clear hlt hi hr1
      go_wp2_with fail
      go_loopw [9] (fun v6 wr => ∃ i : Nat, v6 = .int .i64 (i : Int) ∧ i ≤ m ∧ Hid ((names.take i).all small100 = true) ∧ w1 = wr) (fun v6 _ => m - (intOf v6).toNat)
      case atStart => exact ⟨0, rfl, by omega, Lib.hid (by simp), rfl⟩
      case round =>
        clear h1
        obtain ⟨i, rfl, hi, hH, rfl⟩ := hrel
        by_cases hlt : i < m
        · have h1 : (i : Int) < (m : Int) := by omega
          have h0 : (0 : Int) ≤ (i : Int) := by omega
          have hiw : IntKind.i64.wrap ((i : Int) + 1) = (i : Int) + 1 := IntWalk.i64_in _ (by omega)
          obtain ⟨b2, off, s, rfl, hb2, hs, hcell⟩ := RowS.at1 hv1 hlt
          have HS := Lib.hid hs
          by_cases hs1 : 100 < s.size
          · have t3 : (100 : Int) < (s.size : Int) := by omega
            clear hr hv htp hv1 hs HS
            go_wp2_with (go_at_call 9; refine (hAw _ hb1).mono ?_; rintro e w2 ⟨rfl, hb2⟩)
            go_ret
            exact ⟨rfl, below_step hb2 hb1 (Nat.le_refl _)⟩
          · have t3 : ¬ (100 : Int) < (s.size : Int) := by omega
            clear hr hv htp hv1 hs
            go_wp2_with fail
            go_roundw
            case rel => exact ⟨i + 1, by go_num, by omega, Lib.hid (by rw [take_all_succ _ _ _ _ HS.out, hH.out]; simp [small100]; omega), trivial⟩
            case measure => simp [intOf]; omega
        · have HN := Lib.hid (show ∀ s ∈ (names.map fun s => s.data.toList), s.length ≤ 1000000 by
            have h1 := hH.out
            rw [List.take_of_length_le (by rw [HM.out]; omega)] at h1
            intro s' hs'
            obtain ⟨s, hs, rfl⟩ := List.mem_map.1 hs'
            have := List.all_eq_true.1 h1 s hs
            simp only [small100, decide_eq_true_eq] at this
            rw [Lib.size_eq] at this
            omega)
          have h1 : ¬ (i : Int) < (m : Int) := by omega
          clear hH hv1
          have hlt := htp.lt
          have hltg := htp.ltg
          go_wp2_with fail
          refine (texpr b g 4 (by omega) (by omega) 4 _ (by omega) (by omega) htp).mono ?_
          rintro e w4 ⟨A4, c4, x4, rfl, o4, f4, d4, cl4, ht4, hg4⟩
          have hz4 := hg4.size
          have sx := X.size4 f4 (by omega)
          obtain ⟨hc1, hc2⟩ := own_bounds o4
          have hb4 : Below w.heap.size w w4 := hb1.grown hg4 hz1 (fun k hk => by injection hk with hk; omega)
          have rx : RowT w4 w4.heap.size A4 x4.flat.length x4.flat := RowOf.of_own o4 rfl
          clear f4 d4 cl4 o4 ht4 hg4 htp
          generalize x4.flat = xl at rx hc1 sx
          obtain ⟨z, w5, ez, ew, H5⟩ := (HS.start w4).alloc2_ex #[.string ⟨#[97]⟩, .string ⟨#[110, 111, 116]⟩] 9 #[.string ⟨#[98]⟩, .string ⟨#[97]⟩] 9
          have h45 := H5.old pkQ
          have hb5 : Below w.heap.size w w5 := below_step h45 hb4 (Nat.le_refl _)
          have hL := rowOf_boxF (f := fun l => [strV l]) (l := leftF) (n := 2) (H5.box (z := z) (cs := #[.string ⟨#[97]⟩, .string ⟨#[110, 111, 116]⟩]) (te := 9) pkQ) rfl rfl
          have hR := rowOf_boxF (f := fun l => [strV l]) (l := rightF) (n := 2) (H5.box (z := z + 1) (cs := #[.string ⟨#[98]⟩, .string ⟨#[97]⟩]) (te := 9) pkQ) rfl rfl
          have rx := (rx.below h45).more h45.size
          have re := (hr.below hb5).more hb5.size
          have rn := rowB_of_rowS ((hv.below hb5).more hb5.size)
          have hG5 := hG.below hb5
          have c1 := colName_len leftF_len rightF_len
          have c2 := colName_len (right := []) leftF_len (by simp)
          have c3 := colName_len HN.out leftF_len
          have c4' := colName_len leftF_len HN.out
          generalize (names.map fun s => s.data.toList) = nm at rn c3 c4'
          clear hr hv hG HN HM H5
          have m1 : maxLen = 4503599627370496 ∨ True := .inr trivial
          have P1 := fun w6 (hb : Below w5.heap.size w5 w6) => formatExpr_c (w := w6) (tc := c4) (lc := 2) (rc := 2) ((rx.below hb).more hb.size) ((hL.below hb).more hb.size) ((hR.below hb).more hb.size) (by omega) (by decide) (by decide) c1 (hG5.below hb)
          have Q1 := fun w6 (hb : Below w5.heap.size w5 w6) => rformatExpr_c (w := w6) (tc := c4) (lc := 2) (rc := 2) ((rx.below hb).more hb.size) ((hL.below hb).more hb.size) ((hR.below hb).more hb.size) (by omega) hc1 hc2 (by decide) (by decide) c1
          have P2 := fun w6 (hb : Below w5.heap.size w5 w6) => formatExpr_c (w := w6) (tc := c4) (lc := 2) (rc := 0) (DA := none) (right := []) ((rx.below hb).more hb.size) ((hL.below hb).more hb.size) RowOf.nil_ (by omega) (by decide) (by decide) c2 (hG5.below hb)
          have Q2 := fun w6 (hb : Below w5.heap.size w5 w6) => rformatExpr_c (w := w6) (tc := c4) (lc := 2) (rc := 0) (DA := none) (right := []) ((rx.below hb).more hb.size) ((hL.below hb).more hb.size) RowOf.nil_ (by omega) hc1 hc2 (by decide) (by decide) c2
          have P3 := fun w6 (hb : Below w5.heap.size w5 w6) => formatExpr_c (w := w6) (tc := c4) (lc := d) (rc := 2) ((rx.below hb).more hb.size) ((rn.below hb).more hb.size) ((hL.below hb).more hb.size) (by omega) (by omega) (by decide) c3 (hG5.below hb)
          have Q3 := fun w6 (hb : Below w5.heap.size w5 w6) => rformatExpr_c (w := w6) (tc := c4) (lc := d) (rc := 2) ((rx.below hb).more hb.size) ((rn.below hb).more hb.size) ((hL.below hb).more hb.size) (by omega) hc1 hc2 (by omega) (by decide) c3
          have P4 := fun w6 (hb : Below w5.heap.size w5 w6) => formatExpr_c (w := w6) (tc := c) (lc := 2) (rc := d) ((re.below hb).more hb.size) ((hL.below hb).more hb.size) ((rn.below hb).more hb.size) (by omega) (by decide) (by omega) c4' (hG5.below hb)
          have Q4 := fun w6 (hb : Below w5.heap.size w5 w6) => rformatExpr_c (w := w6) (tc := c) (lc := 2) (rc := d) ((re.below hb).more hb.size) ((hL.below hb).more hb.size) ((rn.below hb).more hb.size) (by omega) hn hc (by decide) (by omega) c4'
          unfold SPost at P1 Q1 P2 Q2 P3 Q3 P4 Q4
          generalize fmtE xl leftF rightF = s1 at P1 Q1
          generalize fmtE xl leftF [] = s2 at P2 Q2
          generalize fmtE xl nm leftF = s3 at P3 Q3
          generalize fmtE es leftF nm = s4 at P4 Q4
          clear rx re rn hL hR c1 c2 c3 c4' h45
          go_wp2_with fail
          clear ez ew
          refine (P1 _ (Below.refl _ _)).mono ?_
          rintro e w6 ⟨rfl, b6⟩
          go_wp2_with fail
          refine (Q1 _ b6).mono ?_
          rintro e w7 ⟨rfl, b7⟩
          have b7 := below_step b7 b6 (Nat.le_refl _)
          go_wp2_with fail
          refine (P2 _ b7).mono ?_
          rintro e w8 ⟨rfl, b8⟩
          have b8 := below_step b8 b7 (Nat.le_refl _)
          go_wp2_with fail
          refine (Q2 _ b8).mono ?_
          rintro e w9 ⟨rfl, b9⟩
          have b9 := below_step b9 b8 (Nat.le_refl _)
          go_wp2_with fail
          refine (P3 _ b9).mono ?_
          rintro e w10 ⟨rfl, b10⟩
          have b10 := below_step b10 b9 (Nat.le_refl _)
          go_wp2_with fail
          refine (Q3 _ b10).mono ?_
          rintro e w11 ⟨rfl, b11⟩
          have b11 := below_step b11 b10 (Nat.le_refl _)
          go_wp2_with fail
          refine (P4 _ b11).mono ?_
          rintro e w12 ⟨rfl, b12⟩
          have b12 := below_step b12 b11 (Nat.le_refl _)
          go_wp2_with fail
          refine (Q4 _ b12).mono ?_
          rintro e w13 ⟨rfl, b13⟩
          have b13 := below_step (below_step b13 b12 (Nat.le_refl _)) hb5 (Nat.le_refl _)
          go_wp2_with fail
          refine (hAw _ b13).mono ?_
          rintro e w14 ⟨rfl, b14⟩
          go_wp2_with fail
          go_ret
          exact ⟨rfl, below_step b14 b13 (Nat.le_refl _)⟩
open Go.ChangeShapes Go.WideShapes Go.ChangeAt
def laid5 : List (String × DataW Unit) := laid3 ++ [("strconv.ErrRange", Rows.laid_strconv_ErrRange), ("strconv.ErrSyntax", Rows.laid_strconv_ErrSyntax)]
theorem g_of_laid5 {W : World} (h : laidMetH Tryz.prog laid5 W) : G W := pow_of rfl h
theorem trod_err {H : Type} {enc : TypeId × Value → H} {W : World} {base : Nat} {sp : Nat → Bool} {held : Bool} {fuel : Nat} {cs : List Value} {x : DataW H × List MemPlace} (h : DataW.trod enc Tryz.prog W base sp held fuel 184 cs = some x) : ∃ ev, cs = [ev] ∧ (ev = .nilIface ∨ ∃ te pe, ev = .iface te pe) := by
  have hu := Tryz.underlying184
  cases fuel with
  | zero => simp [DataW.trod] at h
  | succ n =>
    unfold DataW.trod at h
    rw [hu] at h
    split at h <;> simp_all
theorem e_of_laid5 {W : World} (h : laidMetH Tryz.prog laid5 W) : GE W := by
  have h2 := laidMetH.filter (fun x => x.1 == "strconv.ErrRange") h
  have h3 : laidMet Tryz.prog [("strconv.ErrRange", Rows.laid_strconv_ErrRange)] W := by
    have e : laid5.filter (fun x => x.1 == "strconv.ErrRange") = [("strconv.ErrRange", Rows.laid_strconv_ErrRange)] := rfl
    rw [e] at h2
    exact (laidMetH_iff.1 h2).1
  obtain ⟨ps, ⟨g1, t1, cs1, f1, p1, q1, hg1, ht1, hv1, hd1, _, _⟩, _, _⟩ := h3
  obtain rfl := Option.some.inj ((show Tryz.prog.globalNamed "strconv.ErrRange" = some 5 by kernel_rfl).symm.trans hg1)
  obtain rfl := Option.some.inj ((show (Tryz.prog.globals[5]?).map (·.type) = some 184 by kernel_rfl).symm.trans ht1)
  obtain ⟨ev, hcs, hev⟩ := trod_err hd1
  have hc := World.var?_cell hg1 hv1 0
  rw [Array.eq_one_of_toList hcs] at hc
  have hc' : W.cell? ⟨5, 0, none⟩ = some ev := by simpa using hc
  refine ⟨?_, ev, hc', hev⟩
  rcases Nat.lt_or_ge 5 W.heap.size with hl | hl
  · exact hl
  · simp [World.cell?, Array.getElem?_eq_none hl] at hc'
noncomputable def doorWorld (os : Os) : World := World.doorLaid Tryz.prog 3000 os
open Go.Deep
section
variable {H : Type} {enc : TypeId × Value → H} {w : World} {base : Nat} {spare : Nat → Bool} {held : Bool} {fuel : Nat}
theorem open_cap {t e : TypeId} (ht : Tryz.prog.underlying t = some (.slice e)) {A : Option Addr} {n c : Nat} {x : DataW H × List MemPlace} (h : DataW.trod enc Tryz.prog w base spare held fuel t [.slice A n c] = some x) : n ≤ c ∧ c ≤ maxLen ∧ (A = none → c = 0) := by
  rcases open_slice ht h with ⟨h0, _⟩ | ⟨a, len, cap, m, n', D, Pl, hcs, hb, hl, hm, hmm, _, hi⟩
  · simp at h0
    obtain ⟨rfl, rfl, rfl⟩ := h0
    exact ⟨Nat.le_refl _, Nat.zero_le _, fun _ => rfl⟩
  · simp at hcs
    obtain ⟨rfl, rfl, rfl⟩ := hcs
    exact ⟨hl, hm, fun h => by cases h⟩
end
theorem bytesInt : Tryz.prog.bytesOf 3 = 8 := by kernel_rfl
section
variable {H : Type} {enc : TypeId × Value → H} {w : World} {base : Nat} {spare : Nat → Bool} {held : Bool} {fuel : Nat}
theorem open_intsR {A : Option Addr} {n c : Nat} {x : DataW H × List MemPlace} (h : DataW.trod enc Tryz.prog w base spare held fuel 22 [.slice A n c] = some x) :
    ∃ zs : List Int, (∀ (ts : List TypeId) (ds : List (DataW H)) (j : Nat), (DataW.weightsEach Tryz.prog ts ds).all (· ≤ reachBytes) = true → ts[j]? = some 22 → ds[j]? = some x.1 → IntsR w A n c zs) := by
  rcases open_ints Tryz.underlying22 Tryz.underlying3 cellsInt h with ⟨hcs, _⟩ | ⟨a, l, cp, zs, hcs, _, hl, hm, hz, hx, hcell, _⟩
  · simp at hcs
    obtain ⟨rfl, rfl, rfl⟩ := hcs
    exact ⟨[], fun _ _ _ _ _ _ => ⟨rfl, fun _ => ⟨rfl, rfl⟩, by omega, fun h0 => absurd rfl h0⟩⟩
  · simp at hcs
    obtain ⟨rfl, rfl, rfl⟩ := hcs
    have hzl : n ≤ zs.length := by rw [hz]; split <;> omega
    refine ⟨zs.take n, fun ts ds j hsz ht hd => ?_⟩
    have hb : n ≤ 17592186044416 := by
      have := sized_slice hsz ht (by rw [hd, hx]) Tryz.underlying22
      rw [bytesInt] at this
      simp only [lits, List.length_map, List.length_take, List.length_drop] at this
      have h2 : reachBytes < 2 ^ 47 := reachBytes_lt
      omega
    refine ⟨by simp; omega, (fun e => by cases e), hb, fun hne => ?_⟩
    have hpos : 0 < n := by
      rcases Nat.eq_zero_or_pos n with h0 | h0
      · subst h0; simp [icells] at hne
      · exact h0
    obtain ⟨b, off, spot⟩ := a
    have hc0 := hcell 0 (by omega)
    have hspot : spot = none := by simpa [Addr.add] using World.cell?_spot hc0
    subst hspot
    refine ⟨b, off, rfl, by simpa [Addr.add] using cell_lt hc0, fun j u hu => ?_⟩
    have hj : j < (zs.take n).length := by
      have := (List.getElem?_eq_some_iff.1 hu).1
      simpa [icells] using this
    have hjz : j < zs.length := by simp at hj; omega
    have := hcell j hjz
    rw [addr_add] at this
    rw [this, ← hu]
    simp only [icells, List.getElem?_map, List.getElem?_eq_getElem hj, List.getElem_take, Option.map_some, List.getD, List.getElem?_eq_getElem hjz, Option.getD_some]
end
end Go.Proofs.YtpnfbehbheddeaaGreatDoor
