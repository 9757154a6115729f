/- Contracts of plain, quote and the reference's Quote: strings of at most a million bytes. Contract of the reference's Quote: strings of at most a million bytes. Contracts of Format, of the program and of the reference; the program's where the table of powers of ten is as it is laid. What the rows' lists of package-level variables give, and a world that meets them. No condition. How the arguments of the laws are opened: values and rows of values that came in. No condition. What parsing the text form of a value is, in plain Lean, and that it takes back what formatting gives. No program in sight, no condition. -/
import Derived.Test.YtpnfbehbheddeaaGreatDoorBn00
import Derived.Deep.RegionLaw
import Derived.Lib.ItoaNum
import Derived.Lib.ItoaLen
import Derived.Deep.RegionWith
import Derived.Test.YtpnfbehbheddeaaGreatDoorShelf
import Derived.Lib.LaidTab
import Derived.Lib.AppendIntMem
import Derived.Test.YtpnfbehbheddeaaGreatDoorCards
import Derived.Test.YtpnfbehbheddeaaGreatDoorTie
import Derived.WalkKit
import Derived.ProofKit
import Derived.OpenShut
import Derived.Deep.DeepHandedRow
import Derived.LaidSub
import Derived.Deep.Slices
import Derived.Deep.Fields
import Derived.ChangeSame
import Derived.Carry
import Derived.Lib.ParseIntB
namespace Go.Proofs.YtpnfbehbheddeaaGreatDoor
set_option maxRecDepth 100000
set_option maxHeartbeats 8000000
set_option linter.unusedVariables false
set_option linter.unusedSimpArgs false
open Go.RowKit
theorem plain_c (c : UInt8) (w : World) : Calls Tryz.prog 229 #[.int .u8 c.toNat] w fun e w' => e = .returned (.bool (plainB c)) ∧ w = w' := by
  go_enter Tryz.func229, Tryz.ntmps229
  go_wp2
  all_goals go_ret
  all_goals refine ⟨ret_bool ?_, rfl⟩
  · have h1 : (c.toNat : Int) = 34 := by assumption
    have h2 : c.toNat = 34 := by omega
    simp [plainB, h2]
  · have h1 : 32 ≤ (c.toNat : Int) := by assumption
    have h2 : (c.toNat : Int) ≤ 126 := by assumption
    have h3 : 32 ≤ c.toNat := by omega
    have h4 : c.toNat ≤ 126 := by omega
    have e1 : ((c.toNat : Int) != 34) = (c.toNat != 34) := by rw [Bool.eq_iff_iff]; simp; omega
    have e2 : ((c.toNat : Int) != 92) = (c.toNat != 92) := by rw [Bool.eq_iff_iff]; simp; omega
    show ((c.toNat : Int) != 34 && (c.toNat : Int) != 92) = plainB c
    rw [e1, e2]
    simp [plainB, h3, h4]
  · have h1 : 126 < (c.toNat : Int) := by assumption
    have h2 : ¬ c.toNat ≤ 126 := by omega
    simp [plainB, h2]
  · have h1 : (c.toNat : Int) < 32 := by assumption
    have h2 : ¬ 32 ≤ c.toNat := by omega
    simp [plainB, h2]
theorem quote_step {l : List UInt8} {k : Nat} {c : UInt8} (h : l[k]? = some c) : (34 :: (l.take (k + 1)).flatMap qbyte : List UInt8) = (34 :: (l.take k).flatMap qbyte) ++ qbyte c := by
  rw [List.take_add_one, h]; simp
theorem qcells (c : UInt8) (h : plainB c = false) : bcells (qbyte c) = [.int .u8 92, .int .u8 (hexd ((c.toNat : Int) / 16).toNat).toNat, .int .u8 (hexd ((c.toNat : Int) % 16).toNat).toNat] := by
  have h1 : ((c.toNat : Int) / 16).toNat = c.toNat / 16 := by omega
  have h2 : ((c.toNat : Int) % 16).toNat = c.toNat % 16 := by omega
  simp [qbyte, h, bcells, h1, h2]
theorem qcells1 (c : UInt8) (h : plainB c = true) : bcells (qbyte c) = [.int .u8 c.toNat] := by simp [qbyte, h, bcells]
theorem quote_c (s : ByteArray) (w : World) (hs : s.size ≤ 1000000) : Calls Tryz.prog 175 #[.string s] w fun e w' => e = .returned (.string ⟨(quoteL s.data.toList).toArray⟩) ∧ Below w.heap.size w w' := by
  have hcv := run_toBytes
  go_enter Tryz.func175, Tryz.ntmps175
  go_wp2
  clear hcv
  go_loopw [3, 10] (fun v i wr => ∃ k : Nat, k ≤ s.size ∧ i = .int .i64 k ∧ wr.ownsRow w.heap.size 5 1 v (34 :: (s.data.toList.take k).flatMap qbyte).length (bcells (34 :: (s.data.toList.take k).flatMap qbyte)) ∧ Below w.heap.size w wr ∧ Rd wr (w.heap.size + 2) (some ⟨w.heap.size + 1, 0, none⟩) (bcells s.data.toList) ∧ v.ownBlock ≠ some (w.heap.size + 1) ∧ w.heap.size + 2 ≤ wr.heap.size) (fun _ i _ => s.size - (intOf i).toNat)
  case atStart =>
    refine ⟨0, Nat.zero_le _, rfl, own_bytes (own_new w #[.int .u8 34] 5 1 1 (by decide) rfl) _ _, below_bytes ((Below.refl _ _).alloc (Nat.le_refl _) _) (by simp) _ _, ?_, by simp [Value.ownBlock], by rw [Lib.bytesWorld_size]; simp⟩
    have := rd_bytes (w.alloc (.cells #[.int .u8 34] 5)) 5 s
    simpa using this
  case round =>
    obtain ⟨k, hk, rfl, hown, hbel, hrd, hne, hz⟩ := hrel
    have hzz := hbel.size
    have hlen := flat_len (s.data.toList.take k)
    have hlt2 : (s.data.toList.take k).length ≤ k := List.length_take_le _ _
    have hL : (34 :: (s.data.toList.take k).flatMap qbyte).length ≤ 3000001 := by simp only [List.length_cons]; omega
    generalize hN : (34 :: (s.data.toList.take k).flatMap qbyte).length = N at hown hL
    have HN := Lib.hid hN
    clear hlen hlt2 hN
    by_cases hlt : k < s.size
    · have hl : k < s.data.toList.length := by rw [← Lib.size_eq]; exact hlt
      obtain ⟨c, hc⟩ : ∃ c, s.data.toList[k]? = some c := ⟨_, List.getElem?_eq_getElem hl⟩
      have hx := hrd.byte hc
      simp only [Nat.zero_add] at hx
      have HC := Lib.hid hc
      clear hc hl
      cases hp : plainB c
      · have HP := Lib.hid hp
        clear hp
        have i1 := run_hex ((c.toNat : Int) / 16) (hi4 c).1 (hi4 c).2
        have i2 := run_hex ((c.toNat : Int) % 16) (lo4 c).1 (lo4 c).2
        have a1 := and15 c
        go_wp2_with (go_at_call 229; refine (plain_c c _).mono ?_; rintro e w1 ⟨rfl, rfl⟩; rw [HP.out])
        go_region_law (first | (refine step_appD rfl _ _ stB rfl rfl hown rfl (by simp) rfl (by simp [Value.oneCell']) (by omega) (by omega) ?_; intro v' w2 hown' hg' hat'))
        all_goals have hbel' : Below w.heap.size w w2 := below_app hbel hown hg' (Nat.le_refl _) (by omega)
        all_goals have hrd' := hrd.grownAt hg' (by omega) (Ne.symm hne)
        all_goals have hz' := hg'.size
        all_goals go_wp2
        all_goals go_roundw
        all_goals (try (case measure => simp [intOf]; omega))
        all_goals refine ⟨k + 1, by omega, by go_num, ?_, hbel', hrd', ?_, by omega⟩
        all_goals (try (rw [quote_step HC.out, bcells_append, qcells c HP.out, List.length_append, HN.out, show (qbyte c).length = 3 from by simp [qbyte, HP.out]]; exact hown'))
        all_goals (rcases hat' with e | e <;> rw [e] <;> first | exact hne | (intro h; injection h with h; omega))
      · have HP := Lib.hid hp
        clear hp
        go_wp2_with (first
          | (go_at_call 229; refine (plain_c c _).mono ?_; rintro e w1 ⟨rfl, rfl⟩; rw [HP.out])
          | (at_builtin; refine wpList_app rfl _ _ stB rfl rfl hown rfl (by simp) rfl (by simp [Value.oneCell']) (by omega) (by omega) ?_; intro v' w2 hown' hg' hat'))
        all_goals have hbel' : Below w.heap.size w w2 := below_app hbel hown hg' (Nat.le_refl _) (by omega)
        all_goals have hrd' := hrd.grownAt hg' (by omega) (Ne.symm hne)
        all_goals have hz' := hg'.size
        all_goals go_wp2
        all_goals go_roundw
        all_goals (try (case measure => simp [intOf]; omega))
        all_goals refine ⟨k + 1, by omega, by go_num, ?_, hbel', hrd', ?_, by omega⟩
        all_goals (try (rw [quote_step HC.out, bcells_append, qcells1 c HP.out, List.length_append, HN.out, show (qbyte c).length = 1 from by simp [qbyte, HP.out]]; exact hown'))
        all_goals (rcases hat' with e | e <;> rw [e] <;> first | exact hne | (intro h; injection h with h; omega))
    · have hfin : s.data.toList.take k = s.data.toList := List.take_of_length_le (by rw [← Lib.size_eq]; omega)
      rw [hfin] at hown
      clear hfin
      go_wp2_with (at_builtin; refine wpList_app rfl _ _ stB rfl rfl hown rfl (by simp) rfl (by simp [Value.oneCell']) (by omega) (by omega) ?_; intro v' w2 hown' hg' hat'; have hts := run_toStr (l := quoteL s.data.toList) (by simpa [quoteL, bcells] using hown'))
      go_ret
      exact ⟨rfl, below_app hbel hown hg' (Nat.le_refl _) (by omega)⟩
theorem run_idx {s : ByteArray} {k : Nat} {c : UInt8} (h : s.data.toList[k]? = some c) (w : World) : (Instr.index 9 (.string s) (.int .i64 (k : Int))).run Tryz.prog w = .ok (.int .u8 c.toNat) w := by
  have hk : k < s.data.toList.length := (List.getElem?_eq_some_iff.1 h).1
  have hk2 : k < s.size := by rw [Lib.size_eq]; exact hk
  have he := (List.getElem?_eq_some_iff.1 h).2
  simp [go_sem, hk2]
  show (s.data[k].toNat : Int) = c.toNat
  rw [← he]
  simp
structure G (w : World) : Prop where
  tab : Lib.TabIs Tryz.prog w "internal/strconv.uint64pow10" .u64 Lib.pow10Tab
theorem G.below {w w' : World} (h : G w) (hb : Below w.heap.size w w') : G w' := ⟨Lib.tabBelow_of_tabIs h.tab w' hb⟩
theorem below_grow {w w' : World} (h : ∃ k os, w' = Sort.grow (w.drewN k) os) : Below w.heap.size w w' := by
  obtain ⟨k, os, rfl⟩ := h
  refine ⟨rfl, rfl, rfl, ?_, fun i hi => ?_⟩
  · show w.heap.size ≤ (w.heap ++ os).size
    simp
  · show (w.heap ++ os)[i]? = _
    rw [Array.getElem?_append_left hi]
def fmtV (v : V) : List UInt8 := if v.cl.k = 1 then Lib.itoa v.cl.n else if v.cl.k = 2 then quoteL v.cl.s.data.toList else [110, 117, 108, 108]
theorem cl_bounds (v : V) : -4294967296 ≤ v.cl.n ∧ v.cl.n ≤ 4294967296 ∧ v.cl.s.size ≤ 32 := by
  have h := V.ok_cases v.cl_ok
  rw [Lib.size_eq]
  rcases h with ⟨_, h2, h3⟩ | ⟨_, h2, h2', h3⟩ | ⟨_, h2, h3⟩
  · rw [h3]; simp; omega
  · rw [h3]; simp; omega
  · omega
theorem vformat (v : V) (w : World) (hG : G w) : Calls Tryz.prog 116 #[.agg #[.int .i64 v.k, .int .i64 v.n, .string v.s]] w fun e w' => e = .returned (.string ⟨(fmtV v).toArray⟩) ∧ Below w.heap.size w w' := by
  obtain ⟨b1, b2, b3⟩ := cl_bounds v
  by_cases h1 : v.cl.k = 1
  · have H1 := Lib.hid h1
    have t1 : (v.cl.k == 1) = true := by simpa using h1
    clear h1
    go_enter Tryz.func116, Tryz.ntmps116
    go_wp2_with (first
      | (go_at_call 97; refine (vclean v _).mono ?_; rintro e w1 ⟨rfl, hb1⟩; obtain ⟨hc1, hf1⟩ := bcell hb1; have hz1 := (hb1).size; try simp at hz1; have hl10 : w.heap.size < w1.heap.size := (by omega))
      | (go_at_call 115; refine (Tryz.strconv_FormatInt_10 _ (by omega) (by omega) _ (by exact (hG.below (by (exact belQ))).tab)).mono ?_; rintro e w2 ⟨rfl, hb2'⟩; have hb2 := below_grow hb2'; clear hb2'))
    go_ret
    exact ⟨by rw [fmtV, if_pos H1.out]; rfl, by (exact belQ)⟩
  · have H1 := Lib.hid h1
    have t1 : (v.cl.k == 1) = false := by simpa using h1
    clear h1
    by_cases h2 : v.cl.k = 2
    · have H2 := Lib.hid h2
      have t2 : (v.cl.k == 2) = true := by simpa using h2
      clear h2
      go_enter Tryz.func116, Tryz.ntmps116
      go_wp2_with (first
        | (go_at_call 97; refine (vclean v _).mono ?_; rintro e w1 ⟨rfl, hb1⟩; obtain ⟨hc1, hf1⟩ := bcell hb1; have hz1 := (hb1).size; try simp at hz1; have hl10 : w.heap.size < w1.heap.size := (by omega))
        | (go_at_call 175; refine (quote_c _ _ (by omega)).mono ?_; rintro e w2 ⟨rfl, hb2⟩))
      go_ret
      exact ⟨by rw [fmtV, if_neg H1.out, if_pos H2.out]; rfl, by (exact belQ)⟩
    · have H2 := Lib.hid h2
      have t2 : (v.cl.k == 2) = false := by simpa using h2
      clear h2
      go_enter Tryz.func116, Tryz.ntmps116
      go_wp2_with (first
        | (go_at_call 97; refine (vclean v _).mono ?_; rintro e w1 ⟨rfl, hb1⟩; obtain ⟨hc1, hf1⟩ := bcell hb1; have hz1 := (hb1).size; try simp at hz1; have hl10 : w.heap.size < w1.heap.size := (by omega)))
      go_ret
      exact ⟨by rw [fmtV, if_neg H1.out, if_neg H2.out]; rfl, by (exact belQ)⟩
open Go.ChangeShapes Go.WideShapes Go.ChangeAt
theorem own : ownKnob Tryz.prog.godebug = none := by kernel_rfl
theorem laidOut : laidOutB Tryz.prog = true := by kernel_rfl
theorem gPow : Tryz.prog.globalNamed "internal/strconv.uint64pow10" = some 1 := by kernel_rfl
theorem gPowType : (Tryz.prog.globals[1]?).map (·.type) = some 314 := by kernel_rfl
theorem cellsPow : Tryz.prog.cellsOf 314 = 20 := by kernel_rfl
theorem cellsU64 : Tryz.prog.cellsOf 245 = 1 := by kernel_rfl
def laid3 : List (String × DataW Unit) := [("math/bits.deBruijn32tab", Rows.laid_math_bits_deBruijn32tab), ("math/bits.deBruijn64tab", Rows.laid_math_bits_deBruijn64tab), ("internal/strconv.uint64pow10", Rows.laid_internal_strconv_uint64pow10)]
theorem pow_of {l : List (String × DataW Unit)} {W : World} (hl : l.filter (fun x => x.1 == "internal/strconv.uint64pow10") = [("internal/strconv.uint64pow10", Lib.tabData .u64 Lib.pow10Tab)]) (h : laidMetH Tryz.prog l W) : G W := by
  have h2 := laidMetH.filter (fun x => x.1 == "internal/strconv.uint64pow10") h
  rw [hl] at h2
  exact ⟨Lib.tabIs_of_head (rest := []) gPow gPowType Tryz.underlying314 Tryz.underlying245 cellsU64 cellsPow h2⟩
open Go.Deep
theorem cell_lt {w : World} {a : Addr} {u : Value} (h : w.cell? a = some u) : a.block < w.heap.size := by
  rcases Nat.lt_or_ge a.block w.heap.size with hl | hl
  · exact hl
  · simp [World.cell?, Array.getElem?_eq_none hl] at h
theorem addr_add (b off j : Nat) : (⟨b, off, none⟩ : Addr).add j = ⟨b, off + j, none⟩ := by
  unfold Addr.add
  split
  · subst_vars; rfl
  · simp
theorem cellsInt : Tryz.prog.cellsOf 3 = 1 := by kernel_rfl
def hexL : List UInt8 := [48, 49, 50, 51, 52, 53, 54, 55, 56, 57, 97, 98, 99, 100, 101, 102]
def hexI (c : UInt8) : Int := Lib.indexByte hexL c
theorem hexI_facts (c : UInt8) : hexI c = -1 ∨ (0 ≤ hexI c ∧ hexI c < 16) := by
  have h : ∀ k : Fin 256, hexI (UInt8.ofNat k.val) = -1 ∨ (0 ≤ hexI (UInt8.ofNat k.val) ∧ hexI (UInt8.ofNat k.val) < 16) := by decide +kernel
  have := h ⟨c.toNat, c.toNat_lt⟩
  simpa using this
theorem hexI_34 : hexI 34 = -1 := by decide +kernel
def hexB (a b : UInt8) : UInt8 := UInt8.ofNat ((hexI a).toNat * 16 + (hexI b).toNat)
theorem hexB_nat {a b : UInt8} (ha : 0 ≤ hexI a) (hb : 0 ≤ hexI b) : ((hexB a b).toNat : Int) = hexI a * 16 + hexI b := by
  have h1 := hexI_facts a
  have h2 := hexI_facts b
  unfold hexB
  rw [UInt8.toNat_ofNat', Nat.mod_eq_of_lt (by omega)]
  omega
theorem hexd_hex (c : UInt8) : 0 ≤ hexI (hexd (c.toNat / 16)) ∧ 0 ≤ hexI (hexd (c.toNat % 16)) ∧ hexB (hexd (c.toNat / 16)) (hexd (c.toNat % 16)) = c := by
  have h : ∀ k : Fin 256, 0 ≤ hexI (hexd ((UInt8.ofNat k.val).toNat / 16)) ∧ 0 ≤ hexI (hexd ((UInt8.ofNat k.val).toNat % 16)) ∧ hexB (hexd ((UInt8.ofNat k.val).toNat / 16)) (hexd ((UInt8.ofNat k.val).toNat % 16)) = UInt8.ofNat k.val := by decide +kernel
  have := h ⟨c.toNat, c.toNat_lt⟩
  simpa using this
def unqR (l : List UInt8) : Option (List UInt8 × Nat) :=
  match l with
  | [] => none
  | c :: r =>
    if c = 34 then some ([], 1)
    else if c = 92 then
      if 2 ≤ r.length ∧ 0 ≤ hexI (r.getD 0 0) ∧ 0 ≤ hexI (r.getD 1 0) ∧ plainB (hexB (r.getD 0 0) (r.getD 1 0)) = false then (unqR (r.drop 2)).map fun x => (hexB (r.getD 0 0) (r.getD 1 0) :: x.1, x.2 + 3) else none
    else if plainB c then (unqR r).map fun x => (c :: x.1, x.2 + 1) else none
termination_by l.length
decreasing_by all_goals simp; all_goals omega
theorem unqR_nil : unqR [] = none := by rw [unqR]
theorem unqR_end (r : List UInt8) : unqR (34 :: r) = some ([], 1) := by rw [unqR]; simp
theorem plain_ne {c : UInt8} (h : plainB c = true) : c ≠ 34 ∧ c ≠ 92 := by
  constructor <;> rintro rfl <;> revert h <;> decide
theorem unqR_plain {c : UInt8} (h : plainB c = true) (r : List UInt8) : unqR (c :: r) = (unqR r).map fun x => (c :: x.1, x.2 + 1) := by
  obtain ⟨h1, h2⟩ := plain_ne h
  rw [unqR, if_neg h1, if_neg h2, if_pos h]
theorem unqR_odd {c : UInt8} (h1 : c ≠ 34) (h2 : c ≠ 92) (h : plainB c = false) (r : List UInt8) : unqR (c :: r) = none := by
  rw [unqR, if_neg h1, if_neg h2, if_neg (by simp [h])]
theorem unqR_esc {a b : UInt8} (h : 0 ≤ hexI a ∧ 0 ≤ hexI b ∧ plainB (hexB a b) = false) (r : List UInt8) : unqR (92 :: a :: b :: r) = (unqR r).map fun x => (hexB a b :: x.1, x.2 + 3) := by
  rw [unqR, if_neg (by decide), if_pos rfl, if_pos ⟨by simp, h⟩]
  rfl
theorem unqR_bad {a b : UInt8} (h : ¬ (0 ≤ hexI a ∧ 0 ≤ hexI b ∧ plainB (hexB a b) = false)) (r : List UInt8) : unqR (92 :: a :: b :: r) = none := by
  rw [unqR, if_neg (by decide), if_pos rfl, if_neg (fun h' => h h'.2)]
theorem unqR_esc0 : unqR [92] = none := by rw [unqR, if_neg (by decide), if_pos rfl, if_neg (by simp)]
theorem unqR_esc1 (a : UInt8) : unqR [92, a] = none := by rw [unqR, if_neg (by decide), if_pos rfl, if_neg (by simp)]
theorem unqR_last : ∀ (n : Nat) (l : List UInt8), l.length ≤ n → ∀ t k, unqR l = some (t, k) → 1 ≤ k ∧ l[k - 1]? = some 34 ∧ t.length + 1 ≤ k ∧ k ≤ l.length := by
  intro n
  induction n with
  | zero =>
    intro l hl t k h
    obtain rfl : l = [] := List.eq_nil_of_length_eq_zero (by omega)
    rw [unqR_nil] at h
    cases h
  | succ n ih =>
    intro l hl t k h
    cases l with
    | nil => rw [unqR_nil] at h; cases h
    | cons c r =>
      simp only [List.length_cons] at hl
      by_cases h1 : c = 34
      · subst h1
        rw [unqR_end] at h
        injection h with h
        injection h with h2 h3
        subst h2 h3
        simp
      by_cases h2 : c = 92
      · subst h2
        match r, hl, h with
        | [], _, h => rw [unqR_esc0] at h; cases h
        | [a], _, h => rw [unqR_esc1] at h; cases h
        | a :: b :: r', hl, h =>
          by_cases hh : 0 ≤ hexI a ∧ 0 ≤ hexI b ∧ plainB (hexB a b) = false
          · rw [unqR_esc hh] at h
            obtain ⟨⟨t', k'⟩, e1, e2⟩ := Option.map_eq_some_iff.1 h
            simp only [List.length_cons] at hl
            obtain ⟨g1, g2, g3, g4⟩ := ih r' (by omega) t' k' e1
            simp only [Prod.mk.injEq] at e2
            obtain ⟨rfl, rfl⟩ := e2
            refine ⟨by omega, ?_, by simp only [List.length_cons]; omega, by simp only [List.length_cons]; omega⟩
            rw [show k' + 3 - 1 = (k' - 1) + 1 + 1 + 1 by omega]
            simpa using g2
          · rw [unqR_bad hh] at h; cases h
      · cases hp : plainB c
        · rw [unqR_odd h1 h2 hp] at h; cases h
        · rw [unqR_plain hp] at h
          obtain ⟨⟨t', k'⟩, e1, e2⟩ := Option.map_eq_some_iff.1 h
          obtain ⟨g1, g2, g3, g4⟩ := ih r (by omega) t' k' e1
          simp only [Prod.mk.injEq] at e2
          obtain ⟨rfl, rfl⟩ := e2
          refine ⟨by omega, ?_, by simp only [List.length_cons]; omega, by simp only [List.length_cons]; omega⟩
          rw [show k' + 1 - 1 = (k' - 1) + 1 by omega]
          simpa using g2
theorem unqR_quote : ∀ (t rest : List UInt8), unqR (t.flatMap qbyte ++ 34 :: rest) = some (t, (t.flatMap qbyte).length + 1) := by
  intro t
  induction t with
  | nil => intro rest; simp [unqR_end]
  | cons c t ih =>
    intro rest
    have h := ih rest
    cases hp : plainB c
    · obtain ⟨h1, h2, h3⟩ := hexd_hex c
      simp only [List.flatMap_cons, qbyte, hp, Bool.false_eq_true, if_false, List.cons_append, List.nil_append, List.length_cons]
      rw [unqR_esc ⟨h1, h2, by rw [h3]; exact hp⟩, h, h3]
      simp
    · simp only [List.flatMap_cons, qbyte, hp, if_true, List.cons_append, List.nil_append, List.length_cons]
      rw [unqR_plain hp, h]
      simp
def unqO (l : List UInt8) : List UInt8 × Nat := if l.head? = some 34 then (match unqR (l.drop 1) with
  | some (t, n) => (t, n + 1)
  | none => ([], 0)) else ([], 0)
def UnqR (l : List UInt8) (i : Nat) (tx : List UInt8) : Prop := unqR (l.drop 1) = (unqR (l.drop i)).map fun x => (tx ++ x.1, x.2 + (i - 1))
theorem UnqR.start (l : List UInt8) : UnqR l 1 [] := by
  unfold UnqR
  cases unqR (l.drop 1) <;> simp
theorem drop_at {l : List UInt8} {i : Nat} {c : UInt8} (hc : l[i]? = some c) : l.drop i = c :: l.drop (i + 1) := by
  obtain ⟨h1, e1⟩ := List.getElem?_eq_some_iff.1 hc
  rw [List.drop_eq_getElem_cons h1, e1]
theorem UnqR.plain {l : List UInt8} {i : Nat} {tx : List UInt8} {c : UInt8} (h : UnqR l i tx) (h1 : 1 ≤ i) (hc : l[i]? = some c) (hp : plainB c = true) : UnqR l (i + 1) (tx ++ [c]) := by
  unfold UnqR at h ⊢
  rw [h, drop_at hc, unqR_plain hp]
  cases unqR (l.drop (i + 1)) with
  | none => rfl
  | some x => simp; omega
theorem UnqR.esc {l : List UInt8} {i : Nat} {tx : List UInt8} {a b : UInt8} (h : UnqR l i tx) (h1 : 1 ≤ i) (hc : l[i]? = some 92) (ha : l[i + 1]? = some a) (hb : l[i + 2]? = some b) (hh : 0 ≤ hexI a ∧ 0 ≤ hexI b ∧ plainB (hexB a b) = false) : UnqR l (i + 3) (tx ++ [hexB a b]) := by
  unfold UnqR at h ⊢
  rw [h, drop_at hc, drop_at ha, drop_at hb, unqR_esc hh]
  cases unqR (l.drop (i + 3)) with
  | none => rfl
  | some x => simp; omega
theorem UnqR.bad {l : List UInt8} {i : Nat} {tx : List UInt8} {a b : UInt8} (h : UnqR l i tx) (hc : l[i]? = some 92) (ha : l[i + 1]? = some a) (hb : l[i + 2]? = some b) (hh : ¬ (0 ≤ hexI a ∧ 0 ≤ hexI b ∧ plainB (hexB a b) = false)) : unqR (l.drop 1) = none := by
  unfold UnqR at h
  rw [h, drop_at hc, drop_at ha, drop_at hb, unqR_bad hh]
  rfl
theorem UnqR.short {l : List UInt8} {i : Nat} {tx : List UInt8} (h : UnqR l i tx) (hc : l[i]? = some 92) (hl : l.length ≤ i + 2) : unqR (l.drop 1) = none := by
  unfold UnqR at h
  rw [h, drop_at hc]
  have : (l.drop (i + 1)).length ≤ 1 := by simp; omega
  match l.drop (i + 1), this with
  | [], _ => rw [unqR_esc0]; rfl
  | [a], _ => rw [unqR_esc1]; rfl
theorem UnqR.odd {l : List UInt8} {i : Nat} {tx : List UInt8} {c : UInt8} (h : UnqR l i tx) (hc : l[i]? = some c) (h1 : c ≠ 34) (h2 : c ≠ 92) (hp : plainB c = false) : unqR (l.drop 1) = none := by
  unfold UnqR at h
  rw [h, drop_at hc, unqR_odd h1 h2 hp]
  rfl
theorem UnqR.done {l : List UInt8} {i : Nat} {tx : List UInt8} (h : UnqR l i tx) (h1 : 1 ≤ i) (hc : l[i]? = some 34) : unqR (l.drop 1) = some (tx, i) := by
  unfold UnqR at h
  rw [h, drop_at hc, unqR_end]
  simp; omega
def pText (l : List UInt8) : V × Int := match unqR (l.drop 1) with
  | some (t, n) => if n + 1 ≠ l.length then (V.null, 2) else if 32 < t.length then (V.null, 1) else (⟨2, 0, ⟨t.toArray⟩⟩, 0)
  | none => (V.null, 2)
theorem pText_none {l : List UInt8} (h : unqR (l.drop 1) = none) : pText l = (V.null, 2) := by unfold pText; rw [h]
theorem pText_some {l t : List UInt8} {n : Nat} (h : unqR (l.drop 1) = some (t, n)) : pText l = if n + 1 ≠ l.length then (V.null, 2) else if 32 < t.length then (V.null, 1) else (⟨2, 0, ⟨t.toArray⟩⟩, 0) := by unfold pText; rw [h]
theorem pText_open {l : List UInt8} (h : l.length < 2 ∨ l[l.length - 1]? ≠ some 34) : pText l = (V.null, 2) := by
  cases hu : unqR (l.drop 1) with
  | none => exact pText_none hu
  | some x =>
    obtain ⟨t, n⟩ := x
    rw [pText_some hu]
    obtain ⟨g1, g2, _, g4⟩ := unqR_last _ _ (Nat.le_refl _) t n hu
    by_cases hn : n + 1 ≠ l.length
    · rw [if_pos hn]
    · exfalso
      have hn' : n + 1 = l.length := by omega
      rcases h with h | h
      · omega
      · apply h
        rw [List.getElem?_drop] at g2
        rw [← g2]
        congr 1
        omega
def isDig (c : UInt8) : Bool := decide (48 ≤ c.toNat) && decide (c.toNat ≤ 57)
def decB (d : List UInt8) : Bool := d.all isDig && (d.length == 1 || (decide (1 < d.length) && d.head? != some 48))
def valF (acc : Nat) (d : List UInt8) : Nat := d.foldl (fun n c => n * 10 + (c.toNat - 48)) acc
theorem valF_cons (acc : Nat) (c : UInt8) (d : List UInt8) : valF acc (c :: d) = valF (acc * 10 + (c.toNat - 48)) d := by unfold valF; rw [List.foldl_cons]
theorem valF_snoc (acc : Nat) (c : UInt8) (d : List UInt8) : valF acc (d ++ [c]) = valF acc d * 10 + (c.toNat - 48) := by simp [valF]
theorem valF_ge : ∀ (d : List UInt8) (acc : Nat), acc ≤ valF acc d := by
  intro d
  induction d with
  | nil => intro acc; exact Nat.le_refl _
  | cons c d ih => intro acc; have := ih (acc * 10 + (c.toNat - 48)); rw [valF_cons]; omega
theorem decB_zero {d : List UInt8} (h : decB d = true) : valF 0 d = 0 ↔ d = [48] := by
  constructor
  · intro h0
    unfold decB at h
    rw [Bool.and_eq_true, Bool.or_eq_true] at h
    obtain ⟨hd, hl⟩ := h
    cases d with
    | nil => simp at hl
    | cons c r =>
      have hc : 48 ≤ c.toNat := by
        have := List.all_eq_true.1 hd c (by simp)
        unfold isDig at this
        rw [Bool.and_eq_true, decide_eq_true_eq] at this
        exact this.1
      have hv := valF_ge r (0 * 10 + (c.toNat - 48))
      rw [valF_cons] at h0
      have hc8 : c.toNat = 48 := by omega
      have hce : c = 48 := UInt8.toNat_inj.1 hc8
      subst hce
      cases r with
      | nil => rfl
      | cons e r =>
        exfalso
        rcases hl with hl | hl
        · simp at hl
        · simp at hl
  · rintro rfl; simp [valF]
theorem parseUintM_dig : ∀ (d : List UInt8) (acc : Nat), d.all isDig = true → acc ≤ 18446744073709551615 → (Lib.parseUintM 18446744073709551615 acc d = .ok (valF acc d)) ∨ (Lib.parseUintM 18446744073709551615 acc d = .range ∧ 18446744073709551615 < valF acc d) := by
  intro d
  induction d with
  | nil => intro acc _ _; exact .inl rfl
  | cons c d ih =>
    intro acc h ha
    simp only [List.all_cons, Bool.and_eq_true] at h
    have hc : 48 ≤ c.toNat ∧ c.toNat ≤ 57 := by simpa [isDig] using h.1
    have hv := valF_ge d (acc * 10 + (c.toNat - 48))
    rw [valF_cons, Lib.parseUintM, if_pos hc]
    split
    · right; exact ⟨rfl, by omega⟩
    · split
      · right; exact ⟨rfl, by omega⟩
      · exact ih _ h.2 (by omega)
def negB (l : List UInt8) : Bool := l.head? == some 45
def digs (l : List UInt8) : List UInt8 := if l.head? = some 45 then l.drop 1 else l
def pInt (l : List UInt8) : V × Int := if decB (digs l) = false ∨ (negB l = true ∧ valF 0 (digs l) = 0) then (V.null, 2) else if 4294967296 < valF 0 (digs l) then (V.null, 1) else (⟨1, if negB l then -(valF 0 (digs l) : Int) else valF 0 (digs l), ⟨#[]⟩⟩, 0)
theorem decB_ne {d : List UInt8} (h : decB d = true) : d ≠ [] ∧ d.all isDig = true := by
  simp only [decB, Bool.and_eq_true, Bool.or_eq_true] at h
  refine ⟨?_, h.1⟩
  rintro rfl
  simp at h
theorem parseUintB_dig {d : List UInt8} (h : decB d = true) : (Lib.parseUintB 64 d = .ok (valF 0 d)) ∨ (Lib.parseUintB 64 d = .range ∧ 18446744073709551615 < valF 0 d) := by
  obtain ⟨h1, h2⟩ := decB_ne h
  unfold Lib.parseUintB
  rw [if_neg h1]
  exact parseUintM_dig d 0 h2 (by omega)
theorem parseIntB_dig {l : List UInt8} (h : decB (digs l) = true) : (Lib.parseIntB 64 l = .ok (if negB l then -(valF 0 (digs l) : Int) else valF 0 (digs l))) ∨ (Lib.parseIntB 64 l = .range ∧ 4294967296 < valF 0 (digs l)) := by
  cases l with
  | nil => simp [digs] at h; revert h; decide
  | cons c r =>
    have hu := parseUintB_dig h
    by_cases hc : c = 45
    · subst hc
      have e1 : digs (45 :: r) = r := by simp [digs]
      have e2 : negB (45 :: r) = true := by simp [negB]
      rw [e1] at hu
      rw [e1, e2]
      unfold Lib.parseIntB
      simp only [show (45 : UInt8).toNat = 45 from rfl, or_true, if_true, not_true, false_and, if_false, true_and]
      rcases hu with hu | ⟨hu, hv⟩
      · rw [hu]
        simp only
        split
        · right; exact ⟨rfl, by omega⟩
        · left; rfl
      · rw [hu]; right; exact ⟨rfl, by omega⟩
    · have e1 : digs (c :: r) = c :: r := by simp [digs, hc]
      have e2 : negB (c :: r) = false := by simp [negB, hc]
      rw [e1] at hu h
      rw [e1, e2]
      have hd := (decB_ne h).2
      simp [isDig] at hd
      have h43 : ¬ (c.toNat = 43 ∨ c.toNat = 45) := by omega
      have h45 : ¬ c.toNat = 45 := by omega
      unfold Lib.parseIntB
      simp only
      rw [if_neg h43]
      simp only [h45, if_false, not_false_eq_true, true_and, false_and]
      rcases hu with hu | ⟨hu, hv⟩
      · rw [hu]
        simp only
        split
        · right; exact ⟨rfl, by omega⟩
        · left; simp
      · rw [hu]; right; exact ⟨rfl, by omega⟩
def nullL : List UInt8 := [110, 117, 108, 108]
def parseO (l : List UInt8) : V × Int := if l = nullL then (V.null, 0) else if l.head? = some 34 then pText l else pInt l
end Go.Proofs.YtpnfbehbheddeaaGreatDoor
