/- Contracts of the reference's fields, end and Valid: rows of at most a thousand terms. A function that defers a closure which only recovers: what it leaves where nothing panics. No condition. Contract of the program's Valid, and what its deferred closures do where nothing panics. The types of expressions, in plain Lean, and that values have the types. No program in sight, no condition. Contract of the program's evalAt. Substitution and folding of expressions, in plain Lean: values and types stay. No program in sight, no condition. The columns and the text of expressions, in plain Lean. No program in sight, no condition. The tree of a valid expression, and what is read off it: value, text, type. Plain Lean, no condition. Contract of the program's opName. No condition. Contracts of the program's opName, formatAt and Format: names of at most a hundred bytes; the table of powers of ten is as it is laid. Contracts of the tape's Next: whatever the tape holds, a number from 0 to n - 1 comes back and only the tape's own block has changed. n is below 2^40, the tape has fewer than 2^44 numbers. -/
import Derived.Test.YtpnfbehbheddeaaGreatDoorBn08
import Derived.Test.YtpnfbehbheddeaaGreatDoorBn00
import Derived.Test.YtpnfbehbheddeaaGreatDoorProg
import Derived.Test.YtpnfbehbheddeaaGreatDoorBn06
import Derived.Test.YtpnfbehbheddeaaGreatDoorBn03
import Derived.Test.YtpnfbehbheddeaaGreatDoorBn01
import Derived.Laws.StructEq
import Derived.Deep.DeepCutAuto
import Derived.Deep.RegionWith
import Derived.Deep.Light
import Derived.Test.YtpnfbehbheddeaaGreatDoorShelf
import Derived.Laws.Tables
import Derived.Laws.CopyOwn
import Derived.Laws.MakeOwn
import Derived.Laws.Concat
namespace Go.Proofs.YtpnfbehbheddeaaGreatDoor
set_option maxRecDepth 100000
set_option maxHeartbeats 8000000
set_option linter.unusedVariables false
set_option linter.unusedSimpArgs false
open Go.RowKit
theorem rfields (t : T) (w : World) : Calls Tryz.prog 120 #[.agg #[.int .i64 t.op, .int .i64 t.v.k, .int .i64 t.v.n, .string t.v.s, .int .i64 t.c]] w fun e w' => e = .returned (.bool t.fok) ∧ Below w.heap.size w w' := by
  have he := run_eqV t.v.k t.v.n t.v.s 0 0 ⟨#[]⟩
  rw [show eqB t.v.k t.v.n t.v.s 0 0 ⟨#[]⟩ = t.v.beq V.null from rfl] at he
  by_cases h1 : t.op = 1
  · have t1 : (t.op == 1) = true := by simpa using h1
    have HT := Lib.hid (show t.fok = (t.c == 0 && (t.v.k != 0 && t.v.ok)) by unfold T.fok; rw [if_pos h1])
    clear h1
    go_enter Tryz.func120, Tryz.ntmps120
    go_wp2_with (go_at_call 178; refine (rvalid t.v _).mono ?_; rintro e w2 ⟨rfl, hb2⟩; obtain ⟨hc2, hf2⟩ := bcell hb2; have hz2 := (hb2).size; (try simp at hz2))
    all_goals go_ret
    all_goals refine ⟨ret_bool ?_, by (exact belQ)⟩
    all_goals rw [HT.out]
    all_goals simp_all
    all_goals exact Bool.and_comm _ _
  have t1 : (t.op == 1) = false := by simpa using h1
  by_cases h2 : t.op = 2
  · have t2 : (t.op == 2) = true := by simpa using h2
    have HT := Lib.hid (show t.fok = (decide (0 ≤ t.c) && t.v.beq V.null) by unfold T.fok; rw [if_neg h1, if_pos h2])
    clear h1 h2
    generalize t.v.beq V.null = nb at he HT
    go_enter Tryz.func120, Tryz.ntmps120
    go_wp2_with fail
    all_goals go_ret
    all_goals refine ⟨ret_bool ?_, by (exact belQ)⟩
    all_goals rw [HT.out]
    all_goals simp_all
  · have t2 : (t.op == 2) = false := by simpa using h2
    have HT := Lib.hid (show t.fok = (t.c == 0 && t.v.beq V.null) by unfold T.fok; rw [if_neg h1, if_neg h2])
    clear h1 h2
    generalize t.v.beq V.null = nb at he HT
    go_enter Tryz.func120, Tryz.ntmps120
    go_wp2_with fail
    all_goals go_ret
    all_goals refine ⟨ret_bool ?_, by (exact belQ)⟩
    all_goals rw [HT.out]
    all_goals simp_all
def EPost (w : World) (x : Int) (e : Ending) (w' : World) : Prop := e = .returned (.int .i64 x) ∧ Below w.heap.size w w'
def ERel (w : World) (es : List T) (at_ dp n : Nat) (v1 v5 : Value) (wr : World) : Prop := ∃ i d e : Nat, v5 = .int .i64 i ∧ v1 = .int .i64 e ∧ i ≤ n ∧ e ≤ es.length ∧ Rd3 dp es (at_ + 1) i d e ∧ Below w.heap.size w wr
theorem rend (A : Option Addr) (n c : Nat) (es : List T) (hn : n ≤ 1000) : ∀ (dp pos : Nat) (w : World), dp ≤ 1000 → pos ≤ n → RowT w w.heap.size A n es → Calls Tryz.prog 69 #[.slice A n c, .int .i64 (pos : Int), .int .i64 (dp : Int)] w (EPost w (endO es pos dp)) := by
  intro dp
  induction dp with
  | zero =>
    intro pos w hd hp hr
    have HR := Lib.hid (endO_zero es pos)
    by_cases hlt : pos < n
    · have h1 : ¬ (n : Int) ≤ (pos : Int) := by omega
      go_enter Tryz.func69, Tryz.ntmps69
      go_wp2_with fail
      go_ret
      exact ⟨ret_int HR.out.symm, by (exact belQ)⟩
    · have h1 : (n : Int) ≤ (pos : Int) := by omega
      go_enter Tryz.func69, Tryz.ntmps69
      go_wp2_with fail
      go_ret
      exact ⟨ret_int HR.out.symm, by (exact belQ)⟩
  | succ dp ih =>
    intro pos w hd hp hr
    have hl := hr.len
    have HLN := Lib.hid hl
    have hdz : ((dp : Int) + 1 == 0) = false := by simp; omega
    by_cases hlt : pos < n
    case neg =>
      have HR := Lib.hid (endO_over (es := es) (at_ := pos) (dp := dp + 1) (by omega))
      have h1 : (n : Int) ≤ (pos : Int) := by omega
      clear hl
      go_enter Tryz.func69, Tryz.ntmps69
      go_wp2_with fail
      go_ret
      exact ⟨ret_int HR.out.symm, by (exact belQ)⟩
    case pos =>
      obtain ⟨b, off, t, rfl, hb, ht, c0, c1, c2, c3, c4⟩ := RowT.at5 hr hlt
      have HT := Lib.hid ht
      have h1 : ¬ (n : Int) ≤ (pos : Int) := by omega
      have hp0 : (0 : Int) ≤ (pos : Int) := by omega
      have hp1 : (pos : Int) < (n : Int) := by omega
      clear ht hl
      by_cases ha : arity t.op < 0
      · have hok : t.ok = false := by rw [T.ok_fok, show decide (0 ≤ arity t.op) = false by simpa using ha]; rfl
        have HR := Lib.hid (endO_bad (dp := dp + 1) HT.out hok)
        clear hok
        go_enter Tryz.func69, Tryz.ntmps69
        go_wp2_with (go_at_call 29; refine (rarity t.op _).mono ?_; rintro e w1 ⟨rfl, rfl⟩)
        go_ret
        exact ⟨ret_int HR.out.symm, by (exact belQ)⟩
      have hak : decide (0 ≤ arity t.op) = true := by simp; omega
      cases hok : t.fok
      · have HK := Lib.hid hok
        have HR := Lib.hid (endO_bad (dp := dp + 1) HT.out (show t.ok = false by rw [T.ok_fok, hok, Bool.and_false]))
        clear hok
        go_enter Tryz.func69, Tryz.ntmps69
        go_wp2_with (first
          | (go_at_call 29; refine (rarity t.op _).mono ?_; rintro e w1 ⟨rfl, rfl⟩)
          | (go_at_call 120; refine (rfields t _).mono ?_; rintro e w1 ⟨rfl, hb1⟩; rw [HK.out]))
        go_ret
        exact ⟨ret_int HR.out.symm, by (exact belQ)⟩
      · have HF := Lib.hid hok
        have HK := Lib.hid (show t.ok = true by rw [T.ok_fok, hok, hak]; rfl)
        clear hok
        have har := arity_range t.op
        have HN := Lib.hid (show (ar t.op : Int) = arity t.op by unfold ar; omega)
        have hpw : IntKind.i64.wrap ((pos : Int) + 1) = (pos : Int) + 1 := IntWalk.i64_in _ (by omega)
        go_enter Tryz.func69, Tryz.ntmps69
        go_wp2_with (first
          | (go_at_call 29; refine (rarity t.op _).mono ?_; rintro e w1 ⟨rfl, rfl⟩)
          | (go_at_call 120; refine (rfields t _).mono ?_; rintro e w1 ⟨rfl, hb1⟩; rw [HF.out]; obtain ⟨hc1, hf1⟩ := bcell hb1; have hz1 := (hb1).size; (try simp at hz1)))
        have hspos : pos + 1 ≤ es.length := by rw [HLN.out]; omega
        go_loopw [1, 8] (fun v1 v5 wr => ERel w es pos dp (ar t.op) v1 v5 wr) (fun _ v5 _ => ar t.op - (intOf v5).toNat)
        case atStart => exact ⟨0, 0, pos + 1, rfl, by go_num, Nat.zero_le _, hspos, Rd3.start _ _ _, by (exact belQ)⟩
        case round =>
          obtain ⟨i, d, e, rfl, rfl, hi, he, hR, hbel⟩ := hrel
          have hle := hR.le
          have HR := Lib.hid hR
          clear hR
          have hzz := hbel.size
          by_cases hlt2 : i < ar t.op
          · have hia : (i : Int) < arity t.op := by have := HN.out; omega
            have ihe := ih e wr (by omega) (by have := HLN.out; omega) ((hr.below hbel).more hzz)
            have hml := endO_le (dp := dp) he
            have HS := Lib.hid (fun h => end_step HR.out h)
            have HF2 := Lib.hid (fun h => end_fail HT.out HK.out HR.out h hlt2)
            have hdd : IntKind.i64.wrap (dp : Int) = (dp : Int) := IntWalk.i64_in _ (by omega)
            obtain ⟨y, hy⟩ : ∃ y, endO es e dp = y := ⟨_, rfl⟩
            rw [hy] at ihe hml HS HF2
            clear hy hlt2
            by_cases hdp : y < 0
            · have HD := Lib.hid (HF2.out hdp)
              go_wp2_with (go_at_call 69; refine ihe.mono ?_; rintro e2 w2 ⟨rfl, hb2⟩)
              go_ret
              exact ⟨ret_int HD.out.symm, by (exact belQ)⟩
            · obtain ⟨d', e', hy', hR'⟩ := HS.out (by omega)
              have HD := Lib.hid hR'
              clear hR'
              go_wp2_with (go_at_call 69; refine ihe.mono ?_; rintro e2 w2 ⟨rfl, hb2⟩)
              go_roundw
              case rel => exact ⟨i + 1, d', e', by go_num, by first | rfl | exact val_int hy', by have := HN.out; omega, by omega, HD.out, by (exact belQ)⟩
              case measure => simp [intOf]; have := HN.out; omega
          · have hia : ¬ (i : Int) < arity t.op := by have := HN.out; omega
            have hieq : i = ar t.op := by omega
            subst hieq
            have HD := Lib.hid (end_done HT.out HK.out HR.out)
            clear hlt2
            go_wp2_with fail
            go_ret
            exact ⟨ret_int HD.out.symm, by (exact belQ)⟩
theorem rvalidE (A : Option Addr) (n c : Nat) (es : List T) (w : World) (hn : n ≤ maxLen) (hr : RowT w w.heap.size A n es) : Calls Tryz.prog 36 #[.slice A n c] w fun e w' => e = .returned (.bool (validE es)) ∧ Below w.heap.size w w' := by
  unfold maxLen at hn
  have HL := Lib.hid hr.len
  have HV := Lib.hid (valid_ref es)
  rw [hr.len] at HV
  by_cases h0 : n = 0
  · have h1 : ¬ (1 : Int) ≤ (n : Int) := by omega
    have HR := Lib.hid (show validE es = false by rw [HV.out, show decide (1 ≤ n) = false by simp; omega]; rfl)
    go_enter Tryz.func36, Tryz.ntmps36
    go_wp2_with fail
    go_ret
    exact ⟨ret_bool HR.out.symm, by (exact belQ)⟩
  have h1 : (1 : Int) ≤ (n : Int) := by omega
  by_cases h64 : 64 < n
  · have h2 : ¬ (n : Int) ≤ 64 := by omega
    have HR := Lib.hid (show validE es = false by rw [HV.out, show decide (n ≤ 64) = false by simp; omega, Bool.false_and, Bool.and_false])
    go_enter Tryz.func36, Tryz.ntmps36
    go_wp2_with fail
    go_ret
    exact ⟨ret_bool HR.out.symm, by (exact belQ)⟩
  have h2 : (n : Int) ≤ 64 := by omega
  have hE := rend A n c es (by omega) 16 0 w (by omega) (by omega) hr
  have HR := Lib.hid (show validE es = (endO es 0 16 == (n : Int)) by rw [HV.out, show decide (1 ≤ n) = true by simp; omega, show decide (n ≤ 64) = true by simp; omega]; rfl)
  obtain ⟨y, hy⟩ : ∃ y, endO es 0 16 = y := ⟨_, rfl⟩
  rw [hy] at HR hE
  clear hy
  go_enter Tryz.func36, Tryz.ntmps36
  go_wp2_with (go_at_call 69; refine hE.mono ?_; rintro e2 w2 ⟨rfl, hb2⟩)
  go_ret
  exact ⟨ret_bool HR.out.symm, by (exact belQ)⟩
theorem leave_idle {P : Program} {fn : Func} {f : FuncId} {tmps : Array Value} {R : Ending → World → Prop} {w : World} {v : Value}
    (idle : ∀ w, CallsD P f #[] .returning w fun e u' w' => e = .returned (.tuple #[]) ∧ u' = .returning ∧ w' = w)
    (hi : (invoke (.fn (.func f) #[]) #[]).run P w = .ok (.enter f #[]) w) (hr : (results fn tmps).run P w = .ok v w) (h : R (.returned v) w) :
    bodyPostD P fn R .ret { tmps := tmps, defers := [{ target := .fn (.func f) #[], args := #[] }] } w := by
  show Leaves P fn tmps R [{ target := .fn (.func f) #[], args := #[] }] .returning w
  refine leaves_cons (f := f) (args := #[]) (by simp) hi ?_
  refine (idle w).mono ?_
  rintro e u' w'' ⟨rfl, rfl, rfl⟩
  exact ⟨v, hr, h⟩
theorem idle_Valid (w : World) : CallsD Tryz.prog 53 #[] .returning w fun e u' w' => e = .returned (.tuple #[]) ∧ u' = .returning ∧ w' = w := by
  refine callsD_of_wpS Tryz.func53 rfl fun c₀ cs hu => ?_
  apply wpS_region
  cases c₀
  simp_all [wpOpsS, go_sem, recoverD, Tryz.ntmps53, bodyPostS, results, Tryz.results53]
theorem xvalidE (A : Option Addr) (n c : Nat) (es : List T) (w : World) (hn : n ≤ maxLen) (hr : RowT w w.heap.size A n es) : Calls Tryz.prog 26 #[.slice A n c] w fun e w' => e = .returned (.bool (validE es)) ∧ Below w.heap.size w w' := by
  have hmf : ∀ (fn : Fn) (first cap : Array Value) (w : World), (Instr.makeFunc fn first cap).run Tryz.prog w = .ok (.func fn first cap) w := fun _ _ _ _ => rfl
  unfold maxLen at hn
  have HV := Lib.hid (valid_prog es)
  rw [hr.len] at HV
  by_cases h64 : 64 < n
  · have h2 : (64 : Int) < (n : Int) := by omega
    have HR := Lib.hid (show validE es = false by rw [HV.out, show decide (n ≤ 64) = false by simp; omega]; rfl)
    go_enter_defers Tryz.func26, Tryz.ntmps26
    go_wp2_with fail
    refine leave_idle idle_Valid (by simp [go_sem]) (by simp [results, Tryz.results26, go_sem]; rfl) ?_
    exact ⟨ret_bool HR.out.symm, by (exact belQ)⟩
  have h2 : ¬ (64 : Int) < (n : Int) := by omega
  have hE := xmeasure A n c es (by omega) n 0 w (by omega) (by omega) hr
  have hml := measO_le (es := es) (e := 0) (by omega)
  rw [hr.len] at hml
  have HR := Lib.hid (show validE es = (decide (0 < (measO es 0).1) && (decide ((measO es 0).1 ≤ 16) && decide ((measO es 0).2 = n))) by rw [HV.out, show decide (n ≤ 64) = true by simp; omega]; rfl)
  obtain ⟨y, hy⟩ : ∃ y, measO es 0 = y := ⟨_, rfl⟩
  rw [hy] at HR hE hml
  clear hy
  obtain ⟨d, e⟩ := y
  simp only at hml HR
  go_enter_defers Tryz.func26, Tryz.ntmps26
  go_wp2_with (go_at_call 54; refine hE.mono ?_; rintro e2 w2 ⟨rfl, hb2⟩)
  all_goals refine leave_idle idle_Valid (by simp [go_sem]) (by simp [results, Tryz.results26, go_sem]; rfl) ?_
  all_goals refine ⟨ret_bool ?_, by (exact belQ)⟩
  all_goals rw [HR.out, Bool.eq_iff_iff]
  all_goals simp
  all_goals omega
theorem term_op {t : T} (h : t.ok = true) : 1 ≤ t.op ∧ t.op ≤ 18 := by
  unfold T.ok at h
  rw [Bool.and_eq_true, decide_eq_true_eq] at h
  exact arity_known h.1
theorem term_col {t : T} (h : t.ok = true) (h2 : t.op = 2) : 0 ≤ t.c ∧ t.v = V.null := by
  unfold T.ok at h
  rw [if_neg (by omega), if_pos h2, Bool.and_eq_true, Bool.and_eq_true, decide_eq_true_eq, decide_eq_true_eq, V.beq_iff] at h
  exact h.2
theorem kid_at {es : List T} {pos : Nat} {t : T} {ks : List X} {r : List T} (hx : es.drop pos = (X.node t ks).flat ++ r) {i : Nat} {k : X} (h : ks[i]? = some k) : es.drop (pos + 1 + (flats (ks.take i)).length) = k.flat ++ (flats (ks.drop (i + 1)) ++ r) := by
  have hl : i < ks.length := (List.getElem?_eq_some_iff.1 h).1
  have hs : flats ks = flats (ks.take i) ++ (k.flat ++ flats (ks.drop (i + 1))) := by
    conv => lhs; rw [← List.take_append_drop i ks]
    rw [List.drop_eq_getElem_cons hl, (List.getElem?_eq_some_iff.1 h).2]
    generalize ks.take i = l
    induction l with
    | nil => simp [flats]
    | cons y ys ih => simp only [List.cons_append, flats_cons, ih]; simp
  rw [X.flat_node, hs] at hx
  have e1 : es.drop (pos + 1) = flats (ks.take i) ++ (k.flat ++ flats (ks.drop (i + 1))) ++ r := by
    rw [← List.drop_drop, hx]; simp
  rw [← List.drop_drop, e1, List.append_assoc, List.drop_left, List.append_assoc]
theorem kid_in {ks : List X} {i : Nat} {k : X} (h : ks[i]? = some k) : k.depth ≤ deepest ks ∧ (wfs ks = true → k.wf = true) ∧ (flats (ks.take (i + 1))).length = (flats (ks.take i)).length + k.flat.length := by
  have hl : i < ks.length := (List.getElem?_eq_some_iff.1 h).1
  refine ⟨?_, ?_, ?_⟩
  · have : ∀ (l : List X) (k : X), k ∈ l → k.depth ≤ deepest l := by
      intro l
      induction l with
      | nil => intro k hk; cases hk
      | cons y ys ih =>
        intro k hk
        simp only [deepest]
        rcases List.mem_cons.1 hk with rfl | hk
        · omega
        · have := ih k hk; omega
    exact this ks k (List.mem_of_getElem? h)
  · have : ∀ (l : List X) (k : X), k ∈ l → wfs l = true → k.wf = true := by
      intro l
      induction l with
      | nil => intro k hk; cases hk
      | cons y ys ih =>
        intro k hk hw
        simp only [wfs, Bool.and_eq_true] at hw
        rcases List.mem_cons.1 hk with rfl | hk
        · exact hw.1
        · exact ih k hk hw.2
    exact this ks k (List.mem_of_getElem? h)
  · rw [List.take_add_one, h]
    simp only [Option.toList_some]
    rw [flats_snoc, List.length_append]
def colsIn (n : Nat) (e : List T) : Prop := ∀ t ∈ e, t.op = 2 → t.c < n
def addL : List Int → Int → List Int
  | [], n => [n]
  | a :: l, n => if a < n then a :: addL l n else if a = n then a :: l else n :: a :: l
def colsL (e : List T) : List Int := (e.filter fun t => t.op == 2).map T.c
def colsA (e : List T) : List Int := (colsL e).foldl addL []
def asc : List Int → Prop
  | [] => True
  | [_] => True
  | a :: b :: l => a < b ∧ asc (b :: l)
theorem asc_tail {a : Int} {l : List Int} (h : asc (a :: l)) : asc l := by
  cases l with
  | nil => trivial
  | cons b l => exact h.2
theorem asc_lt : ∀ {l : List Int} {a : Int}, asc (a :: l) → ∀ x ∈ l, a < x := by
  intro l
  induction l with
  | nil => intro a _ x hx; cases hx
  | cons b l ih =>
    intro a h x hx
    rcases List.mem_cons.1 hx with rfl | hx
    · exact h.1
    · have := ih h.2 x hx
      have := h.1
      omega
theorem asc_cons {a : Int} {l : List Int} (h : asc l) (ha : ∀ x ∈ l, a < x) : asc (a :: l) := by
  cases l with
  | nil => trivial
  | cons b l => exact ⟨ha b (by simp), h⟩
theorem asc_unique : ∀ (l m : List Int), asc l → asc m → (∀ x, x ∈ l ↔ x ∈ m) → l = m := by
  intro l
  induction l with
  | nil =>
    intro m _ _ h
    cases m with
    | nil => rfl
    | cons b m => have := (h b).2 (by simp); cases this
  | cons a l ih =>
    intro m hl hm h
    cases m with
    | nil => have := (h a).1 (by simp); cases this
    | cons b m =>
      have hab : a = b := by
        have h1 := (h a).1 (by simp)
        have h2 := (h b).2 (by simp)
        rcases List.mem_cons.1 h1 with e | e
        · exact e
        · rcases List.mem_cons.1 h2 with e2 | e2
          · exact e2.symm
          · have := asc_lt hm a e
            have := asc_lt hl b e2
            omega
      subst hab
      congr 1
      apply ih m (asc_tail hl) (asc_tail hm)
      intro x
      have hx := h x
      simp only [List.mem_cons] at hx
      constructor
      · intro h1
        have := asc_lt hl x h1
        rcases hx.1 (.inr h1) with e | e
        · omega
        · exact e
      · intro h1
        have := asc_lt hm x h1
        rcases hx.2 (.inr h1) with e | e
        · omega
        · exact e
theorem addL_mem : ∀ (l : List Int) (n x : Int), x ∈ addL l n ↔ x = n ∨ x ∈ l := by
  intro l
  induction l with
  | nil => intro n x; simp [addL]
  | cons a l ih =>
    intro n x
    unfold addL
    split
    · simp only [List.mem_cons, ih]
      constructor
      · rintro (h | h | h) <;> simp [h]
      · rintro (h | h | h) <;> simp [h]
    · split
      · rename_i h; subst h; simp
      · simp
theorem addL_asc : ∀ (l : List Int) (n : Int), asc l → asc (addL l n) := by
  intro l
  induction l with
  | nil => intro n _; trivial
  | cons a l ih =>
    intro n h
    unfold addL
    split
    · rename_i h1
      refine asc_cons (ih n (asc_tail h)) (fun x hx => ?_)
      rcases (addL_mem l n x).1 hx with e | e
      · omega
      · exact asc_lt h x e
    · split
      · exact h
      · exact ⟨by omega, h⟩
theorem foldl_add : ∀ (e l : List Int), asc l → asc (e.foldl addL l) ∧ ∀ x, x ∈ e.foldl addL l ↔ x ∈ e ∨ x ∈ l := by
  intro e
  induction e with
  | nil => intro l h; exact ⟨h, fun x => by simp⟩
  | cons a e ih =>
    intro l h
    obtain ⟨h1, h2⟩ := ih (addL l a) (addL_asc l a h)
    refine ⟨h1, fun x => ?_⟩
    rw [List.foldl_cons, h2, addL_mem, List.mem_cons]
    constructor
    · rintro (h | h | h) <;> simp [h]
    · rintro ((h | h) | h) <;> simp [h]
def treeE (l : List T) : Option X := if validE l = true then (readX 16 l).map Prod.fst else none
theorem treeE_bad {l : List T} (h : validE l = false) : treeE l = none := by unfold treeE; rw [h]; rfl
theorem treeE_flat {x : X} (h : x.flat.length ≤ 64) (hw : x.wf = true) (hd : x.depth ≤ 16) : treeE x.flat = some x := by
  have h1 : validE x.flat = true := (validE_iff _).2 ⟨h, x, rfl, hw, hd⟩
  have h2 := readX_flat x [] 16 hw hd
  rw [List.append_nil] at h2
  unfold treeE
  rw [if_pos h1, h2]
  rfl
theorem treeE_ok {l : List T} (h : validE l = true) : ∃ x, treeE l = some x ∧ l = x.flat ∧ x.wf = true ∧ x.depth ≤ 16 ∧ l.length ≤ 64 := by
  obtain ⟨h1, x, rfl, h2, h3⟩ := (validE_iff l).1 h
  exact ⟨x, treeE_flat h1 h2 h3, rfl, h2, h3, h1⟩
theorem wpList_buildTo {P : Program} {ops : Array Oper} {rest : List Oper} {o : Oper} {a : Act} {w : World} {Q : Exit → Act → World → Prop} (hg : o.guard = none) (t : TypeId) (parts : Array (Nat × Operand)) (ho : o.op = .build t parts) (cells : Array Value)
    (hc : P.built t (parts.map fun (i, x) => (i, a.eval x)).toList = some cells) (h : wpList P ops Q rest (a.put o.dst (.agg cells)) w) : wpList P ops Q (o :: rest) a w :=
  wpList_build hg t parts ho (by rw [hc]; rfl) (by rw [hc]; exact h)
abbrev RowS := @RowOf ByteArray (fun s => [Value.string s])
theorem RowS.at1 {w : World} {B n : Nat} {A : Option Addr} {ss : List ByteArray} (h : RowS w B A n ss) {k : Nat} (hk : k < n) :
   ∃ b off s, A = some ⟨b, off, none⟩ ∧ b < B ∧ ss[k]? = some s ∧ w.cell? ⟨b, off + k, none⟩ = some (.string s) := by
  obtain ⟨b, off, s, h1, h2, h3, h4⟩ := h.at_ 1 (fun _ => rfl) (by omega) hk
  have := h4 0 _ rfl
  rw [Nat.mul_one] at this
  exact ⟨b, off, s, h1, h2, h3, this⟩
structure Tp (w : World) (b g : Nat) : Prop where
  ne : b ≠ g
  lt : b < w.heap.size
  ltg : g < w.heap.size
  ex : ∃ (A : Option Addr) (n c a off : Nat), w.heap[b]? = some (.cells #[.slice A n c, .int .i64 (a : Int)] 45 (0, 0)) ∧ n ≤ 17592186044416 ∧ a ≤ 4 * n ∧ (0 < n → A = some ⟨g, off, none⟩ ∧ ∀ j, j < n → ∃ z : Int, w.cell? ⟨g, off + j, none⟩ = some (.int .i64 z))
theorem Tp.grown {w w' : World} {b g : Nat} {row : Option Nat} (h : Tp w b g) (hg : w.grownBy w' row) (h1 : row ≠ some b) (h2 : row ≠ some g) : Tp w' b g := by
  obtain ⟨hne, hlt, hltg, A, n, c, a, off, e1, e2, e3, e4⟩ := h
  refine ⟨hne, Nat.lt_of_lt_of_le hlt hg.size, Nat.lt_of_lt_of_le hltg hg.size, A, n, c, a, off, (hg.block b hlt (Ne.symm h1)).trans e1, e2, e3, fun hn => ⟨(e4 hn).1, fun j hj => ?_⟩⟩
  obtain ⟨z, hz⟩ := (e4 hn).2 j hj
  exact ⟨z, (World.cell?_of_block (hg.block g hltg (Ne.symm h2))).trans hz⟩
theorem Tp.below {w w' : World} {b g B : Nat} (h : Tp w b g) (hb : Below B w w') (h1 : b < B) (h2 : g < B) : Tp w' b g := by
  obtain ⟨hne, hlt, hltg, A, n, c, a, off, e1, e2, e3, e4⟩ := h
  refine ⟨hne, Nat.lt_of_lt_of_le hlt hb.size, Nat.lt_of_lt_of_le hltg hb.size, A, n, c, a, off, (hb.block b h1).trans e1, e2, e3, fun hn => ⟨(e4 hn).1, fun j hj => ?_⟩⟩
  obtain ⟨z, hz⟩ := (e4 hn).2 j hj
  exact ⟨z, (World.cell?_of_block (hb.block g h2)).trans hz⟩
theorem Tp.alloc {w : World} {b g : Nat} (h : Tp w b g) (o : Obj) : Tp (w.alloc o) b g :=
  h.below ((Below.refl w.heap.size w).alloc (Nat.le_refl _) o) h.lt h.ltg
theorem blk_rules {w : World} {b : Nat} {cs : Array Value} {t : TypeId} (h : w.heap[b]? = some (.cells cs t (0, 0))) : (∀ i, w.cell? ⟨b, i, none⟩ = cs[i]?) ∧ (∀ i, w.frozen? ⟨b, i, none⟩ = false) :=
  ⟨fun i => cell_of_row w b i cs t (0, 0) h, fun i => by simp [World.frozen?, h]⟩
def NextPost (w : World) (b g : Nat) (n : Int) (e : Ending) (w' : World) : Prop :=
  ∃ r : Nat, e = .returned (.int .i64 (r : Int)) ∧ (r : Int) < max n 1 ∧ Tp w' b g ∧ w.grownBy w' (some b) ∧ w'.heap.size = w.heap.size
theorem grown_refl (w : World) (r : Option Nat) : w.grownBy w r := ⟨rfl, rfl, rfl, Nat.le_refl _, fun _ _ _ => rfl⟩
theorem grown_drewN (w : World) (r : Option Nat) (k : Nat) : w.grownBy (w.drewN k) r := ⟨rfl, rfl, rfl, Nat.le_refl _, fun _ _ _ => rfl⟩
theorem Tp.drewN {w : World} {b g : Nat} (h : Tp w b g) (k : Nat) : Tp (w.drewN k) b g := ⟨h.ne, h.lt, h.ltg, h.ex⟩
theorem next_num (X n : Int) (h2 : 2 ≤ n) (hn : n ≤ 1099511627776) : ∃ r : Nat, (wrap64 (X.tmod n + n)).tmod n = (r : Int) ∧ (r : Int) < n := by
  have h3 := Int.tmod_lt_of_pos X (show 0 < n by omega)
  have h4 := Int.lt_tmod_of_pos X (show 0 < n by omega)
  rw [IntWalk.wrap64_in _ ⟨by omega, by omega⟩, Int.tmod_eq_emod_of_nonneg (by omega)]
  have h5 := Int.emod_nonneg (X.tmod n + n) (show n ≠ 0 by omega)
  have h6 := Int.emod_lt_of_pos (X.tmod n + n) (show 0 < n by omega)
  obtain ⟨r, hr⟩ := Int.eq_ofNat_of_zero_le h5
  exact ⟨r, hr, by omega⟩
theorem next_end {w : World} {b g l c a off : Nat} {A : Option Addr} (hne : b ≠ g) (hlt : b < w.heap.size) (hltg : g < w.heap.size) (e1 : w.heap[b]? = some (.cells #[.slice A l c, .int .i64 (a : Int)] 45 (0, 0))) (e2 : l ≤ 17592186044416) (ha : a + 1 ≤ 4 * l)
    (e4 : 0 < l → A = some ⟨g, off, none⟩ ∧ ∀ j, j < l → ∃ z : Int, w.cell? ⟨g, off + j, none⟩ = some (.int .i64 z)) (k : Nat) (n X : Int) (h2 : 2 ≤ n) (hn : n ≤ 1099511627776) :
    NextPost w b g n (.returned (.int .i64 ((wrap64 (X.tmod n + n)).tmod n))) ((w.drewN k).setCell ⟨b, 1, none⟩ (.int .i64 ((a : Int) + 1))) := by
  obtain ⟨r, hr, hr2⟩ := next_num X n h2 hn
  have hz : ((w.drewN k).setCell ⟨b, 1, none⟩ (.int .i64 ((a : Int) + 1))).heap.size = w.heap.size := by simp [World.setCell]
  refine ⟨r, by rw [hr], by omega, ⟨hne, by rw [hz]; exact hlt, by rw [hz]; exact hltg, A, l, c, a + 1, off, ?_, e2, ha, fun hl => ⟨(e4 hl).1, fun j hj => ?_⟩⟩, ⟨rfl, rfl, rfl, by rw [hz]; exact Nat.le_refl _, fun i hi hni => ?_⟩, hz⟩
  · have e1' : (w.drewN k).heap[b]? = some (.cells #[.slice A l c, .int .i64 (a : Int)] 45 (0, 0)) := e1
    simp only [World.setCell, Array.getElem?_modify, e1']
    simp
  · obtain ⟨z, hz⟩ := (e4 hl).2 j hj
    exact ⟨z, (World.cell?_setCell_other (w.drewN k) ⟨b, 1, none⟩ ⟨g, off + j, none⟩ _ (fun e => hne (congrArg Addr.block e))).trans hz⟩
  · exact Below.heap_setCell (w.drewN k) ⟨b, 1, none⟩ _ i (fun e => hni (by rw [e]))
theorem next_c (b g : Nat) (n : Int) (w : World) (hn : n ≤ 1099511627776) (h : Tp w b g) : Calls Tryz.prog 16 #[.pointer (some ⟨b, 0, none⟩), .int .i64 n] w (NextPost w b g n) := by
  have HT := Lib.hid h
  obtain ⟨hne, hlt, hltg, A, l, c, a, off, e1, e2, e3, e4⟩ := h
  obtain ⟨hc, hf⟩ := blk_rules e1
  have c0 : w.cell? ⟨b, 0, none⟩ = some (.slice A l c) := hc 0
  have c1 : w.cell? ⟨b, 1, none⟩ = some (.int .i64 (a : Int)) := hc 1
  have f1 := hf 1
  clear hc hf
  have E1 := Lib.hid e1
  have E4 := Lib.hid e4
  clear e1 e4
  by_cases h2 : n < 2
  · have t0 : decide (n < 2) = true := by simpa using h2
    go_enter Tryz.func16, Tryz.ntmps16
    go_wp2_with fail
    go_quiet (fail)
    go_wp2
    go_ret
    exact ⟨0, rfl, by omega, HT.out.drewN _, grown_drewN _ _ _, rfl⟩
  · have t0 : decide (n < 2) = false := by simpa using h2
    by_cases hl : l = 0
    · have t1 : ((l : Int) == 0) = true := by simpa using hl
      clear hl
      go_enter Tryz.func16, Tryz.ntmps16
      go_wp2_with fail
      go_quiet (fail)
      go_wp2
      go_ret
      exact ⟨0, rfl, by omega, HT.out.drewN _, grown_drewN _ _ _, rfl⟩
    · have t1 : ((l : Int) == 0) = false := by simpa using hl
      have e0 : IntKind.i64.wrap (4 * (l : Int)) = 4 * (l : Int) := IntWalk.i64_in _ (by omega)
      by_cases ha : 4 * l ≤ a
      · have t2 : 4 * (l : Int) ≤ (a : Int) := by omega
        have t3 : decide (4 * (l : Int) ≤ (a : Int)) = true := by simpa using t2
        go_enter Tryz.func16, Tryz.ntmps16
        go_wp2_with fail
        go_quiet (fail)
        go_wp2
        go_ret
        exact ⟨0, rfl, by omega, HT.out.drewN _, grown_drewN _ _ _, rfl⟩
      · have t2 : ¬ 4 * (l : Int) ≤ (a : Int) := by omega
        have t3 : decide (4 * (l : Int) ≤ (a : Int)) = false := by simpa using t2
        have hl1 : 1 ≤ l := by omega
        obtain ⟨hA, hz⟩ := E4.out (by omega)
        obtain ⟨q, hq⟩ : ∃ q, a / l = q := ⟨_, rfl⟩
        obtain ⟨r, hr⟩ : ∃ r, a % l = r := ⟨_, rfl⟩
        have hq4 : q < 4 := by rw [← hq]; exact (Nat.div_lt_iff_lt_mul (by omega)).2 (by omega)
        have hrl : r < l := by rw [← hr]; exact Nat.mod_lt _ (by omega)
        obtain ⟨z, hz⟩ := hz r hrl
        obtain rfl := hA
        have m0 : (a : Int).tmod (l : Int) = (r : Int) := by rw [Int.tmod_eq_emod_of_nonneg (by omega), ← hr, Int.natCast_emod]
        have d0 : (a : Int).tdiv (l : Int) = (q : Int) := by rw [Int.tdiv_eq_ediv_of_nonneg (by omega), ← hq, Int.natCast_ediv]
        clear hq hr
        have b0 : (0 : Int) ≤ (r : Int) := by omega
        have b1 : (r : Int) < (l : Int) := by omega
        have w0 : IntKind.i64.wrap (r : Int) = (r : Int) := IntWalk.i64_in _ (by omega)
        have w1 : IntKind.i64.wrap (q : Int) = (q : Int) := IntWalk.i64_in _ (by omega)
        have w2 : (0 : Int) ≤ (q : Int) := by omega
        have z0 : ((l : Int) == 0) = false := t1
        go_enter Tryz.func16, Tryz.ntmps16
        go_wp2_with fail
        go_quiet (fail)
        go_wp2_with fail
        go_quiet (fail)
        go_wp2_with fail
        go_quiet (fail)
        obtain rfl | rfl | rfl | rfl : q = 0 ∨ q = 1 ∨ q = 2 ∨ q = 3 := by omega
        all_goals go_wp2_with fail
        all_goals go_ret
        all_goals exact next_end hne hlt hltg E1.out e2 (by omega) (fun h => ⟨rfl, (E4.out h).2⟩) _ n _ (by omega) hn
end Go.Proofs.YtpnfbehbheddeaaGreatDoor
