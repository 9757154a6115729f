/- Contract of the program's measure: rows of at most a thousand terms. A function that defers a closure which only recovers: what it leaves where nothing panics. No condition. Contract of the program's Valid, and what its deferred closures do where nothing panics. -/
import Derived.Test.YtpnfbehbheddeaaGreatDoorBn14
import Derived.Test.YtpnfbehbheddeaaGreatDoorBn00
import Derived.Test.YtpnfbehbheddeaaGreatDoorProg
namespace Go.Proofs.YtpnfbehbheddeaaGreatDoor
set_option maxRecDepth 100000
set_option maxHeartbeats 8000000
set_option linter.unusedVariables false
set_option linter.unusedSimpArgs false
open Go.RowKit
def MPost (w : World) (x : Nat × Nat) (e : Ending) (w' : World) : Prop := e = .returned (.tuple #[.int .i64 (x.1 : Int), .int .i64 (x.2 : Int)]) ∧ Below w.heap.size w w'
def MRel (w : World) (es : List T) (pos : Nat) (n : Nat) (v6 v7 v31 : Value) (wr : World) : Prop := ∃ i d e : Nat, v31 = .int .i64 i ∧ v6 = .int .i64 d ∧ v7 = .int .i64 e ∧ i ≤ n ∧ d ≤ es.length ∧ e ≤ es.length ∧ Rd3 (es.length - 1) es (pos + 1) i d e ∧ Below w.heap.size w wr
theorem xmeasure (A : Option Addr) (n c : Nat) (es : List T) (hn : n ≤ 1000) : ∀ (m pos : Nat) (w : World), n - pos ≤ m → pos ≤ n → RowT w w.heap.size A n es → Calls Tryz.prog 54 #[.slice A n c, .int .i64 (pos : Int)] w (MPost w (measO es pos)) := by
  intro m
  induction m with
  | zero =>
    intro pos w hm hp hr
    have hl := hr.len
    have HR := Lib.hid (measO_over (es := es) (pos := pos) (by omega))
    have h1 : (n : Int) ≤ (pos : Int) := by omega
    go_enter Tryz.func54, Tryz.ntmps54
    go_wp2_with fail
    refine bodyPost_ret (by simp [results, Tryz.results54, go_sem]; rfl) rfl ?_
    unfold MPost
    rw [HR.out]
    exact ⟨rfl, by (exact belQ)⟩
  | succ m ih =>
    intro pos w hm hp hr
    have hl := hr.len
    have HLN := Lib.hid hl
    by_cases hlt : pos < n
    case neg =>
      have HR := Lib.hid (measO_over (es := es) (pos := pos) (by omega))
      have h1 : (n : Int) ≤ (pos : Int) := by omega
      clear hl
      go_enter Tryz.func54, Tryz.ntmps54
      go_wp2_with fail
      refine bodyPost_ret (by simp [results, Tryz.results54, go_sem]; rfl) rfl ?_
      unfold MPost
      rw [HR.out]
      exact ⟨rfl, by (exact belQ)⟩
    case pos =>
      obtain ⟨b, off, t, rfl, hb, ht, c0, c1, c2, c3, c4⟩ := RowT.at5 hr hlt
      have HT := Lib.hid ht
      have h1 : ¬ (n : Int) ≤ (pos : Int) := by omega
      have hp0 : (0 : Int) ≤ (pos : Int) := by omega
      have hp1 : (pos : Int) < (n : Int) := by omega
      clear ht hl
      cases hok : t.ok
      · have HK := Lib.hid hok
        have HR := Lib.hid (measO_bad HT.out hok)
        clear hok
        go_enter Tryz.func54, Tryz.ntmps54
        go_wp2_with (go_at_call 96; refine (xvalidTerm t _).mono ?_; rintro e w1 ⟨rfl, hb1⟩; rw [HK.out])
        refine bodyPost_ret (by simp [results, Tryz.results54, go_sem]; rfl) rfl ?_
        unfold MPost
        rw [HR.out]
        exact ⟨rfl, by (exact belQ)⟩
      · have HK := Lib.hid hok
        clear hok
        have har := arity_range t.op
        have hak : 0 ≤ arity t.op := by
          have := HK.out
          unfold T.ok at this
          rw [Bool.and_eq_true, decide_eq_true_eq] at this
          exact this.1
        have HN := Lib.hid (show (ar t.op : Int) = arity t.op by unfold ar; omega)
        have hpw : IntKind.i64.wrap ((pos : Int) + 1) = (pos : Int) + 1 := IntWalk.i64_in _ (by omega)
        go_enter Tryz.func54, Tryz.ntmps54
        go_wp2_with (first
          | (go_at_call 96; refine (xvalidTerm t _).mono ?_; rintro e w1 ⟨rfl, hb1⟩; rw [HK.out]; obtain ⟨hc1, hf1⟩ := bcell hb1; have hz1 := (hb1).size; (try simp at hz1))
          | (go_at_call 55; refine (xarity t.op _).mono ?_; rintro e w2 ⟨rfl, rfl⟩))
        have hspos : pos + 1 ≤ es.length := by rw [HLN.out]; omega
        go_loopw [6, 7, 31] (fun v6 v7 v31 wr => MRel w es pos (ar t.op) v6 v7 v31 wr) (fun _ _ v31 _ => ar t.op - (intOf v31).toNat)
        case atStart => exact ⟨0, 0, pos + 1, rfl, rfl, by go_num, Nat.zero_le _, Nat.zero_le _, hspos, Rd3.start _ _ _, by (exact belQ)⟩
        case round =>
          obtain ⟨i, d, e, rfl, rfl, rfl, hi, hd, he, hR, hbel⟩ := hrel
          have hle := hR.le
          have HR := Lib.hid hR
          clear hR
          have hzz := hbel.size
          by_cases hlt2 : i < ar t.op
          · have hia : (i : Int) < arity t.op := by have := HN.out; omega
            have ihe := ih e wr (by have := HLN.out; omega) (by have := HLN.out; omega) ((hr.below hbel).more hzz)
            have hml := measO_le he
            have HS := Lib.hid (fun h => meas_step HR.out h)
            have HF := Lib.hid (fun h => meas_fail HT.out HK.out HR.out h hlt2)
            obtain ⟨y, hy⟩ : ∃ y, measO es e = y := ⟨_, rfl⟩
            rw [hy] at ihe hml HS HF
            clear hy hlt2
            obtain ⟨dp, nx⟩ := y
            simp only at hml
            by_cases hdp : dp = 0
            · have hdz : ((dp : Int) == 0) = true := by simpa using hdp
              have HD := Lib.hid (HF.out hdp)
              clear hdp
              go_wp2_with (go_at_call 54; refine ihe.mono ?_; rintro e2 w2 ⟨rfl, hb2⟩)
              refine bodyPost_ret (by simp [results, Tryz.results54, go_sem]; rfl) rfl ?_
              unfold MPost
              rw [HD.out]
              exact ⟨rfl, by (exact belQ)⟩
            · have hdz : ((dp : Int) == 0) = false := by simpa using hdp
              have HD := Lib.hid (HS.out hdp)
              clear hdp
              have hmax : max (d : Int) (dp : Int) = ((max d dp : Nat) : Int) := by omega
              go_wp2_with (go_at_call 54; refine ihe.mono ?_; rintro e2 w2 ⟨rfl, hb2⟩)
              go_roundw
              case rel => exact ⟨i + 1, max d dp, nx, by go_num, val_int (by omega), rfl, by have := HN.out; omega, by omega, hml.2.2, HD.out, by (exact belQ)⟩
              case measure => simp [intOf]; have := HN.out; omega
          · have hia : ¬ (i : Int) < arity t.op := by have := HN.out; omega
            have hieq : i = ar t.op := by omega
            subst hieq
            have HD := Lib.hid (meas_done HT.out HK.out HR.out)
            clear hlt2
            have hlen := HLN.out
            have hdw : IntKind.i64.wrap ((d : Int) + 1) = (d : Int) + 1 := IntWalk.i64_in _ (by omega)
            clear hlen
            go_wp2_with fail
            refine bodyPost_ret (by simp [results, Tryz.results54, go_sem]; rfl) rfl ?_
            unfold MPost
            rw [HD.out]
            exact ⟨by go_num, by (exact belQ)⟩
theorem leave_idle {P : Program} {fn : Func} {f : FuncId} {tmps : Array Value} {R : Ending → World → Prop} {w : World} {v : Value}
    (idle : ∀ w, CallsD P f #[] .returning w fun e u' w' => e = .returned (.tuple #[]) ∧ u' = .returning ∧ w' = w)
    (hi : (invoke (.fn (.func f) #[]) #[]).run P w = .ok (.enter f #[]) w) (hr : (results fn tmps).run P w = .ok v w) (h : R (.returned v) w) :
    bodyPostD P fn R .ret { tmps := tmps, defers := [{ target := .fn (.func f) #[], args := #[] }] } w := by
  show Leaves P fn tmps R [{ target := .fn (.func f) #[], args := #[] }] .returning w
  refine leaves_cons (f := f) (args := #[]) (by simp) hi ?_
  refine (idle w).mono ?_
  rintro e u' w'' ⟨rfl, rfl, rfl⟩
  exact ⟨v, hr, h⟩
theorem idle_Valid (w : World) : CallsD Tryz.prog 53 #[] .returning w fun e u' w' => e = .returned (.tuple #[]) ∧ u' = .returning ∧ w' = w := by
  refine callsD_of_wpS Tryz.func53 rfl fun c₀ cs hu => ?_
  apply wpS_region
  cases c₀
  simp_all [wpOpsS, go_sem, recoverD, Tryz.ntmps53, bodyPostS, results, Tryz.results53]
theorem xvalidE (A : Option Addr) (n c : Nat) (es : List T) (w : World) (hn : n ≤ maxLen) (hr : RowT w w.heap.size A n es) : Calls Tryz.prog 26 #[.slice A n c] w fun e w' => e = .returned (.bool (validE es)) ∧ Below w.heap.size w w' := by
  have hmf : ∀ (fn : Fn) (first cap : Array Value) (w : World), (Instr.makeFunc fn first cap).run Tryz.prog w = .ok (.func fn first cap) w := fun _ _ _ _ => rfl
  unfold maxLen at hn
  have HV := Lib.hid (valid_prog es)
  rw [hr.len] at HV
  by_cases h64 : 64 < n
  · have h2 : (64 : Int) < (n : Int) := by omega
    have HR := Lib.hid (show validE es = false by rw [HV.out, show decide (n ≤ 64) = false by simp; omega]; rfl)
    go_enter_defers Tryz.func26, Tryz.ntmps26
    go_wp2_with fail
    refine leave_idle idle_Valid (by simp [go_sem]) (by simp [results, Tryz.results26, go_sem]; rfl) ?_
    exact ⟨ret_bool HR.out.symm, by (exact belQ)⟩
  have h2 : ¬ (64 : Int) < (n : Int) := by omega
  have hE := xmeasure A n c es (by omega) n 0 w (by omega) (by omega) hr
  have hml := measO_le (es := es) (e := 0) (by omega)
  rw [hr.len] at hml
  have HR := Lib.hid (show validE es = (decide (0 < (measO es 0).1) && (decide ((measO es 0).1 ≤ 16) && decide ((measO es 0).2 = n))) by rw [HV.out, show decide (n ≤ 64) = true by simp; omega]; rfl)
  obtain ⟨y, hy⟩ : ∃ y, measO es 0 = y := ⟨_, rfl⟩
  rw [hy] at HR hE hml
  clear hy
  obtain ⟨d, e⟩ := y
  simp only at hml HR
  go_enter_defers Tryz.func26, Tryz.ntmps26
  go_wp2_with (go_at_call 54; refine hE.mono ?_; rintro e2 w2 ⟨rfl, hb2⟩)
  all_goals refine leave_idle idle_Valid (by simp [go_sem]) (by simp [results, Tryz.results26, go_sem]; rfl) ?_
  all_goals refine ⟨ret_bool ?_, by (exact belQ)⟩
  all_goals rw [HR.out, Bool.eq_iff_iff]
  all_goals simp
  all_goals omega
end Go.Proofs.YtpnfbehbheddeaaGreatDoor
