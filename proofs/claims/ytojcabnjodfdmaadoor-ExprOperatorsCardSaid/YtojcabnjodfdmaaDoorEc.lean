/- Contract of the program's measure: rows of at most a thousand terms. -/
import Derived.Test.YtojcabnjodfdmaaDoorEb
import Derived.Test.YtojcabnjodfdmaaDoorXMeas
namespace Go.Proofs.YtojcabnjodfdmaaDoor
open Go.RowKit

def MPost (w : World) (x : Nat × Nat) (e : Ending) (w' : World) : Prop := e = .returned (.tuple #[.int .i64 (x.1 : Int), .int .i64 (x.2 : Int)]) ∧ Below w.heap.size w w'
def MRel (w : World) (es : List T) (pos : Nat) (n : Nat) (v6 v7 v31 : Value) (wr : World) : Prop := ∃ i d e : Nat, v31 = .int .i64 i ∧ v6 = .int .i64 d ∧ v7 = .int .i64 e ∧ i ≤ n ∧ d ≤ es.length ∧ e ≤ es.length ∧ Rd3 (es.length - 1) es (pos + 1) i d e ∧ Below w.heap.size w wr
set_option maxRecDepth 100000 in
set_option maxHeartbeats 1000000 in
theorem xmeasure (A : Option Addr) (n c : Nat) (es : List T) (hn : n ≤ 1000) : ∀ (m pos : Nat) (w : World), n - pos ≤ m → pos ≤ n → RowT w w.heap.size A n es → Calls Tryd.prog 42 #[.slice A n c, .int .i64 (pos : Int)] w (MPost w (measO es pos)) := by
  intro m
  induction m with
  | zero =>
    intro pos w hm hp hr
    have hl := hr.len
    have HR := Lib.hid (measO_over (es := es) (pos := pos) (by omega))
    have h1 : (n : Int) ≤ (pos : Int) := by omega
    go_enter Tryd.func42, Tryd.ntmps42
    go_wp2_with fail
    refine bodyPost_ret (by simp [results, Tryd.results42, go_sem]; rfl) rfl ?_
    unfold MPost
    rw [HR.out]
    exact ⟨rfl, by (repeat (first | (with_reducible exact Below.refl _ _) | (with_reducible assumption) | (with_reducible refine Below.drew ?_) | (with_reducible refine below_drewN ?_ _) | ((with_reducible refine Below.setCell ?_ ?_ _); rotate_left; (focus (first | (simp; done) | (simp; omega) | omega))) | ((with_reducible refine Below.alloc ?_ ?_ _); rotate_left; (focus (first | (simp; done) | (simp; omega) | omega))) | ((with_reducible apply below_step1); (focus (with_reducible assumption)))))⟩
  | succ m ih =>
    intro pos w hm hp hr
    have hl := hr.len
    have HLN := Lib.hid hl
    by_cases hlt : pos < n
    case neg =>
      have HR := Lib.hid (measO_over (es := es) (pos := pos) (by omega))
      have h1 : (n : Int) ≤ (pos : Int) := by omega
      clear hl
      go_enter Tryd.func42, Tryd.ntmps42
      go_wp2_with fail
      refine bodyPost_ret (by simp [results, Tryd.results42, go_sem]; rfl) rfl ?_
      unfold MPost
      rw [HR.out]
      exact ⟨rfl, by (repeat (first | (with_reducible exact Below.refl _ _) | (with_reducible assumption) | (with_reducible refine Below.drew ?_) | (with_reducible refine below_drewN ?_ _) | ((with_reducible refine Below.setCell ?_ ?_ _); rotate_left; (focus (first | (simp; done) | (simp; omega) | omega))) | ((with_reducible refine Below.alloc ?_ ?_ _); rotate_left; (focus (first | (simp; done) | (simp; omega) | omega))) | ((with_reducible apply below_step1); (focus (with_reducible assumption)))))⟩
    case pos =>
      obtain ⟨b, off, t, rfl, hb, ht, c0, c1, c2, c3, c4⟩ := RowT.at5 hr hlt
      have HT := Lib.hid ht
      have h1 : ¬ (n : Int) ≤ (pos : Int) := by omega
      have hp0 : (0 : Int) ≤ (pos : Int) := by omega
      have hp1 : (pos : Int) < (n : Int) := by omega
      clear ht hl
      cases hok : t.ok
      · have HK := Lib.hid hok
        have HR := Lib.hid (measO_bad HT.out hok)
        clear hok
        go_enter Tryd.func42, Tryd.ntmps42
        go_wp2_with (go_at_call 61; refine (xvalidTerm t _).mono ?_; rintro e w1 ⟨rfl, hb1⟩; rw [HK.out])
        refine bodyPost_ret (by simp [results, Tryd.results42, go_sem]; rfl) rfl ?_
        unfold MPost
        rw [HR.out]
        exact ⟨rfl, by (repeat (first | (with_reducible exact Below.refl _ _) | (with_reducible assumption) | (with_reducible refine Below.drew ?_) | (with_reducible refine below_drewN ?_ _) | ((with_reducible refine Below.setCell ?_ ?_ _); rotate_left; (focus (first | (simp; done) | (simp; omega) | omega))) | ((with_reducible refine Below.alloc ?_ ?_ _); rotate_left; (focus (first | (simp; done) | (simp; omega) | omega))) | ((with_reducible apply below_step1); (focus (with_reducible assumption)))))⟩
      · have HK := Lib.hid hok
        clear hok
        have har := arity_range t.op
        have hak : 0 ≤ arity t.op := by
          have := HK.out
          unfold T.ok at this
          rw [Bool.and_eq_true, decide_eq_true_eq] at this
          exact this.1
        have HN := Lib.hid (show (ar t.op : Int) = arity t.op by unfold ar; omega)
        have hpw : IntKind.i64.wrap ((pos : Int) + 1) = (pos : Int) + 1 := IntWalk.i64_in _ (by omega)
        go_enter Tryd.func42, Tryd.ntmps42
        go_wp2_with (first
          | (go_at_call 61; refine (xvalidTerm t _).mono ?_; rintro e w1 ⟨rfl, hb1⟩; rw [HK.out]; obtain ⟨hc1, hf1⟩ := bcell hb1; have hz1 := (hb1).size; (try simp at hz1))
          | (go_at_call 16; refine (xarity t.op _).mono ?_; rintro e w2 ⟨rfl, rfl⟩))
        have hspos : pos + 1 ≤ es.length := by rw [HLN.out]; omega
        go_loopw [6, 7, 31] (fun v6 v7 v31 wr => MRel w es pos (ar t.op) v6 v7 v31 wr) (fun _ _ v31 _ => ar t.op - (intOf v31).toNat)
        case atStart => exact ⟨0, 0, pos + 1, rfl, rfl, by go_num, Nat.zero_le _, Nat.zero_le _, hspos, Rd3.start _ _ _, by (repeat (first | (with_reducible exact Below.refl _ _) | (with_reducible assumption) | (with_reducible refine Below.drew ?_) | (with_reducible refine below_drewN ?_ _) | ((with_reducible refine Below.setCell ?_ ?_ _); rotate_left; (focus (first | (simp; done) | (simp; omega) | omega))) | ((with_reducible refine Below.alloc ?_ ?_ _); rotate_left; (focus (first | (simp; done) | (simp; omega) | omega))) | ((with_reducible apply below_step1); (focus (with_reducible assumption)))))⟩
        case round =>
          obtain ⟨i, d, e, rfl, rfl, rfl, hi, hd, he, hR, hbel⟩ := hrel
          have hle := hR.le
          have HR := Lib.hid hR
          clear hR
          have hzz := hbel.size
          by_cases hlt2 : i < ar t.op
          · have hia : (i : Int) < arity t.op := by have := HN.out; omega
            have ihe := ih e wr (by have := HLN.out; omega) (by have := HLN.out; omega) ((hr.below hbel).more hzz)
            have hml := measO_le he
            have HS := Lib.hid (fun h => meas_step HR.out h)
            have HF := Lib.hid (fun h => meas_fail HT.out HK.out HR.out h hlt2)
            obtain ⟨y, hy⟩ : ∃ y, measO es e = y := ⟨_, rfl⟩
            rw [hy] at ihe hml HS HF
            clear hy hlt2
            obtain ⟨dp, nx⟩ := y
            simp only at hml
            by_cases hdp : dp = 0
            · have hdz : ((dp : Int) == 0) = true := by simpa using hdp
              have HD := Lib.hid (HF.out hdp)
              clear hdp
              go_wp2_with (go_at_call 42; refine ihe.mono ?_; rintro e2 w2 ⟨rfl, hb2⟩)
              refine bodyPost_ret (by simp [results, Tryd.results42, go_sem]; rfl) rfl ?_
              unfold MPost
              rw [HD.out]
              exact ⟨rfl, by (repeat (first | (with_reducible exact Below.refl _ _) | (with_reducible assumption) | (with_reducible refine Below.drew ?_) | (with_reducible refine below_drewN ?_ _) | ((with_reducible refine Below.setCell ?_ ?_ _); rotate_left; (focus (first | (simp; done) | (simp; omega) | omega))) | ((with_reducible refine Below.alloc ?_ ?_ _); rotate_left; (focus (first | (simp; done) | (simp; omega) | omega))) | ((with_reducible apply below_step1); (focus (with_reducible assumption)))))⟩
            · have hdz : ((dp : Int) == 0) = false := by simpa using hdp
              have HD := Lib.hid (HS.out hdp)
              clear hdp
              have hmax : max (d : Int) (dp : Int) = ((max d dp : Nat) : Int) := by omega
              go_wp2_with (go_at_call 42; refine ihe.mono ?_; rintro e2 w2 ⟨rfl, hb2⟩)
              go_roundw
              case rel => exact ⟨i + 1, max d dp, nx, by go_num, val_int (by omega), rfl, by have := HN.out; omega, by omega, hml.2.2, HD.out, by (repeat (first | (with_reducible exact Below.refl _ _) | (with_reducible assumption) | (with_reducible refine Below.drew ?_) | (with_reducible refine below_drewN ?_ _) | ((with_reducible refine Below.setCell ?_ ?_ _); rotate_left; (focus (first | (simp; done) | (simp; omega) | omega))) | ((with_reducible refine Below.alloc ?_ ?_ _); rotate_left; (focus (first | (simp; done) | (simp; omega) | omega))) | ((with_reducible apply below_step1); (focus (with_reducible assumption)))))⟩
              case measure => simp [intOf]; have := HN.out; omega
          · have hia : ¬ (i : Int) < arity t.op := by have := HN.out; omega
            have hieq : i = ar t.op := by omega
            subst hieq
            have HD := Lib.hid (meas_done HT.out HK.out HR.out)
            clear hlt2
            have hlen := HLN.out
            have hdw : IntKind.i64.wrap ((d : Int) + 1) = (d : Int) + 1 := IntWalk.i64_in _ (by omega)
            clear hlen
            go_wp2_with fail
            refine bodyPost_ret (by simp [results, Tryd.results42, go_sem]; rfl) rfl ?_
            unfold MPost
            rw [HD.out]
            exact ⟨by go_num, by (repeat (first | (with_reducible exact Below.refl _ _) | (with_reducible assumption) | (with_reducible refine Below.drew ?_) | (with_reducible refine below_drewN ?_ _) | ((with_reducible refine Below.setCell ?_ ?_ _); rotate_left; (focus (first | (simp; done) | (simp; omega) | omega))) | ((with_reducible refine Below.alloc ?_ ?_ _); rotate_left; (focus (first | (simp; done) | (simp; omega) | omega))) | ((with_reducible apply below_step1); (focus (with_reducible assumption)))))⟩
end Go.Proofs.YtojcabnjodfdmaaDoor
