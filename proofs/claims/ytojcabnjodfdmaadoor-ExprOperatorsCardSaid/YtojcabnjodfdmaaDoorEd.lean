/- Contracts of the reference's fields, end and Valid: rows of at most a thousand terms. -/
import Derived.Test.YtojcabnjodfdmaaDoorEc
namespace Go.Proofs.YtojcabnjodfdmaaDoor
open Go.RowKit

set_option maxRecDepth 100000 in
set_option maxHeartbeats 1000000 in
theorem rfields (t : T) (w : World) : Calls Tryd.prog 62 #[.agg #[.int .i64 t.op, .int .i64 t.v.k, .int .i64 t.v.n, .string t.v.s, .int .i64 t.c]] w fun e w' => e = .returned (.bool t.fok) ∧ Below w.heap.size w w' := by
  have he := run_eqV t.v.k t.v.n t.v.s 0 0 ⟨#[]⟩
  rw [show eqB t.v.k t.v.n t.v.s 0 0 ⟨#[]⟩ = t.v.beq V.null from rfl] at he
  by_cases h1 : t.op = 1
  · have t1 : (t.op == 1) = true := by simpa using h1
    have HT := Lib.hid (show t.fok = (t.c == 0 && (t.v.k != 0 && t.v.ok)) by unfold T.fok; rw [if_pos h1])
    clear h1
    go_enter Tryd.func62, Tryd.ntmps62
    go_wp2_with (go_at_call 63; refine (rvalid t.v _).mono ?_; rintro e w2 ⟨rfl, hb2⟩; obtain ⟨hc2, hf2⟩ := bcell hb2; have hz2 := (hb2).size; (try simp at hz2))
    all_goals go_ret
    all_goals refine ⟨ret_bool ?_, by (repeat (first | (with_reducible exact Below.refl _ _) | (with_reducible assumption) | (with_reducible refine Below.drew ?_) | (with_reducible refine below_drewN ?_ _) | ((with_reducible refine Below.setCell ?_ ?_ _); rotate_left; (focus (first | (simp; done) | (simp; omega) | omega))) | ((with_reducible refine Below.alloc ?_ ?_ _); rotate_left; (focus (first | (simp; done) | (simp; omega) | omega))) | ((with_reducible apply below_step1); (focus (with_reducible assumption)))))⟩
    all_goals rw [HT.out]
    all_goals simp_all
    all_goals exact Bool.and_comm _ _
  have t1 : (t.op == 1) = false := by simpa using h1
  by_cases h2 : t.op = 2
  · have t2 : (t.op == 2) = true := by simpa using h2
    have HT := Lib.hid (show t.fok = (decide (0 ≤ t.c) && t.v.beq V.null) by unfold T.fok; rw [if_neg h1, if_pos h2])
    clear h1 h2
    generalize t.v.beq V.null = nb at he HT
    go_enter Tryd.func62, Tryd.ntmps62
    go_wp2_with fail
    all_goals go_ret
    all_goals refine ⟨ret_bool ?_, by (repeat (first | (with_reducible exact Below.refl _ _) | (with_reducible assumption) | (with_reducible refine Below.drew ?_) | (with_reducible refine below_drewN ?_ _) | ((with_reducible refine Below.setCell ?_ ?_ _); rotate_left; (focus (first | (simp; done) | (simp; omega) | omega))) | ((with_reducible refine Below.alloc ?_ ?_ _); rotate_left; (focus (first | (simp; done) | (simp; omega) | omega))) | ((with_reducible apply below_step1); (focus (with_reducible assumption)))))⟩
    all_goals rw [HT.out]
    all_goals simp_all
  · have t2 : (t.op == 2) = false := by simpa using h2
    have HT := Lib.hid (show t.fok = (t.c == 0 && t.v.beq V.null) by unfold T.fok; rw [if_neg h1, if_neg h2])
    clear h1 h2
    generalize t.v.beq V.null = nb at he HT
    go_enter Tryd.func62, Tryd.ntmps62
    go_wp2_with fail
    all_goals go_ret
    all_goals refine ⟨ret_bool ?_, by (repeat (first | (with_reducible exact Below.refl _ _) | (with_reducible assumption) | (with_reducible refine Below.drew ?_) | (with_reducible refine below_drewN ?_ _) | ((with_reducible refine Below.setCell ?_ ?_ _); rotate_left; (focus (first | (simp; done) | (simp; omega) | omega))) | ((with_reducible refine Below.alloc ?_ ?_ _); rotate_left; (focus (first | (simp; done) | (simp; omega) | omega))) | ((with_reducible apply below_step1); (focus (with_reducible assumption)))))⟩
    all_goals rw [HT.out]
    all_goals simp_all

def EPost (w : World) (x : Int) (e : Ending) (w' : World) : Prop := e = .returned (.int .i64 x) ∧ Below w.heap.size w w'
def ERel (w : World) (es : List T) (at_ dp n : Nat) (v1 v5 : Value) (wr : World) : Prop := ∃ i d e : Nat, v5 = .int .i64 i ∧ v1 = .int .i64 e ∧ i ≤ n ∧ e ≤ es.length ∧ Rd3 dp es (at_ + 1) i d e ∧ Below w.heap.size w wr
set_option maxRecDepth 100000 in
set_option maxHeartbeats 1000000 in
theorem rend (A : Option Addr) (n c : Nat) (es : List T) (hn : n ≤ 1000) : ∀ (dp pos : Nat) (w : World), dp ≤ 1000 → pos ≤ n → RowT w w.heap.size A n es → Calls Tryd.prog 43 #[.slice A n c, .int .i64 (pos : Int), .int .i64 (dp : Int)] w (EPost w (endO es pos dp)) := by
  intro dp
  induction dp with
  | zero =>
    intro pos w hd hp hr
    have HR := Lib.hid (endO_zero es pos)
    by_cases hlt : pos < n
    · have h1 : ¬ (n : Int) ≤ (pos : Int) := by omega
      go_enter Tryd.func43, Tryd.ntmps43
      go_wp2_with fail
      go_ret
      exact ⟨ret_int HR.out.symm, by (repeat (first | (with_reducible exact Below.refl _ _) | (with_reducible assumption) | (with_reducible refine Below.drew ?_) | (with_reducible refine below_drewN ?_ _) | ((with_reducible refine Below.setCell ?_ ?_ _); rotate_left; (focus (first | (simp; done) | (simp; omega) | omega))) | ((with_reducible refine Below.alloc ?_ ?_ _); rotate_left; (focus (first | (simp; done) | (simp; omega) | omega))) | ((with_reducible apply below_step1); (focus (with_reducible assumption)))))⟩
    · have h1 : (n : Int) ≤ (pos : Int) := by omega
      go_enter Tryd.func43, Tryd.ntmps43
      go_wp2_with fail
      go_ret
      exact ⟨ret_int HR.out.symm, by (repeat (first | (with_reducible exact Below.refl _ _) | (with_reducible assumption) | (with_reducible refine Below.drew ?_) | (with_reducible refine below_drewN ?_ _) | ((with_reducible refine Below.setCell ?_ ?_ _); rotate_left; (focus (first | (simp; done) | (simp; omega) | omega))) | ((with_reducible refine Below.alloc ?_ ?_ _); rotate_left; (focus (first | (simp; done) | (simp; omega) | omega))) | ((with_reducible apply below_step1); (focus (with_reducible assumption)))))⟩
  | succ dp ih =>
    intro pos w hd hp hr
    have hl := hr.len
    have HLN := Lib.hid hl
    have hdz : ((dp : Int) + 1 == 0) = false := by simp; omega
    by_cases hlt : pos < n
    case neg =>
      have HR := Lib.hid (endO_over (es := es) (at_ := pos) (dp := dp + 1) (by omega))
      have h1 : (n : Int) ≤ (pos : Int) := by omega
      clear hl
      go_enter Tryd.func43, Tryd.ntmps43
      go_wp2_with fail
      go_ret
      exact ⟨ret_int HR.out.symm, by (repeat (first | (with_reducible exact Below.refl _ _) | (with_reducible assumption) | (with_reducible refine Below.drew ?_) | (with_reducible refine below_drewN ?_ _) | ((with_reducible refine Below.setCell ?_ ?_ _); rotate_left; (focus (first | (simp; done) | (simp; omega) | omega))) | ((with_reducible refine Below.alloc ?_ ?_ _); rotate_left; (focus (first | (simp; done) | (simp; omega) | omega))) | ((with_reducible apply below_step1); (focus (with_reducible assumption)))))⟩
    case pos =>
      obtain ⟨b, off, t, rfl, hb, ht, c0, c1, c2, c3, c4⟩ := RowT.at5 hr hlt
      have HT := Lib.hid ht
      have h1 : ¬ (n : Int) ≤ (pos : Int) := by omega
      have hp0 : (0 : Int) ≤ (pos : Int) := by omega
      have hp1 : (pos : Int) < (n : Int) := by omega
      clear ht hl
      by_cases ha : arity t.op < 0
      · have hok : t.ok = false := by rw [T.ok_fok, show decide (0 ≤ arity t.op) = false by simpa using ha]; rfl
        have HR := Lib.hid (endO_bad (dp := dp + 1) HT.out hok)
        clear hok
        go_enter Tryd.func43, Tryd.ntmps43
        go_wp2_with (go_at_call 17; refine (rarity t.op _).mono ?_; rintro e w1 ⟨rfl, rfl⟩)
        go_ret
        exact ⟨ret_int HR.out.symm, by (repeat (first | (with_reducible exact Below.refl _ _) | (with_reducible assumption) | (with_reducible refine Below.drew ?_) | (with_reducible refine below_drewN ?_ _) | ((with_reducible refine Below.setCell ?_ ?_ _); rotate_left; (focus (first | (simp; done) | (simp; omega) | omega))) | ((with_reducible refine Below.alloc ?_ ?_ _); rotate_left; (focus (first | (simp; done) | (simp; omega) | omega))) | ((with_reducible apply below_step1); (focus (with_reducible assumption)))))⟩
      have hak : decide (0 ≤ arity t.op) = true := by simp; omega
      cases hok : t.fok
      · have HK := Lib.hid hok
        have HR := Lib.hid (endO_bad (dp := dp + 1) HT.out (show t.ok = false by rw [T.ok_fok, hok, Bool.and_false]))
        clear hok
        go_enter Tryd.func43, Tryd.ntmps43
        go_wp2_with (first
          | (go_at_call 17; refine (rarity t.op _).mono ?_; rintro e w1 ⟨rfl, rfl⟩)
          | (go_at_call 62; refine (rfields t _).mono ?_; rintro e w1 ⟨rfl, hb1⟩; rw [HK.out]))
        go_ret
        exact ⟨ret_int HR.out.symm, by (repeat (first | (with_reducible exact Below.refl _ _) | (with_reducible assumption) | (with_reducible refine Below.drew ?_) | (with_reducible refine below_drewN ?_ _) | ((with_reducible refine Below.setCell ?_ ?_ _); rotate_left; (focus (first | (simp; done) | (simp; omega) | omega))) | ((with_reducible refine Below.alloc ?_ ?_ _); rotate_left; (focus (first | (simp; done) | (simp; omega) | omega))) | ((with_reducible apply below_step1); (focus (with_reducible assumption)))))⟩
      · have HF := Lib.hid hok
        have HK := Lib.hid (show t.ok = true by rw [T.ok_fok, hok, hak]; rfl)
        clear hok
        have har := arity_range t.op
        have HN := Lib.hid (show (ar t.op : Int) = arity t.op by unfold ar; omega)
        have hpw : IntKind.i64.wrap ((pos : Int) + 1) = (pos : Int) + 1 := IntWalk.i64_in _ (by omega)
        go_enter Tryd.func43, Tryd.ntmps43
        go_wp2_with (first
          | (go_at_call 17; refine (rarity t.op _).mono ?_; rintro e w1 ⟨rfl, rfl⟩)
          | (go_at_call 62; refine (rfields t _).mono ?_; rintro e w1 ⟨rfl, hb1⟩; rw [HF.out]; obtain ⟨hc1, hf1⟩ := bcell hb1; have hz1 := (hb1).size; (try simp at hz1)))
        have hspos : pos + 1 ≤ es.length := by rw [HLN.out]; omega
        go_loopw [1, 8] (fun v1 v5 wr => ERel w es pos dp (ar t.op) v1 v5 wr) (fun _ v5 _ => ar t.op - (intOf v5).toNat)
        case atStart => exact ⟨0, 0, pos + 1, rfl, by go_num, Nat.zero_le _, hspos, Rd3.start _ _ _, by (repeat (first | (with_reducible exact Below.refl _ _) | (with_reducible assumption) | (with_reducible refine Below.drew ?_) | (with_reducible refine below_drewN ?_ _) | ((with_reducible refine Below.setCell ?_ ?_ _); rotate_left; (focus (first | (simp; done) | (simp; omega) | omega))) | ((with_reducible refine Below.alloc ?_ ?_ _); rotate_left; (focus (first | (simp; done) | (simp; omega) | omega))) | ((with_reducible apply below_step1); (focus (with_reducible assumption)))))⟩
        case round =>
          obtain ⟨i, d, e, rfl, rfl, hi, he, hR, hbel⟩ := hrel
          have hle := hR.le
          have HR := Lib.hid hR
          clear hR
          have hzz := hbel.size
          by_cases hlt2 : i < ar t.op
          · have hia : (i : Int) < arity t.op := by have := HN.out; omega
            have ihe := ih e wr (by omega) (by have := HLN.out; omega) ((hr.below hbel).more hzz)
            have hml := endO_le (dp := dp) he
            have HS := Lib.hid (fun h => end_step HR.out h)
            have HF2 := Lib.hid (fun h => end_fail HT.out HK.out HR.out h hlt2)
            have hdd : IntKind.i64.wrap (dp : Int) = (dp : Int) := IntWalk.i64_in _ (by omega)
            obtain ⟨y, hy⟩ : ∃ y, endO es e dp = y := ⟨_, rfl⟩
            rw [hy] at ihe hml HS HF2
            clear hy hlt2
            by_cases hdp : y < 0
            · have HD := Lib.hid (HF2.out hdp)
              go_wp2_with (go_at_call 43; refine ihe.mono ?_; rintro e2 w2 ⟨rfl, hb2⟩)
              go_ret
              exact ⟨ret_int HD.out.symm, by (repeat (first | (with_reducible exact Below.refl _ _) | (with_reducible assumption) | (with_reducible refine Below.drew ?_) | (with_reducible refine below_drewN ?_ _) | ((with_reducible refine Below.setCell ?_ ?_ _); rotate_left; (focus (first | (simp; done) | (simp; omega) | omega))) | ((with_reducible refine Below.alloc ?_ ?_ _); rotate_left; (focus (first | (simp; done) | (simp; omega) | omega))) | ((with_reducible apply below_step1); (focus (with_reducible assumption)))))⟩
            · obtain ⟨d', e', hy', hR'⟩ := HS.out (by omega)
              have HD := Lib.hid hR'
              clear hR'
              go_wp2_with (go_at_call 43; refine ihe.mono ?_; rintro e2 w2 ⟨rfl, hb2⟩)
              go_roundw
              case rel => exact ⟨i + 1, d', e', by go_num, by first | rfl | exact val_int hy', by have := HN.out; omega, by omega, HD.out, by (repeat (first | (with_reducible exact Below.refl _ _) | (with_reducible assumption) | (with_reducible refine Below.drew ?_) | (with_reducible refine below_drewN ?_ _) | ((with_reducible refine Below.setCell ?_ ?_ _); rotate_left; (focus (first | (simp; done) | (simp; omega) | omega))) | ((with_reducible refine Below.alloc ?_ ?_ _); rotate_left; (focus (first | (simp; done) | (simp; omega) | omega))) | ((with_reducible apply below_step1); (focus (with_reducible assumption)))))⟩
              case measure => simp [intOf]; have := HN.out; omega
          · have hia : ¬ (i : Int) < arity t.op := by have := HN.out; omega
            have hieq : i = ar t.op := by omega
            subst hieq
            have HD := Lib.hid (end_done HT.out HK.out HR.out)
            clear hlt2
            go_wp2_with fail
            go_ret
            exact ⟨ret_int HD.out.symm, by (repeat (first | (with_reducible exact Below.refl _ _) | (with_reducible assumption) | (with_reducible refine Below.drew ?_) | (with_reducible refine below_drewN ?_ _) | ((with_reducible refine Below.setCell ?_ ?_ _); rotate_left; (focus (first | (simp; done) | (simp; omega) | omega))) | ((with_reducible refine Below.alloc ?_ ?_ _); rotate_left; (focus (first | (simp; done) | (simp; omega) | omega))) | ((with_reducible apply below_step1); (focus (with_reducible assumption)))))⟩
set_option maxRecDepth 100000 in
set_option maxHeartbeats 1000000 in
theorem rvalidE (A : Option Addr) (n c : Nat) (es : List T) (w : World) (hn : n ≤ maxLen) (hr : RowT w w.heap.size A n es) : Calls Tryd.prog 19 #[.slice A n c] w fun e w' => e = .returned (.bool (validE es)) ∧ Below w.heap.size w w' := by
  unfold maxLen at hn
  have HL := Lib.hid hr.len
  have HV := Lib.hid (valid_ref es)
  rw [hr.len] at HV
  by_cases h0 : n = 0
  · have h1 : ¬ (1 : Int) ≤ (n : Int) := by omega
    have HR := Lib.hid (show validE es = false by rw [HV.out, show decide (1 ≤ n) = false by simp; omega]; rfl)
    go_enter Tryd.func19, Tryd.ntmps19
    go_wp2_with fail
    go_ret
    exact ⟨ret_bool HR.out.symm, by (repeat (first | (with_reducible exact Below.refl _ _) | (with_reducible assumption) | (with_reducible refine Below.drew ?_) | (with_reducible refine below_drewN ?_ _) | ((with_reducible refine Below.setCell ?_ ?_ _); rotate_left; (focus (first | (simp; done) | (simp; omega) | omega))) | ((with_reducible refine Below.alloc ?_ ?_ _); rotate_left; (focus (first | (simp; done) | (simp; omega) | omega))) | ((with_reducible apply below_step1); (focus (with_reducible assumption)))))⟩
  have h1 : (1 : Int) ≤ (n : Int) := by omega
  by_cases h64 : 64 < n
  · have h2 : ¬ (n : Int) ≤ 64 := by omega
    have HR := Lib.hid (show validE es = false by rw [HV.out, show decide (n ≤ 64) = false by simp; omega, Bool.false_and, Bool.and_false])
    go_enter Tryd.func19, Tryd.ntmps19
    go_wp2_with fail
    go_ret
    exact ⟨ret_bool HR.out.symm, by (repeat (first | (with_reducible exact Below.refl _ _) | (with_reducible assumption) | (with_reducible refine Below.drew ?_) | (with_reducible refine below_drewN ?_ _) | ((with_reducible refine Below.setCell ?_ ?_ _); rotate_left; (focus (first | (simp; done) | (simp; omega) | omega))) | ((with_reducible refine Below.alloc ?_ ?_ _); rotate_left; (focus (first | (simp; done) | (simp; omega) | omega))) | ((with_reducible apply below_step1); (focus (with_reducible assumption)))))⟩
  have h2 : (n : Int) ≤ 64 := by omega
  have hE := rend A n c es (by omega) 16 0 w (by omega) (by omega) hr
  have HR := Lib.hid (show validE es = (endO es 0 16 == (n : Int)) by rw [HV.out, show decide (1 ≤ n) = true by simp; omega, show decide (n ≤ 64) = true by simp; omega]; rfl)
  obtain ⟨y, hy⟩ : ∃ y, endO es 0 16 = y := ⟨_, rfl⟩
  rw [hy] at HR hE
  clear hy
  go_enter Tryd.func19, Tryd.ntmps19
  go_wp2_with (go_at_call 43; refine hE.mono ?_; rintro e2 w2 ⟨rfl, hb2⟩)
  go_ret
  exact ⟨ret_bool HR.out.symm, by (repeat (first | (with_reducible exact Below.refl _ _) | (with_reducible assumption) | (with_reducible refine Below.drew ?_) | (with_reducible refine below_drewN ?_ _) | ((with_reducible refine Below.setCell ?_ ?_ _); rotate_left; (focus (first | (simp; done) | (simp; omega) | omega))) | ((with_reducible refine Below.alloc ?_ ?_ _); rotate_left; (focus (first | (simp; done) | (simp; omega) | omega))) | ((with_reducible apply below_step1); (focus (with_reducible assumption)))))⟩
end Go.Proofs.YtojcabnjodfdmaaDoor
