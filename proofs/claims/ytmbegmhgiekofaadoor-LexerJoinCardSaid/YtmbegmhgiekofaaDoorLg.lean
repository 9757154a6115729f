/- Contracts of Join, of the program and of the reference, and of the reference's Same where both lists are the same: at most 100000 tokens with texts of at most 100000 bytes. -/
import Derived.Test.YtmbegmhgiekofaaDoorLf
import Derived.Test.YtmbegmhgiekofaaDoorRowMore
import Derived.Laws.Concat
namespace Go.Proofs.YtmbegmhgiekofaaDoor
open Go.RowKit

theorem RowK.at4 {w : World} {B n : Nat} {A : Option Addr} {ts : List Tk} (h : RowK w B A n ts) {k : Nat} (hk : k < n) :
   ∃ b off t, A = some ⟨b, off, none⟩ ∧ b < B ∧ ts[k]? = some t ∧ w.cell? ⟨b, off + k * 4, none⟩ = some (.int .i64 t.kind) ∧ w.cell? ⟨b, off + k * 4 + 1, none⟩ = some (.string ⟨t.text.toArray⟩) ∧ w.cell? ⟨b, off + k * 4 + 2, none⟩ = some (.int .i64 t.int) ∧ w.cell? ⟨b, off + k * 4 + 3, none⟩ = some (.int .i64 t.pos) := by
  obtain ⟨b, off, t, h1, h2, h3, h4⟩ := h.at_ 4 (fun _ => rfl) (by omega) hk
  exact ⟨b, off, t, h1, h2, h3, h4 0 _ rfl, h4 1 _ rfl, h4 2 _ rfl, h4 3 _ rfl⟩
theorem stS : SliceTy Tryd.prog 30 9 1 16 := SliceTy.mk' Tryd.underlying30 (z := .string ⟨#[]⟩) (by kernel_rfl) rfl (by decide) (by decide)
def strV (l : List UInt8) : Value := .string ⟨l.toArray⟩
theorem idle_Join (w : World) : CallsD Tryd.prog 34 #[] .returning w fun e u' w' => e = .returned (.tuple #[]) ∧ u' = .returning ∧ w' = w := by
  refine callsD_of_wpS Tryd.func34 rfl fun c₀ cs hu => ?_
  apply wpS_region
  cases c₀
  simp_all [wpOpsS, go_sem, recoverD, Tryd.ntmps34, bodyPostS, results, Tryd.results34]
/-- After so many tokens of the program's Join. -/
def JnRel (w : World) (ts : List Tk) (v3 v9 : Value) (wr : World) : Prop :=
  ∃ k : Nat, v9 = .int .i64 (k : Int) ∧ k ≤ ts.length ∧ wr.ownsRow w.heap.size 9 1 v3 (wordsK (ts.take k)).length ((wordsK (ts.take k)).map strV) ∧ Below w.heap.size w wr
theorem isEmpty_mk {l : List UInt8} : (⟨l.toArray⟩ : ByteArray).toList.isEmpty = decide (l = []) := by rw [empty_iff]
theorem join_call {w : World} {base c : Nat} {A : Option Addr} (ts : List Tk) (hn : ts.length ≤ 100000) (hown : w.ownsRow base 9 1 (.slice A (wordsK ts).length c) (wordsK ts).length ((wordsK ts).map strV)) (hc : (wordsK ts).length ≤ c) :
    Calls Tryd.prog 36 #[.slice A (wordsK ts).length c, .string ⟨#[32]⟩] w fun e w' => e = .returned (.string ⟨(joinK ts).toArray⟩) ∧ Below w.heap.size w w' := by
  have hlen := joinK_len ts
  have hwl := wordsK_len ts
  unfold joinK at hlen ⊢
  by_cases h0 : wordsK ts = []
  · rw [h0]
    exact (Tryd.strings_Join_none A c ⟨#[32]⟩ w).mono fun e w' h => ⟨h.1, h.2 ▸ Below.refl _ _⟩
  · obtain ⟨b, off, rfl, hb, hcell⟩ := Rd.of_own hown (by simpa using h0)
    have hmap : ((wordsK ts).map fun l => (⟨l.toArray⟩ : ByteArray)).map (·.data.toList) = wordsK ts := by
      rw [List.map_map]; simp [Function.comp_def]
    have hj := Tryd.strings_Join b off c ((wordsK ts).map fun l => ⟨l.toArray⟩) ⟨#[32]⟩ w (by
      intro j x hx
      rw [List.getElem?_map] at hx
      obtain ⟨l, hl, rfl⟩ := Option.map_eq_some_iff.1 hx
      exact hcell j _ (by rw [List.getElem?_map, hl]; rfl)) hb (by rw [List.length_map]; omega) (by rw [List.length_map]; exact hc) (by rw [hmap]; show (Lib.join _ [32]).length ≤ _; rw [join_spJoin]; omega)
    rw [hmap, List.length_map, show (⟨#[32]⟩ : ByteArray).data.toList = [32] from rfl, join_spJoin] at hj
    exact hj
set_option maxRecDepth 100000 in
set_option maxHeartbeats 4000000 in
theorem xjoin (A : Option Addr) (n c : Nat) (ts : List Tk) (w : World) (hn : n ≤ 100000) (hr : RowK w w.heap.size A n ts) (ht : ∀ t ∈ ts, t.text.length ≤ 100000) (hG : G w) : Calls Tryd.prog 21 #[.slice A n c] w (SPost w (joinK ts)) := by
  have hmf : ∀ (fn : Fn) (first cap : Array Value) (w : World), (Instr.makeFunc fn first cap).run Tryd.prog w = .ok (.func fn first cap) w := fun _ _ _ _ => rfl
  have HN := Lib.hid hr.len
  have HT := Lib.hid ht
  clear ht
  go_enter_defers Tryd.func21, Tryd.ntmps21
  go_wp2_with fail
  go_loopw [3, 9] (fun v3 v9 wr => JnRel w ts v3 v9 wr) (fun _ v9 _ => n - (intOf v9).toNat)
  case atStart => exact ⟨0, rfl, by omega, World.ownsRow_nil _ _ _ _, Below.refl _ _⟩
  case round =>
    obtain ⟨k, rfl, hk, hown, hbel⟩ := hrel
    rw [HN.out] at hk
    have hzz := hbel.size
    by_cases hlt : k < n
    · obtain ⟨b, off, t, rfl, hb, hts, q0, q1, q2, q3⟩ := RowK.at4 (hr.later hbel) hlt
      have HTS := Lib.hid hts
      have hX := fun w1 hb1 => xtext t w1 (HT.out t (List.mem_of_getElem? hts)) (G.below hG hb1)
      have hk1 : (k : Int) < (n : Int) := by omega
      have hk0 : (0 : Int) ≤ (k : Int) := by omega
      have hwl := wordsK_len (ts.take k)
      rw [List.length_take] at hwl
      have hw5 : (wordsK (ts.take k)).length ≤ 100000 := by omega
      clear hts hwl
      cases hok : tokOk t
      · rw [tokText_no hok] at hX
        have HS := Lib.hid (show wordsK (ts.take (k + 1)) = wordsK (ts.take k) by rw [List.take_add_one, HTS.out]; exact wordsK_snoc_no hok)
        clear hok
        unfold SPost at hX
        have te : ((⟨([] : List UInt8).toArray⟩ : ByteArray).toList.isEmpty) = true := by rw [isEmpty_mk]; rfl
        generalize (⟨([] : List UInt8).toArray⟩ : ByteArray) = s0 at hX te
        go_wp2_with (go_at_call 35; refine (hX _ (by (repeat (first | (with_reducible exact Below.refl _ _) | (with_reducible assumption) | (with_reducible refine Below.drew ?_) | (with_reducible refine below_drewN ?_ _) | ((with_reducible refine Below.setCell ?_ ?_ _); rotate_left; (focus (first | (simp; done) | (simp; omega) | omega))) | ((with_reducible refine Below.alloc ?_ ?_ _); rotate_left; (focus (first | (simp; done) | (simp; omega) | omega))) | ((with_reducible apply below_step1); (focus (with_reducible assumption))))))).mono ?_; rintro e w1 ⟨rfl, hb1⟩; have hz1 := hb1.size; have own1 := own_below (hown.alloc _) hb1)
        have hb2 : Below w.heap.size w w1 := by (repeat (first | (with_reducible exact Below.refl _ _) | (with_reducible assumption) | (with_reducible refine Below.drew ?_) | (with_reducible refine below_drewN ?_ _) | ((with_reducible refine Below.setCell ?_ ?_ _); rotate_left; (focus (first | (simp; done) | (simp; omega) | omega))) | ((with_reducible refine Below.alloc ?_ ?_ _); rotate_left; (focus (first | (simp; done) | (simp; omega) | omega))) | ((with_reducible apply below_step1); (focus (with_reducible assumption)))))
        go_roundw
        case rel =>
          refine ⟨k + 1, by go_num, by rw [HN.out]; omega, ?_, hb2⟩
          rw [HS.out]
          exact own1
        case measure => simp [intOf]; omega
      · rw [tokText_ok hok] at hX
        have HS := Lib.hid (show wordsK (ts.take (k + 1)) = wordsK (ts.take k) ++ [wordTk t] by rw [List.take_add_one, HTS.out]; exact wordsK_snoc_ok hok)
        have hne := word_ne hok
        clear hok
        unfold SPost at hX
        have te : ((⟨(wordTk t).toArray⟩ : ByteArray).toList.isEmpty) = false := by
          rw [isEmpty_mk, decide_eq_false_iff_not]
          intro h
          rw [h] at hne
          simp at hne
        have HV := Lib.hid (show strV (wordTk t) = .string ⟨(wordTk t).toArray⟩ from rfl)
        generalize (⟨(wordTk t).toArray⟩ : ByteArray) = s0 at hX te HV
        go_wp2_with (first
          | (go_at_call 35; refine (hX _ (by (repeat (first | (with_reducible exact Below.refl _ _) | (with_reducible assumption) | (with_reducible refine Below.drew ?_) | (with_reducible refine below_drewN ?_ _) | ((with_reducible refine Below.setCell ?_ ?_ _); rotate_left; (focus (first | (simp; done) | (simp; omega) | omega))) | ((with_reducible refine Below.alloc ?_ ?_ _); rotate_left; (focus (first | (simp; done) | (simp; omega) | omega))) | ((with_reducible apply below_step1); (focus (with_reducible assumption))))))).mono ?_; rintro e w1 ⟨rfl, hb1⟩; have hz1 := hb1.size; have own1 := own_below (hown.alloc _) hb1)
          | (at_builtin; refine wpList_app (v := u3) rfl _ _ stS rfl rfl (own1) rfl (by simp) rfl (by simp [Value.oneCell']) (by omega) (by simp at hz1; omega) ?_; intro v' w3 own3 hg3 hat3))
        have hb2 : Below w.heap.size w w1 := by (repeat (first | (with_reducible exact Below.refl _ _) | (with_reducible assumption) | (with_reducible refine Below.drew ?_) | (with_reducible refine below_drewN ?_ _) | ((with_reducible refine Below.setCell ?_ ?_ _); rotate_left; (focus (first | (simp; done) | (simp; omega) | omega))) | ((with_reducible refine Below.alloc ?_ ?_ _); rotate_left; (focus (first | (simp; done) | (simp; omega) | omega))) | ((with_reducible apply below_step1); (focus (with_reducible assumption)))))
        have hb3 := below_app hb2 own1 hg3 (Nat.le_refl _) (by simp at hz1; omega)
        go_roundw
        case rel =>
          refine ⟨k + 1, by go_num, by rw [HN.out]; omega, ?_, hb3⟩
          rw [HS.out, List.length_append, List.map_append, List.map_cons, List.map_nil, HV.out]
          exact own3
        case measure => simp [intOf]; omega
    · have hkn : ts.take k = ts := List.take_of_length_le (by rw [HN.out]; omega)
      rw [hkn] at hown
      have hk1 : ¬ (k : Int) < (n : Int) := by omega
      obtain ⟨A3, c3, rfl, h31, h32⟩ := own_slice hown
      have hJ := join_call ts (by rw [HN.out]; exact hn) hown h31
      clear hkn hown h31 h32
      go_wp2_with (go_at_call 36; refine hJ.mono ?_; rintro e w1 ⟨rfl, hb1⟩)
      refine leave_idle idle_Join (by simp [go_sem]) (by simp [results, Tryd.results21, go_sem]; rfl) ?_
      exact ⟨rfl, by (repeat (first | (with_reducible exact Below.refl _ _) | (with_reducible assumption) | (with_reducible refine Below.drew ?_) | (with_reducible refine below_drewN ?_ _) | ((with_reducible refine Below.setCell ?_ ?_ _); rotate_left; (focus (first | (simp; done) | (simp; omega) | omega))) | ((with_reducible refine Below.alloc ?_ ?_ _); rotate_left; (focus (first | (simp; done) | (simp; omega) | omega))) | ((with_reducible apply below_step1); (focus (with_reducible assumption)))))⟩

theorem mk_add2 (a b : List UInt8) : (⟨a.toArray⟩ : ByteArray) ++ ⟨b.toArray⟩ = ⟨(a ++ b).toArray⟩ := by simp [ByteArray.mk_append_mk]
set_option maxRecDepth 100000 in
set_option maxHeartbeats 4000000 in
theorem rjoin (A : Option Addr) (n c : Nat) (ts : List Tk) (w : World) (hn : n ≤ 100000) (hr : RowK w w.heap.size A n ts) (ht : ∀ t ∈ ts, t.text.length ≤ 100000) : Calls Tryd.prog 17 #[.slice A n c] w (SPost w (joinK ts)) := by
  have HN := Lib.hid hr.len
  have HT := Lib.hid ht
  clear ht
  go_enter Tryd.func17, Tryd.ntmps17
  go_wp2_with fail
  go_loopw [3, 4] (fun v3 v4 wr => ∃ k : Nat, v4 = .int .i64 (k : Int) ∧ k ≤ n ∧ v3 = .string ⟨(joinK (ts.take k)).toArray⟩ ∧ Below w.heap.size w wr) (fun _ v4 _ => n - (intOf v4).toNat)
  case atStart => exact ⟨0, rfl, by omega, rfl, Below.refl _ _⟩
  case round =>
    obtain ⟨k, rfl, hk, rfl, hbel⟩ := hrel
    have hzz := hbel.size
    by_cases hlt : k < n
    · obtain ⟨b, off, t, rfl, hb, hts, q0, q1, q2, q3⟩ := RowK.at4 (hr.later hbel) hlt
      have HTS := Lib.hid hts
      have hX := fun w1 => rtext_c t w1 (HT.out t (List.mem_of_getElem? hts))
      have hk1 : (k : Int) < (n : Int) := by omega
      have hk0 : (0 : Int) ≤ (k : Int) := by omega
      have hkw : IntKind.i64.wrap ((k : Int) + 1) = (k : Int) + 1 := IntWalk.i64_in _ (by omega)
      have hjl := joinK_len (ts.take k)
      rw [List.length_take] at hjl
      have hj5 : (joinK (ts.take k)).length ≤ 10100000 := by omega
      clear hts hjl
      unfold RtPost at hX
      obtain ⟨sj, hsj⟩ : ∃ sj : ByteArray, (⟨(joinK (ts.take k)).toArray⟩ : ByteArray) = sj := ⟨_, rfl⟩
      have hjz : sj.size ≤ 10100000 := by rw [← hsj, Lib.size_eq]; exact hj5
      have hje : sj.toList.isEmpty = decide (joinK (ts.take k) = []) := by rw [← hsj, isEmpty_mk]
      rw [hsj]
      have HSJ := Lib.hid hsj
      clear hsj hj5
      cases hok : tokOk t
      · rw [hok] at hX
        have HS := Lib.hid (show joinK (ts.take (k + 1)) = joinK (ts.take k) by unfold joinK; rw [List.take_add_one, HTS.out, Option.toList_some, wordsK_snoc_no hok])
        clear hok hje
        go_wp2_with (go_at_call 30; refine (hX _).mono ?_; rintro e w1 ⟨s0, rfl, hs0, hb1⟩; clear hs0)
        go_roundw
        case rel => exact ⟨k + 1, by go_num, by omega, by rw [HS.out, HSJ.out], by (repeat (first | (with_reducible exact Below.refl _ _) | (with_reducible assumption) | (with_reducible refine Below.drew ?_) | (with_reducible refine below_drewN ?_ _) | ((with_reducible refine Below.setCell ?_ ?_ _); rotate_left; (focus (first | (simp; done) | (simp; omega) | omega))) | ((with_reducible refine Below.alloc ?_ ?_ _); rotate_left; (focus (first | (simp; done) | (simp; omega) | omega))) | ((with_reducible apply below_step1); (focus (with_reducible assumption)))))⟩
        case measure => simp [intOf]; omega
      · rw [hok] at hX
        have hwl := word_le hok
        have HS := Lib.hid (show joinK (ts.take (k + 1)) = (if joinK (ts.take k) = [] then [] else joinK (ts.take k) ++ [32]) ++ wordTk t by rw [List.take_add_one, HTS.out]; exact joinK_snoc hok)
        clear hok
        go_wp2_with fail
        refine (hX _).mono ?_
        rintro e w1 ⟨s0, rfl, hs0, hb1⟩
        have hs1 := hs0 (by trivial)
        have hsz : s0.size ≤ 100 := by rw [hs1, Lib.size_eq]; exact hwl
        have HS0 := Lib.hid hs1
        clear hs0 hs1 hwl hX
        by_cases hJ : joinK (ts.take k) = []
        · have te : sj.toList.isEmpty = true := by rw [hje]; simpa using hJ
          have a1 : ∀ w, (Op.stringOp .add sj s0).run Tryd.prog w = .ok (.string (sj ++ s0)) w := fun w => run_string_add_sum w _ _ (by omega)
          have HQ := Lib.hid (show sj ++ s0 = ⟨(joinK (ts.take (k + 1))).toArray⟩ by rw [HS.out, if_pos hJ, HS0.out, ← HSJ.out, mk_add2, hJ])
          clear hJ hje
          go_wp2_with fail
          go_roundw
          case rel => exact ⟨k + 1, by go_num, by omega, by rw [HQ.out], by (repeat (first | (with_reducible exact Below.refl _ _) | (with_reducible assumption) | (with_reducible refine Below.drew ?_) | (with_reducible refine below_drewN ?_ _) | ((with_reducible refine Below.setCell ?_ ?_ _); rotate_left; (focus (first | (simp; done) | (simp; omega) | omega))) | ((with_reducible refine Below.alloc ?_ ?_ _); rotate_left; (focus (first | (simp; done) | (simp; omega) | omega))) | ((with_reducible apply below_step1); (focus (with_reducible assumption)))))⟩
          case measure => simp [intOf]; omega
        · have te : sj.toList.isEmpty = false := by rw [hje]; simpa using hJ
          have a1 : ∀ w, (Op.stringOp .add sj ⟨#[32]⟩).run Tryd.prog w = .ok (.string (sj ++ ⟨#[32]⟩)) w := fun w => run_string_add_sum w _ _ (by show sj.size + 1 ≤ _; omega)
          have a2 : ∀ w, (Op.stringOp .add (sj ++ ⟨#[32]⟩) s0).run Tryd.prog w = .ok (.string (sj ++ ⟨#[32]⟩ ++ s0)) w := fun w => run_string_add_sum w _ _ (by rw [ByteArray.size_append]; show sj.size + 1 + _ ≤ _; omega)
          have HQ := Lib.hid (show sj ++ ⟨#[32]⟩ ++ s0 = ⟨(joinK (ts.take (k + 1))).toArray⟩ by rw [HS.out, if_neg hJ, HS0.out, ← HSJ.out, show (⟨#[32]⟩ : ByteArray) = ⟨([32] : List UInt8).toArray⟩ from rfl, mk_add2, mk_add2])
          clear hJ hje
          go_wp2_with fail
          go_roundw
          case rel => exact ⟨k + 1, by go_num, by omega, by rw [HQ.out], by (repeat (first | (with_reducible exact Below.refl _ _) | (with_reducible assumption) | (with_reducible refine Below.drew ?_) | (with_reducible refine below_drewN ?_ _) | ((with_reducible refine Below.setCell ?_ ?_ _); rotate_left; (focus (first | (simp; done) | (simp; omega) | omega))) | ((with_reducible refine Below.alloc ?_ ?_ _); rotate_left; (focus (first | (simp; done) | (simp; omega) | omega))) | ((with_reducible apply below_step1); (focus (with_reducible assumption)))))⟩
          case measure => simp [intOf]; omega
    · have hkn : ts.take k = ts := List.take_of_length_le (by rw [HN.out]; omega)
      have hk1 : ¬ (k : Int) < (n : Int) := by omega
      rw [hkn]
      clear hkn
      go_wp2_with fail
      go_ret
      exact ⟨rfl, by (repeat (first | (with_reducible exact Below.refl _ _) | (with_reducible assumption) | (with_reducible refine Below.drew ?_) | (with_reducible refine below_drewN ?_ _) | ((with_reducible refine Below.setCell ?_ ?_ _); rotate_left; (focus (first | (simp; done) | (simp; omega) | omega))) | ((with_reducible refine Below.alloc ?_ ?_ _); rotate_left; (focus (first | (simp; done) | (simp; omega) | omega))) | ((with_reducible apply below_step1); (focus (with_reducible assumption)))))⟩
theorem at0_same {t u : Tk} (h : t.at0 = u.at0) : u = ⟨t.kind, t.text, t.int, u.pos⟩ := by
  obtain ⟨k, x, n, p⟩ := t
  obtain ⟨k', x', n', p'⟩ := u
  simp [Tk.at0] at h
  obtain ⟨rfl, rfl, rfl⟩ := h
  rfl
set_option maxRecDepth 100000 in
set_option maxHeartbeats 4000000 in
/-- Same where the tokens are the same, the positions too if they count. -/
theorem rsameK (A B : Option Addr) (n c d : Nat) (ks ls : List Tk) (q : Bool) (w : World) (hn : n ≤ 100000) (hr : RowK w w.heap.size A n ks) (hs : RowK w w.heap.size B n ls) (h0 : sameTk ks ls) (hq : q = true → ks = ls) : Calls Tryd.prog 22 #[.slice A n c, .slice B n d, .bool q] w fun e w' => e = .returned (.bool true) ∧ Below w.heap.size w w' := by
  have tn : ((n : Int) != (n : Int)) = false := by simp
  have HM := Lib.hid h0
  have HQ := Lib.hid hq
  clear h0 hq
  go_enter Tryd.func22, Tryd.ntmps22
  go_wp2_with fail
  go_loopw [7] (fun v7 wr => ∃ k : Nat, v7 = .int .i64 (k : Int) ∧ k ≤ n ∧ Below w.heap.size w wr) (fun v7 _ => n - (intOf v7).toNat)
  case atStart => exact ⟨0, rfl, by omega, by (repeat (first | (with_reducible exact Below.refl _ _) | (with_reducible assumption) | (with_reducible refine Below.drew ?_) | (with_reducible refine below_drewN ?_ _) | ((with_reducible refine Below.setCell ?_ ?_ _); rotate_left; (focus (first | (simp; done) | (simp; omega) | omega))) | ((with_reducible refine Below.alloc ?_ ?_ _); rotate_left; (focus (first | (simp; done) | (simp; omega) | omega))) | ((with_reducible apply below_step1); (focus (with_reducible assumption)))))⟩
  case round =>
    obtain ⟨k, rfl, hk, hbel⟩ := hrel
    have hzz := hbel.size
    by_cases hlt : k < n
    · have h1 : (k : Int) < (n : Int) := by omega
      have h0 : (0 : Int) ≤ (k : Int) := by omega
      have hkw : IntKind.i64.wrap ((k : Int) + 1) = (k : Int) + 1 := IntWalk.i64_in _ (by omega)
      obtain ⟨b, off, t, rfl, hb, ht, c0, c1, c2, c3⟩ := RowK.at4 (hr.later hbel) hlt
      obtain ⟨b', off', u, rfl, hb', hu, d0, d1, d2, d3⟩ := RowK.at4 (hs.later hbel) hlt
      have hat : t.at0 = u.at0 := by
        have := congrArg (fun l => l[k]?) HM.out
        simpa [ht, hu] using this
      have hue := at0_same hat
      rw [hue] at d0 d1 d2
      simp only at d0 d1 d2
      have k1 : (t.kind != t.kind) = false := by simp
      have k2 : (t.int != t.int) = false := by simp
      cases q
      · clear hat hue ht hu
        go_wp2_with fail
        go_quiet (fail)
        go_wp2_with fail
        go_roundw
        case rel => exact ⟨k + 1, by go_num, by omega, by (repeat (first | (with_reducible exact Below.refl _ _) | (with_reducible assumption) | (with_reducible refine Below.drew ?_) | (with_reducible refine below_drewN ?_ _) | ((with_reducible refine Below.setCell ?_ ?_ _); rotate_left; (focus (first | (simp; done) | (simp; omega) | omega))) | ((with_reducible refine Below.alloc ?_ ?_ _); rotate_left; (focus (first | (simp; done) | (simp; omega) | omega))) | ((with_reducible apply below_step1); (focus (with_reducible assumption)))))⟩
        case measure => simp [intOf]; omega
      · have hup : u.pos = t.pos := by
          have e := HQ.out rfl
          rw [e] at ht
          rw [Option.some.inj (ht.symm.trans hu)]
        rw [hup] at d3
        have k3 : (t.pos != t.pos) = false := by simp
        clear hat hue ht hu hup
        go_wp2_with fail
        go_quiet (fail)
        go_wp2_with fail
        go_roundw
        case rel => exact ⟨k + 1, by go_num, by omega, by (repeat (first | (with_reducible exact Below.refl _ _) | (with_reducible assumption) | (with_reducible refine Below.drew ?_) | (with_reducible refine below_drewN ?_ _) | ((with_reducible refine Below.setCell ?_ ?_ _); rotate_left; (focus (first | (simp; done) | (simp; omega) | omega))) | ((with_reducible refine Below.alloc ?_ ?_ _); rotate_left; (focus (first | (simp; done) | (simp; omega) | omega))) | ((with_reducible apply below_step1); (focus (with_reducible assumption)))))⟩
        case measure => simp [intOf]; omega
    · have h1 : ¬ (k : Int) < (n : Int) := by omega
      go_wp2_with fail
      go_ret
      exact ⟨rfl, by (repeat (first | (with_reducible exact Below.refl _ _) | (with_reducible assumption) | (with_reducible refine Below.drew ?_) | (with_reducible refine below_drewN ?_ _) | ((with_reducible refine Below.setCell ?_ ?_ _); rotate_left; (focus (first | (simp; done) | (simp; omega) | omega))) | ((with_reducible refine Below.alloc ?_ ?_ _); rotate_left; (focus (first | (simp; done) | (simp; omega) | omega))) | ((with_reducible apply below_step1); (focus (with_reducible assumption)))))⟩
set_option maxRecDepth 100000 in
set_option maxHeartbeats 1000000 in
/-- Scan of both compared. -/
theorem scans_c (s : ByteArray) (w : World) (hs : s.size ≤ 1099511627776) (hE : GE w) : Calls Tryd.prog 11 #[.string s] w fun e w' => e = .returned (.bool true) ∧ Below w.heap.size w w' := by
  have hP := fun w1 hb => xscan s w1 hs (GE.below hE hb)
  have hQ := fun w1 => rscan s w1 hs
  have hlen := scanO_len s.data.toList
  generalize scanO s.data.toList = X at hP hQ hlen
  obtain ⟨l, i, ec⟩ := X
  simp only at hlen
  unfold KPost at hP hQ
  simp only at hP hQ
  have k1 : (ec == ec) = true := by simp
  have k2 : ((i : Int) == (i : Int)) = true := by simp
  go_enter Tryd.func11, Tryd.ntmps11
  go_wp2_with fail
  refine (hP _ (by (repeat (first | (with_reducible exact Below.refl _ _) | (with_reducible assumption) | (with_reducible refine Below.drew ?_) | (with_reducible refine below_drewN ?_ _) | ((with_reducible refine Below.setCell ?_ ?_ _); rotate_left; (focus (first | (simp; done) | (simp; omega) | omega))) | ((with_reducible refine Below.alloc ?_ ?_ _); rotate_left; (focus (first | (simp; done) | (simp; omega) | omega))) | ((with_reducible apply below_step1); (focus (with_reducible assumption))))))).mono ?_
  rintro e w1 ⟨A1, c1, rfl, own1, hb1⟩
  have hz1 := hb1.size
  have R1 : RowK w1 w1.heap.size A1 l.length l := RowOf.of_own own1 rfl
  clear own1 hP
  go_wp2_with fail
  refine (hQ _).mono ?_
  rintro e w2 ⟨A2, c2, rfl, own2, hb2⟩
  have hz2 := hb2.size
  have R2 : RowK w2 w2.heap.size A2 l.length l := RowOf.of_own own2 rfl
  have R1' := R1.later hb2
  clear own2 hQ R1
  go_wp2_with (go_at_call 22; refine (rsameK A1 A2 l.length c1 c2 l l true _ (by omega) R1' R2 rfl (fun _ => rfl)).mono ?_; rintro e w3 ⟨rfl, hb3⟩)
  go_ret
  exact ⟨rfl, by (repeat (first | (with_reducible exact Below.refl _ _) | (with_reducible assumption) | (with_reducible refine Below.drew ?_) | (with_reducible refine below_drewN ?_ _) | ((with_reducible refine Below.setCell ?_ ?_ _); rotate_left; (focus (first | (simp; done) | (simp; omega) | omega))) | ((with_reducible refine Below.alloc ?_ ?_ _); rotate_left; (focus (first | (simp; done) | (simp; omega) | omega))) | ((with_reducible apply below_step1); (focus (with_reducible assumption)))))⟩
def awakeK : List Tk := [⟨1, [97], 0, 0⟩, ⟨4, [60, 61], 0, 1⟩, ⟨2, [], 1, 3⟩]
theorem scan_awake : scanO [97, 60, 61, 49] = (awakeK, 0, 0) := by rfl
set_option maxRecDepth 100000 in
set_option maxHeartbeats 1000000 in
theorem awake_c (w : World) (hE : GE w) : Calls Tryd.prog 10 #[] w fun e w' => e = .returned (.bool true) ∧ Below w.heap.size w w' := by
  have hP := fun w1 hb => xscan ⟨#[97, 60, 61, 49]⟩ w1 (by decide) (GE.below hE hb)
  rw [show (⟨#[97, 60, 61, 49]⟩ : ByteArray).data.toList = [97, 60, 61, 49] from rfl, scan_awake] at hP
  unfold KPost at hP
  simp only at hP
  have h3 : awakeK.length = 3 := rfl
  rw [h3] at hP
  go_enter Tryd.func10, Tryd.ntmps10
  go_wp2_with fail
  refine (hP _ (by (repeat (first | (with_reducible exact Below.refl _ _) | (with_reducible assumption) | (with_reducible refine Below.drew ?_) | (with_reducible refine below_drewN ?_ _) | ((with_reducible refine Below.setCell ?_ ?_ _); rotate_left; (focus (first | (simp; done) | (simp; omega) | omega))) | ((with_reducible refine Below.alloc ?_ ?_ _); rotate_left; (focus (first | (simp; done) | (simp; omega) | omega))) | ((with_reducible apply below_step1); (focus (with_reducible assumption))))))).mono ?_
  rintro e w1 ⟨A1, c1, rfl, own1, hb1⟩
  have hz1 := hb1.size
  have R1 : RowK w1 w1.heap.size A1 3 awakeK := RowOf.of_own own1 rfl
  clear own1 hP h3
  go_wp2_with (go_at_call 22; refine (rsameK A1 _ 3 c1 3 awakeK awakeK true _ (by omega) (by exact R1.later (by (repeat (first | (with_reducible exact Below.refl _ _) | (with_reducible assumption) | (with_reducible refine Below.drew ?_) | (with_reducible refine below_drewN ?_ _) | ((with_reducible refine Below.setCell ?_ ?_ _); rotate_left; (focus (first | (simp; done) | (simp; omega) | omega))) | ((with_reducible refine Below.alloc ?_ ?_ _); rotate_left; (focus (first | (simp; done) | (simp; omega) | omega))) | ((with_reducible apply below_step1); (focus (with_reducible assumption))))))) (by exact rowOf_made (cells := Tk.cells) w1 _ _ 3 awakeK rfl rfl) rfl (fun _ => rfl)).mono ?_; rintro e w3 ⟨rfl, hb3⟩)
  go_ret
  exact ⟨rfl, by (repeat (first | (with_reducible exact Below.refl _ _) | (with_reducible assumption) | (with_reducible refine Below.drew ?_) | (with_reducible refine below_drewN ?_ _) | ((with_reducible refine Below.setCell ?_ ?_ _); rotate_left; (focus (first | (simp; done) | (simp; omega) | omega))) | ((with_reducible refine Below.alloc ?_ ?_ _); rotate_left; (focus (first | (simp; done) | (simp; omega) | omega))) | ((with_reducible apply below_step1); (focus (with_reducible assumption)))))⟩
end Go.Proofs.YtmbegmhgiekofaaDoor
