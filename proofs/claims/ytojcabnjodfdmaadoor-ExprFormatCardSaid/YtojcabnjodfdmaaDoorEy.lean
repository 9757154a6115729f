/- Contracts of the reference's word, format and Format: names of at most a hundred bytes. -/
import Derived.Test.YtojcabnjodfdmaaDoorBd
import Derived.Test.YtojcabnjodfdmaaDoorBc
namespace Go.Proofs.YtojcabnjodfdmaaDoor
open Go.RowKit

set_option maxRecDepth 100000 in
set_option maxHeartbeats 1000000 in
theorem rword (op : Int) (w : World) (h1 : 3 ≤ op) (h2 : op ≤ 18) : Calls Tryd.prog 75 #[.int .i64 op] w (OpPost w op) := by
  obtain rfl | rfl | rfl | rfl | rfl | rfl | rfl | rfl | rfl | rfl | rfl | rfl | rfl | rfl | rfl | rfl : op = 3 ∨ op = 4 ∨ op = 5 ∨ op = 6 ∨ op = 7 ∨ op = 8 ∨ op = 9 ∨ op = 10 ∨ op = 11 ∨ op = 12 ∨ op = 13 ∨ op = 14 ∨ op = 15 ∨ op = 16 ∨ op = 17 ∨ op = 18 := by omega
  all_goals go_enter Tryd.func75, Tryd.ntmps75
  all_goals go_wp2_with fail
  all_goals go_ret
  all_goals exact ⟨rfl, by (repeat (first | (with_reducible exact Below.refl _ _) | (with_reducible assumption) | (with_reducible refine Below.drew ?_) | (with_reducible refine below_drewN ?_ _) | ((with_reducible refine Below.setCell ?_ ?_ _); rotate_left; (focus (first | (simp; done) | (simp; omega) | omega))) | ((with_reducible refine Below.alloc ?_ ?_ _); rotate_left; (focus (first | (simp; done) | (simp; omega) | omega))) | ((with_reducible apply below_step1); (focus (with_reducible assumption)))))⟩
theorem fmts_take {names : List ByteArray} {ks : List X} {i : Nat} {k : X} (h : ks[i]? = some k) : fmts names (ks.take (i + 1)) = fmts names (ks.take i) ++ [k.fmt names] := by
  rw [List.take_add_one, h, Option.toList_some, fmts_snoc]
theorem joinL_take {names : List ByteArray} {ks : List X} {i : Nat} {k : X} (h : ks[i]? = some k) : joinL (fmts names (ks.take (i + 1))) = joinL (fmts names (ks.take i)) ++ (if 0 < i then [44, 32] else []) ++ k.fmt names := by
  have hl : i < ks.length := (List.getElem?_eq_some_iff.1 h).1
  rw [fmts_take h]
  rcases Nat.eq_zero_or_pos i with h0 | h0
  · subst h0; simp [fmts, joinL]
  · rw [joinL_snoc _ _ (by
      intro h1
      have := congrArg List.length h1
      rw [fmts_len, List.length_take, List.length_nil] at this
      omega), if_pos h0]
theorem flats_take_le (ks : List X) (i : Nat) : (flats (ks.take i)).length ≤ (flats ks).length := by
  have : flats ks = flats (ks.take i) ++ flats (ks.drop i) := by
    conv => lhs; rw [← List.take_append_drop i ks]
    generalize ks.take i = l
    induction l with
    | nil => simp [flats]
    | cons y ys ih => simp only [List.cons_append, flats_cons, ih, List.append_assoc]
  rw [this, List.length_append]
  omega
def FrPost (w : World) (l : List UInt8) (e : Ending) (w' : World) : Prop := e = .returned (.string ⟨l.toArray⟩) ∧ Below w.heap.size w w'
def FrRel (w1 : World) (names : List ByteArray) (op : Int) (ks : List X) (v5 v7 : Value) (wr : World) : Prop := ∃ i : Nat, i ≤ ks.length ∧ v7 = .int .i64 (i : Int) ∧ v5 = .string ⟨(wordL op ++ [40] ++ joinL (fmts names (ks.take i))).toArray⟩ ∧ Below w1.heap.size w1 wr
theorem mk_add (a b : List UInt8) : (⟨a.toArray⟩ : ByteArray) ++ ⟨b.toArray⟩ = ⟨(a ++ b).toArray⟩ := by simp [ByteArray.mk_append_mk]
theorem run_add (a b : List UInt8) (w : World) (h : a.length + b.length ≤ 1000000) : (Op.stringOp .add (⟨a.toArray⟩ : ByteArray) ⟨b.toArray⟩).run Tryd.prog w = .ok (.string ⟨(a ++ b).toArray⟩) w := by
  rw [← mk_add]
  exact run_string_add_sum w _ _ (by rw [Lib.size_eq, Lib.size_eq]; simp; omega)
set_option maxRecDepth 100000 in
set_option maxHeartbeats 4000000 in
theorem rformat_c (R : Option Addr) (m d : Nat) (names : List ByteArray) (hm : m ≤ maxLen) (hN : ∀ s ∈ names, s.size ≤ 100) : ∀ (f : Nat) (x : X) (b off n c : Nat) (w : World), x.depth ≤ f → f ≤ 17 → x.wf = true → n ≤ c → c ≤ maxLen → n ≤ 1000 → RowT w w.heap.size (some ⟨b, off, none⟩) n x.flat → RowS w w.heap.size R m names → Calls Tryd.prog 51 #[.slice (some ⟨b, off, none⟩) n c, .slice R m d] w (FrPost w (x.fmt names)) := by
  intro f
  induction f with
  | zero => intro x b off n c w hd; have := x.depth_pos; omega
  | succ f ih =>
    intro x b off n c w hd hf hw hnc hcm hn hr hv
    obtain ⟨t, ks⟩ := x
    have hr' := hr
    rw [X.flat_node] at hr'
    obtain ⟨b', off', e1, hb, c0, c1, c2, c3, c4⟩ := RowT.head5 hr'
    injection e1 with e1
    injection e1 with e1 e2
    subst e1 e2
    have hn1 : 0 < n := by have := hr'.len; simp at this; omega
    have hfl : (flats ks).length + 1 = n := by have := hr'.len; simpa using this
    clear hr'
    have hw2 := hw
    simp only [X.wf, Bool.and_eq_true, decide_eq_true_eq] at hw2
    obtain ⟨hok, hkl, hkw⟩ := hw2
    have hop := term_op hok
    have HE := Lib.hid (show (X.node t ks).fmt names = termF names t (fmts names ks) by rw [X.fmt])
    generalize (X.node t ks).fmt names = ve at HE
    unfold termF at HE
    by_cases h1 : t.op = 1
    · have t1 : (t.op == 1) = true := by simpa using h1
      rw [if_pos h1] at HE
      clear h1 hop hok hkl hkw hw hfl
      go_enter Tryd.func51, Tryd.ntmps51
      go_wp2_with ((go_at_call 74; refine (rformat t.v _).mono ?_; rintro e w1 ⟨rfl, hb1⟩; have hz1 := hb1.size; (try simp at hz1)))
      go_ret
      unfold FrPost
      rw [HE.out]
      exact ⟨rfl, by (repeat (first | (with_reducible exact Below.refl _ _) | (with_reducible assumption) | (with_reducible refine Below.drew ?_) | (with_reducible refine below_drewN ?_ _) | ((with_reducible refine Below.setCell ?_ ?_ _); rotate_left; (focus (first | (simp; done) | (simp; omega) | omega))) | ((with_reducible refine Below.alloc ?_ ?_ _); rotate_left; (focus (first | (simp; done) | (simp; omega) | omega))) | ((with_reducible apply below_step1); (focus (with_reducible assumption)))))⟩
    have t1 : (t.op == 1) = false := by simpa using h1
    rw [if_neg h1] at HE
    by_cases h2 : t.op = 2
    · have t2 : (t.op == 2) = true := by simpa using h2
      rw [if_pos h2] at HE
      have hc0 := (term_col hok h2).1
      have hl := hv.len
      clear h1 h2 hop hok hkl hkw hw hfl
      unfold maxLen at hm
      by_cases hc : t.c < names.length
      · rw [if_pos hc] at HE
        obtain ⟨i, hi⟩ := Int.eq_ofNat_of_zero_le hc0
        obtain ⟨b2, off2, s, rfl, hb2, hs, hcell⟩ := RowS.at1 hv (show i < m by omega)
        rw [hi, Int.toNat_natCast, List.getD_eq_getElem?_getD, hs] at HE
        have h4 : (i : Int) < (m : Int) := by omega
        have h5 : (0 : Int) ≤ (i : Int) := by omega
        rw [hi] at c4
        clear hc hl hi hs hc0
        go_enter Tryd.func51, Tryd.ntmps51
        go_wp2_with fail
        go_ret
        unfold FrPost
        rw [HE.out]
        exact ⟨rfl, by (repeat (first | (with_reducible exact Below.refl _ _) | (with_reducible assumption) | (with_reducible refine Below.drew ?_) | (with_reducible refine below_drewN ?_ _) | ((with_reducible refine Below.setCell ?_ ?_ _); rotate_left; (focus (first | (simp; done) | (simp; omega) | omega))) | ((with_reducible refine Below.alloc ?_ ?_ _); rotate_left; (focus (first | (simp; done) | (simp; omega) | omega))) | ((with_reducible apply below_step1); (focus (with_reducible assumption)))))⟩
      · rw [if_neg hc] at HE
        have h3 : ¬ t.c < (m : Int) := by omega
        clear hc hl
        go_enter Tryd.func51, Tryd.ntmps51
        go_wp2_with fail
        go_ret
        unfold FrPost
        rw [HE.out]
        exact ⟨rfl, by (repeat (first | (with_reducible exact Below.refl _ _) | (with_reducible assumption) | (with_reducible refine Below.drew ?_) | (with_reducible refine below_drewN ?_ _) | ((with_reducible refine Below.setCell ?_ ?_ _); rotate_left; (focus (first | (simp; done) | (simp; omega) | omega))) | ((with_reducible refine Below.alloc ?_ ?_ _); rotate_left; (focus (first | (simp; done) | (simp; omega) | omega))) | ((with_reducible apply below_step1); (focus (with_reducible assumption)))))⟩
    have t2 : (t.op == 2) = false := by simpa using h2
    rw [if_neg h2] at HE
    have hk3 : ks.length ≤ 3 := by have := ar_le t.op; omega
    have hdk : deepest ks + 1 ≤ f + 1 := hd
    have hops := fun w hr1 => operands_c b off n c t ks w hn hnc hcm hw (by omega) hr1
    have hwd := fun w => rword t.op w (by omega) (by omega)
    unfold OpPost at hwd
    have hwl := wordL_len t.op
    have a0 : ∀ w, (Op.stringOp .add (⟨(wordL t.op).toArray⟩ : ByteArray) ⟨#[40]⟩).run Tryd.prog w = .ok (.string ⟨(wordL t.op ++ [40]).toArray⟩) w := fun w => run_add (wordL t.op) [40] w (by simp; omega)
    have HKW := Lib.hid hkw
    clear hop hok hkl hw h1 h2 hd hkw
    go_enter Tryd.func51, Tryd.ntmps51
    go_wp2_with (first
      | (go_at_call 75; refine (hwd _).mono ?_; rintro e w9 ⟨rfl, hb9⟩; have hz9 := hb9.size; (try simp at hz9))
      | (go_at_call 69; refine (hops _ (by exact hr.to (by (repeat (first | (with_reducible exact Below.refl _ _) | (with_reducible assumption) | (with_reducible refine Below.drew ?_) | (with_reducible refine below_drewN ?_ _) | ((with_reducible refine Below.setCell ?_ ?_ _); rotate_left; (focus (first | (simp; done) | (simp; omega) | omega))) | ((with_reducible refine Below.alloc ?_ ?_ _); rotate_left; (focus (first | (simp; done) | (simp; omega) | omega))) | ((with_reducible apply below_step1); (focus (with_reducible assumption)))))))).mono ?_; rintro e w1 ⟨lv, rfl, ol, hb1⟩; obtain ⟨LA, lc, rfl, _, hlc⟩ := own_slice ol; have hz1 := hb1.size))
    have HOL := Lib.hid ol
    clear ol a0
    have hw1 : Below w.heap.size w w1 := by (repeat (first | (with_reducible exact Below.refl _ _) | (with_reducible assumption) | (with_reducible refine Below.drew ?_) | (with_reducible refine below_drewN ?_ _) | ((with_reducible refine Below.setCell ?_ ?_ _); rotate_left; (focus (first | (simp; done) | (simp; omega) | omega))) | ((with_reducible refine Below.alloc ?_ ?_ _); rotate_left; (focus (first | (simp; done) | (simp; omega) | omega))) | ((with_reducible apply below_step1); (focus (with_reducible assumption)))))
    go_loopw [5, 7] (fun v5 v7 wr => FrRel w1 names t.op ks v5 v7 wr) (fun _ v7 _ => ks.length - (intOf v7).toNat)
    case atStart => exact ⟨0, Nat.zero_le _, rfl, by simp [fmts, joinL], by (repeat (first | (with_reducible exact Below.refl _ _) | (with_reducible assumption) | (with_reducible refine Below.drew ?_) | (with_reducible refine below_drewN ?_ _) | ((with_reducible refine Below.setCell ?_ ?_ _); rotate_left; (focus (first | (simp; done) | (simp; omega) | omega))) | ((with_reducible refine Below.alloc ?_ ?_ _); rotate_left; (focus (first | (simp; done) | (simp; omega) | omega))) | ((with_reducible apply below_step1); (focus (with_reducible assumption)))))⟩
    case round =>
      obtain ⟨i, hi, rfl, rfl, hbel⟩ := hrel
      have hzz := hbel.size
      have hsum : (joinL (fmts names (ks.take i))).length ≤ 200000 := by
        have := fmts_sum hN (ks.take i)
        have := flats_take_le ks i
        omega
      by_cases hlt : i < ks.length
      · have hki : ks[i]? = some ks[i] := List.getElem?_eq_getElem hlt
        generalize ks[i] = k at hki
        obtain ⟨k1, k2, k3⟩ := kid_in hki
        obtain ⟨g, q, rfl, hg, hg0, _, hkn, hcell, hqn, hpart⟩ := ops_at (w := w) HOL.out hr hki hw1
        have hcell2 : wr.cell? ⟨g, i, none⟩ = some (.slice (some ⟨b, off + q * 5, none⟩) k.flat.length (c - q)) := (hbel.cell (p := ⟨g, i, none⟩) hg).trans hcell
        have hwr : Below w.heap.size w wr := by (repeat (first | (with_reducible exact Below.refl _ _) | (with_reducible assumption) | (with_reducible refine Below.drew ?_) | (with_reducible refine below_drewN ?_ _) | ((with_reducible refine Below.setCell ?_ ?_ _); rotate_left; (focus (first | (simp; done) | (simp; omega) | omega))) | ((with_reducible refine Below.alloc ?_ ?_ _); rotate_left; (focus (first | (simp; done) | (simp; omega) | omega))) | ((with_reducible apply below_step1); (focus (with_reducible assumption)))))
        have ihe := ih k b (off + q * 5) k.flat.length (c - q) wr (by omega) (by omega) (k2 HKW.out) (by omega) (by omega) (by omega) ((hpart.below hwr).more hwr.size) ((hv.below hwr).more hwr.size)
        have HS := Lib.hid (joinL_take (names := names) hki)
        have hkl := fmt_len hN k
        generalize k.fmt names = kv at ihe HS hkl
        generalize joinL (fmts names (ks.take i)) = jl at HS hsum
        have h0 : (0 : Int) ≤ (i : Int) := by omega
        have h1 : (i : Int) < (ks.length : Int) := by omega
        have hiw : IntKind.i64.wrap ((i : Int) + 1) = (i : Int) + 1 := IntWalk.i64_in _ (by omega)
        unfold FrPost at ihe
        clear hki k1 k2 k3 ih hcell hpart hr hv hwd hops
        by_cases hi0 : 0 < i
        · have t0 : (0 : Int) < (i : Int) := by omega
          have a1 : ∀ w, (Op.stringOp .add (⟨(wordL t.op ++ [40] ++ jl).toArray⟩ : ByteArray) ⟨#[44, 32]⟩).run Tryd.prog w = .ok (.string ⟨(wordL t.op ++ [40] ++ jl ++ [44, 32]).toArray⟩) w := fun w => run_add (wordL t.op ++ [40] ++ jl) [44, 32] w (by simp; omega)
          have a2 : ∀ w, (Op.stringOp .add (⟨(wordL t.op ++ [40] ++ jl ++ [44, 32]).toArray⟩ : ByteArray) ⟨kv.toArray⟩).run Tryd.prog w = .ok (.string ⟨(wordL t.op ++ [40] ++ jl ++ [44, 32] ++ kv).toArray⟩) w := fun w => run_add (wordL t.op ++ [40] ++ jl ++ [44, 32]) kv w (by simp; omega)
          rw [if_pos hi0] at HS
          generalize hs1 : (⟨(wordL t.op ++ [40] ++ jl).toArray⟩ : ByteArray) = s1 at a1 ⊢
          generalize hs2 : (⟨(wordL t.op ++ [40] ++ jl ++ [44, 32]).toArray⟩ : ByteArray) = s2 at a1 a2
          generalize hs3 : (⟨(wordL t.op ++ [40] ++ jl ++ [44, 32] ++ kv).toArray⟩ : ByteArray) = s3 at a2
          generalize hs4 : (⟨kv.toArray⟩ : ByteArray) = s4 at a2 ihe
          have HS3 := Lib.hid hs3
          clear hs1 hs2 hs3 hs4 hi0
          go_wp2_with ((go_at_call 51; refine (ihe).mono ?_; rintro e w2 ⟨rfl, hb2⟩; have hz2 := hb2.size; (try simp at hz2)))
          go_roundw
          case rel =>
            refine ⟨i + 1, by omega, by go_num, ?_, by (repeat (first | (with_reducible exact Below.refl _ _) | (with_reducible assumption) | (with_reducible refine Below.drew ?_) | (with_reducible refine below_drewN ?_ _) | ((with_reducible refine Below.setCell ?_ ?_ _); rotate_left; (focus (first | (simp; done) | (simp; omega) | omega))) | ((with_reducible refine Below.alloc ?_ ?_ _); rotate_left; (focus (first | (simp; done) | (simp; omega) | omega))) | ((with_reducible apply below_step1); (focus (with_reducible assumption)))))⟩
            rw [← HS3.out, HS.out]
            simp
          case measure => simp [intOf]; omega
        · have t0 : ¬ (0 : Int) < (i : Int) := by omega
          have a2 : ∀ w, (Op.stringOp .add (⟨(wordL t.op ++ [40] ++ jl).toArray⟩ : ByteArray) ⟨kv.toArray⟩).run Tryd.prog w = .ok (.string ⟨(wordL t.op ++ [40] ++ jl ++ kv).toArray⟩) w := fun w => run_add (wordL t.op ++ [40] ++ jl) kv w (by simp; omega)
          rw [if_neg hi0] at HS
          generalize hs1 : (⟨(wordL t.op ++ [40] ++ jl).toArray⟩ : ByteArray) = s1 at a2 ⊢
          generalize hs3 : (⟨(wordL t.op ++ [40] ++ jl ++ kv).toArray⟩ : ByteArray) = s3 at a2
          generalize hs4 : (⟨kv.toArray⟩ : ByteArray) = s4 at a2 ihe
          have HS3 := Lib.hid hs3
          clear hs1 hs3 hs4 hi0
          go_wp2_with ((go_at_call 51; refine (ihe).mono ?_; rintro e w2 ⟨rfl, hb2⟩; have hz2 := hb2.size; (try simp at hz2)))
          go_roundw
          case rel =>
            refine ⟨i + 1, by omega, by go_num, ?_, by (repeat (first | (with_reducible exact Below.refl _ _) | (with_reducible assumption) | (with_reducible refine Below.drew ?_) | (with_reducible refine below_drewN ?_ _) | ((with_reducible refine Below.setCell ?_ ?_ _); rotate_left; (focus (first | (simp; done) | (simp; omega) | omega))) | ((with_reducible refine Below.alloc ?_ ?_ _); rotate_left; (focus (first | (simp; done) | (simp; omega) | omega))) | ((with_reducible apply below_step1); (focus (with_reducible assumption)))))⟩
            rw [← HS3.out, HS.out]
            simp
          case measure => simp [intOf]; omega
      · obtain rfl : i = ks.length := by omega
        rw [List.take_length] at hsum
        rw [List.take_length]
        have hlt2 : ¬ (ks.length : Int) < (ks.length : Int) := by omega
        have a2 : ∀ w, (Op.stringOp .add (⟨(wordL t.op ++ [40] ++ joinL (fmts names ks)).toArray⟩ : ByteArray) ⟨#[41]⟩).run Tryd.prog w = .ok (.string ⟨(wordL t.op ++ [40] ++ joinL (fmts names ks) ++ [41]).toArray⟩) w := fun w => run_add (wordL t.op ++ [40] ++ joinL (fmts names ks)) [41] w (by simp; omega)
        generalize hs1 : (⟨(wordL t.op ++ [40] ++ joinL (fmts names ks)).toArray⟩ : ByteArray) = s1 at a2 ⊢
        have HS1 := Lib.hid hs1
        clear hs1 ih hr hv hwd hops
        go_wp2_with fail
        go_ret
        unfold FrPost
        rw [HE.out]
        refine ⟨ret_str ?_, by (repeat (first | (with_reducible exact Below.refl _ _) | (with_reducible assumption) | (with_reducible refine Below.drew ?_) | (with_reducible refine below_drewN ?_ _) | ((with_reducible refine Below.setCell ?_ ?_ _); rotate_left; (focus (first | (simp; done) | (simp; omega) | omega))) | ((with_reducible refine Below.alloc ?_ ?_ _); rotate_left; (focus (first | (simp; done) | (simp; omega) | omega))) | ((with_reducible apply below_step1); (focus (with_reducible assumption)))))⟩
        simp
set_option maxRecDepth 100000 in
set_option maxHeartbeats 1000000 in
theorem rfmt_c (A R : Option Addr) (n c m d : Nat) (es : List T) (names : List ByteArray) (w : World) (hn : n ≤ c) (hc : c ≤ maxLen) (hm : m ≤ maxLen) (hN : ∀ s ∈ names, s.size ≤ 100) (hr : RowT w w.heap.size A n es) (hv : RowS w w.heap.size R m names) : Calls Tryd.prog 27 #[.slice A n c, .slice R m d] w fun e w' => e = .returned (.string ⟨(formatE es names).toArray⟩) ∧ Below w.heap.size w w' := by
  have hvd := rvalidE A n c es w (by omega) hr
  cases hval : validE es
  · rw [hval] at hvd
    have HE := Lib.hid (show formatE es names = [] by unfold formatE; rw [treeE_bad hval])
    clear hval
    go_enter Tryd.func27, Tryd.ntmps27
    go_wp2_with ((go_at_call 19; refine (hvd).mono ?_; rintro e w1 ⟨rfl, hb1⟩; have hz1 := hb1.size; (try simp at hz1)))
    go_ret
    rw [HE.out]
    exact ⟨rfl, by (repeat (first | (with_reducible exact Below.refl _ _) | (with_reducible assumption) | (with_reducible refine Below.drew ?_) | (with_reducible refine below_drewN ?_ _) | ((with_reducible refine Below.setCell ?_ ?_ _); rotate_left; (focus (first | (simp; done) | (simp; omega) | omega))) | ((with_reducible refine Below.alloc ?_ ?_ _); rotate_left; (focus (first | (simp; done) | (simp; omega) | omega))) | ((with_reducible apply below_step1); (focus (with_reducible assumption)))))⟩
  · rw [hval] at hvd
    obtain ⟨x, hx, hfl, hw, hd, hl⟩ := treeE_ok hval
    have hl2 := hr.len
    obtain ⟨b, off, rfl⟩ : ∃ b off, A = some ⟨b, off, none⟩ := by
      obtain ⟨b, off, t, h, _⟩ := RowT.at5 hr (k := 0) (by have := x.flat_pos; rw [← hfl] at this; omega)
      exact ⟨b, off, h⟩
    have HE := Lib.hid (show formatE es names = x.fmt names by unfold formatE; rw [hx])
    subst hfl
    have hev := fun w1 hr1 hv1 => rformat_c R m d names hm hN 16 x b off n c w1 hd (by omega) hw hn hc (by omega) hr1 hv1
    unfold FrPost at hev
    clear hval hx hw hd hl hl2
    go_enter Tryd.func27, Tryd.ntmps27
    go_wp2_with (first
      | (go_at_call 19; refine (hvd).mono ?_; rintro e w1 ⟨rfl, hb1⟩; have hz1 := hb1.size; (try simp at hz1))
      | (go_at_call 51; refine (hev w1 (hr.to hb1) (hv.to hb1)).mono ?_; rintro e w2 ⟨rfl, hb2⟩; have hz2 := hb2.size; (try simp at hz2)))
    go_ret
    rw [HE.out]
    exact ⟨rfl, by (repeat (first | (with_reducible exact Below.refl _ _) | (with_reducible assumption) | (with_reducible refine Below.drew ?_) | (with_reducible refine below_drewN ?_ _) | ((with_reducible refine Below.setCell ?_ ?_ _); rotate_left; (focus (first | (simp; done) | (simp; omega) | omega))) | ((with_reducible refine Below.alloc ?_ ?_ _); rotate_left; (focus (first | (simp; done) | (simp; omega) | omega))) | ((with_reducible apply below_step1); (focus (with_reducible assumption)))))⟩
end Go.Proofs.YtojcabnjodfdmaaDoor
