/- Contracts of the reference's eval, Eval and Holds: expressions of at most a thousand terms. -/
import Derived.Test.YtojcabnjodfdmaaDoorEr
namespace Go.Proofs.YtojcabnjodfdmaaDoor
open Go.RowKit

theorem RowT.head5 {w : World} {B n : Nat} {A : Option Addr} {t : T} {l : List T} (h : RowT w B A n (t :: l)) :
   ∃ b off, A = some ⟨b, off, none⟩ ∧ b < B ∧ w.cell? ⟨b, off, none⟩ = some (.int .i64 t.op) ∧ w.cell? ⟨b, off + 1, none⟩ = some (.int .i64 t.v.k) ∧ w.cell? ⟨b, off + 2, none⟩ = some (.int .i64 t.v.n) ∧ w.cell? ⟨b, off + 3, none⟩ = some (.string t.v.s) ∧ w.cell? ⟨b, off + 4, none⟩ = some (.int .i64 t.c) := by
  obtain ⟨b, off, t', h1, h2, h3, h4, h5, h6, h7, h8⟩ := RowT.at5 h (k := 0) (by have := h.len; simp at this; omega)
  simp at h3
  subst h3
  simp only [Nat.zero_mul, Nat.add_zero] at h4 h5 h6 h7 h8
  exact ⟨b, off, h1, h2, h4, h5, h6, h7, h8⟩
set_option maxRecDepth 100000 in
set_option maxHeartbeats 4000000 in
theorem reval_c (R : Option Addr) (m d : Nat) (row : List V) (hm : m ≤ maxLen) : ∀ (f : Nat) (x : X) (b off n c : Nat) (w : World), x.depth ≤ f → f ≤ 17 → x.wf = true → n ≤ c → c ≤ maxLen → n ≤ 1000 → RowT w w.heap.size (some ⟨b, off, none⟩) n x.flat → Row w w.heap.size R m row → Calls Tryd.prog 48 #[.slice (some ⟨b, off, none⟩) n c, .slice R m d] w fun e w' => e = .returned (.agg #[.int .i64 (x.ev row).k, .int .i64 (x.ev row).n, .string (x.ev row).s]) ∧ Below w.heap.size w w' := by
  intro f
  induction f with
  | zero => intro x b off n c w hd; have := x.depth_pos; omega
  | succ f ih =>
    intro x b off n c w hd hf hw hnc hcm hn hr hv
    obtain ⟨t, ks⟩ := x
    have hr' := hr
    rw [X.flat_node] at hr'
    obtain ⟨b', off', e1, hb, c0, c1, c2, c3, c4⟩ := RowT.head5 hr'
    injection e1 with e1
    injection e1 with e1 e2
    subst e1 e2
    have hn1 : 0 < n := by have := hr'.len; simp at this; omega
    clear hr'
    have hw2 := hw
    simp only [X.wf, Bool.and_eq_true, decide_eq_true_eq] at hw2
    obtain ⟨hok, hkl, hkw⟩ := hw2
    have hop := term_op hok
    have HE := Lib.hid (show (X.node t ks).ev row = termV row t (evs row ks) by rw [X.ev])
    generalize (X.node t ks).ev row = ve at HE
    unfold termV at HE
    have hb1 : b < w.heap.size + 1 := by omega
    by_cases h1 : t.op = 1
    · have t1 : (t.op == 1) = true := by simpa using h1
      rw [if_pos h1] at HE
      clear h1 hop hok hkl hkw hw
      go_enter Tryd.func48, Tryd.ntmps48
      go_wp2_with fail
      refine bodyPost_ret (by simp [results, Tryd.results48, go_sem, *]; rfl) rfl ?_; rw [HE.out]; exact ⟨rfl, by (repeat (first | (with_reducible exact Below.refl _ _) | (with_reducible assumption) | (with_reducible refine Below.drew ?_) | (with_reducible refine below_drewN ?_ _) | ((with_reducible refine Below.setCell ?_ ?_ _); rotate_left; (focus (first | (simp; done) | (simp; omega) | omega))) | ((with_reducible refine Below.alloc ?_ ?_ _); rotate_left; (focus (first | (simp; done) | (simp; omega) | omega))) | ((with_reducible apply below_step1); (focus (with_reducible assumption)))))⟩
    have t1 : (t.op == 1) = false := by simpa using h1
    rw [if_neg h1] at HE
    by_cases h2 : t.op = 2
    · have t2 : (t.op == 2) = true := by simpa using h2
      rw [if_pos h2] at HE
      have hc0 := (term_col hok h2).1
      unfold cellV at HE
      have hl := hv.len
      clear h1 h2 hop hok hkl hkw hw
      unfold maxLen at hm
      by_cases hc : t.c ≥ row.length
      · rw [if_pos hc] at HE
        have h3 : (m : Int) ≤ t.c := by omega
        clear hc hl
        go_enter Tryd.func48, Tryd.ntmps48
        go_wp2_with fail
        refine bodyPost_ret (by simp [results, Tryd.results48, go_sem, *]; rfl) rfl ?_; rw [HE.out]; exact ⟨rfl, by (repeat (first | (with_reducible exact Below.refl _ _) | (with_reducible assumption) | (with_reducible refine Below.drew ?_) | (with_reducible refine below_drewN ?_ _) | ((with_reducible refine Below.setCell ?_ ?_ _); rotate_left; (focus (first | (simp; done) | (simp; omega) | omega))) | ((with_reducible refine Below.alloc ?_ ?_ _); rotate_left; (focus (first | (simp; done) | (simp; omega) | omega))) | ((with_reducible apply below_step1); (focus (with_reducible assumption)))))⟩
      · rw [if_neg hc] at HE
        obtain ⟨i, hi⟩ := Int.eq_ofNat_of_zero_le hc0
        obtain ⟨b2, off2, v, rfl, hb2, hs, g0, g1, g2⟩ := Row.at3 hv (show i < m by omega)
        rw [hi, Int.toNat_natCast, hs] at HE
        have h3 : ¬ (m : Int) ≤ (i : Int) := by omega
        have h4 : (i : Int) < (m : Int) := by omega
        have h5 : (0 : Int) ≤ (i : Int) := by omega
        rw [hi] at c4
        clear hc hl hi hs hc0
        go_enter Tryd.func48, Tryd.ntmps48
        go_wp2_with ((go_at_call 45; refine (rclean v _).mono ?_; rintro e w1 ⟨rfl, hb1⟩; obtain ⟨hc1, hf1⟩ := bcell hb1; have hz1 := (hb1).size; (try simp at hz1); have hl10 : w.heap.size < w1.heap.size := (by omega)))
        refine bodyPost_ret (by simp [results, Tryd.results48, go_sem, *]; rfl) rfl ?_; rw [HE.out]; exact ⟨rfl, by (repeat (first | (with_reducible exact Below.refl _ _) | (with_reducible assumption) | (with_reducible refine Below.drew ?_) | (with_reducible refine below_drewN ?_ _) | ((with_reducible refine Below.setCell ?_ ?_ _); rotate_left; (focus (first | (simp; done) | (simp; omega) | omega))) | ((with_reducible refine Below.alloc ?_ ?_ _); rotate_left; (focus (first | (simp; done) | (simp; omega) | omega))) | ((with_reducible apply below_step1); (focus (with_reducible assumption)))))⟩
    have t2 : (t.op == 2) = false := by simpa using h2
    rw [if_neg h2] at HE
    have hev := evs_ok row ks hkw
    have HAS := Lib.hid (apply_same (op := t.op) (vs := evs row ks) (by omega) (by omega) (by rw [evs_len]; exact hkl) hev)
    rw [← HAS.out] at HE
    have hap := fun A n c w hr1 => rapply t.op A n c (evs row ks) w (by omega) (by rw [evs_len]; exact hkl) hev hr1
    have hk3 : ks.length ≤ 3 := by have := ar_le t.op; omega
    have hdk : deepest ks + 1 ≤ f + 1 := hd
    have hops := fun w hr1 => operands_c b off n c t ks w hn hnc hcm hw (by omega) hr1
    have HKW := Lib.hid hkw
    clear HAS hop hok hkl hev hw h1 h2 hd hkw
    go_enter Tryd.func48, Tryd.ntmps48
    go_wp2_with (go_at_call 69; refine (hops _ (by exact hr.alloc (Nat.le_refl _) _ |>.more (by simp))).mono ?_; rintro e w1 ⟨lv, rfl, ol, hb1⟩; obtain ⟨LA, lc, rfl, _, hlc⟩ := own_slice ol; obtain ⟨hc1, hf1⟩ := bcell hb1; have hz1 := (hb1).size; (try simp at hz1); have hl10 : w.heap.size < w1.heap.size := (by omega))
    have HOL := Lib.hid ol
    clear ol
    have hw1 : Below w.heap.size w w1 := by (repeat (first | (with_reducible exact Below.refl _ _) | (with_reducible assumption) | (with_reducible refine Below.drew ?_) | (with_reducible refine below_drewN ?_ _) | ((with_reducible refine Below.setCell ?_ ?_ _); rotate_left; (focus (first | (simp; done) | (simp; omega) | omega))) | ((with_reducible refine Below.alloc ?_ ?_ _); rotate_left; (focus (first | (simp; done) | (simp; omega) | omega))) | ((with_reducible apply below_step1); (focus (with_reducible assumption)))))
    have hr1 := (hr.below hw1).more hw1.size
    have hv1 := (hv.below hw1).more hw1.size
    go_loopw [5, 7] (fun v5 v7 wr => ∃ i : Nat, i ≤ ks.length ∧ v7 = .int .i64 i ∧ wr.ownsRow w1.heap.size 34 3 v5 i ((evs row (ks.take i)).flatMap V.cells) ∧ Below w1.heap.size w1 wr) (fun _ v7 _ => ks.length - (intOf v7).toNat)
    case atStart => exact ⟨0, Nat.zero_le _, rfl, World.ownsRow_nil _ _ _ _, by (repeat (first | (with_reducible exact Below.refl _ _) | (with_reducible assumption) | (with_reducible refine Below.drew ?_) | (with_reducible refine below_drewN ?_ _) | ((with_reducible refine Below.setCell ?_ ?_ _); rotate_left; (focus (first | (simp; done) | (simp; omega) | omega))) | ((with_reducible refine Below.alloc ?_ ?_ _); rotate_left; (focus (first | (simp; done) | (simp; omega) | omega))) | ((with_reducible apply below_step1); (focus (with_reducible assumption)))))⟩
    case round =>
      obtain ⟨i, hi, rfl, hown, hbel⟩ := hrel
      have hzz := hbel.size
      by_cases hlt : i < ks.length
      · have hki : ks[i]? = some ks[i] := List.getElem?_eq_getElem hlt
        generalize ks[i] = k at hki
        obtain ⟨k1, k2, k3⟩ := kid_in hki
        obtain ⟨g, q, rfl, hg, hg0, _, hkn, hcell, hqn, hpart⟩ := ops_at (w := w) HOL.out hr hki hw1
        have hcell2 : wr.cell? ⟨g, i, none⟩ = some (.slice (some ⟨b, off + q * 5, none⟩) k.flat.length (c - q)) := (hbel.cell (p := ⟨g, i, none⟩) hg).trans hcell
        have hwr : Below w.heap.size w wr := by (repeat (first | (with_reducible exact Below.refl _ _) | (with_reducible assumption) | (with_reducible refine Below.drew ?_) | (with_reducible refine below_drewN ?_ _) | ((with_reducible refine Below.setCell ?_ ?_ _); rotate_left; (focus (first | (simp; done) | (simp; omega) | omega))) | ((with_reducible refine Below.alloc ?_ ?_ _); rotate_left; (focus (first | (simp; done) | (simp; omega) | omega))) | ((with_reducible apply below_step1); (focus (with_reducible assumption)))))
        have ihe := ih k b (off + q * 5) k.flat.length (c - q) wr (by omega) (by omega) (k2 HKW.out) (by omega) (by omega) (by omega) ((hpart.below hwr).more hwr.size) ((hv.below hwr).more hwr.size)
        have HS := Lib.hid (show (evs row (ks.take (i + 1))).flatMap V.cells = (evs row (ks.take i)).flatMap V.cells ++ (k.ev row).cells by rw [List.take_add_one, hki, Option.toList_some, evs_snoc]; simp)
        generalize k.ev row = kv at ihe HS
        have h0 : (0 : Int) ≤ (i : Int) := by omega
        have h1 : (i : Int) < (ks.length : Int) := by omega
        have hiw : IntKind.i64.wrap ((i : Int) + 1) = (i : Int) + 1 := IntWalk.i64_in _ (by omega)
        clear hki k1 k2 k3 ih hcell hpart hr1 hv1 hr hv
        go_wp2_with (first
          | (go_at_call 48; refine ihe.mono ?_; rintro e w2 ⟨rfl, hb2⟩; have hz2 := hb2.size; have own2 := own_below hown hb2)
          | (at_builtin; refine wpList_app (v := u5) rfl _ _ stV rfl rfl (own2) rfl (by simp) rfl (by simp [Value.oneCell']) (by omega) (by omega) ?_; intro v' w3 own3 hg3 hat3))
        have hb3 := below_app (below_step hb2 hbel (Nat.le_refl _)) own2 hg3 (Nat.le_refl _) (by omega)
        go_roundw
        case rel =>
          refine ⟨i + 1, by omega, by go_num, ?_, hb3⟩
          rw [HS.out]
          exact own3
        case measure => simp [intOf]; omega
      · obtain rfl : i = ks.length := by omega
        rw [List.take_length] at hown
        obtain ⟨A5, c5, rfl, _, _⟩ := own_slice hown
        have hrow : Row wr wr.heap.size A5 ks.length (evs row ks) := RowOf.of_own hown (evs_len _ _)
        obtain ⟨hc2, hf2⟩ := bcell hbel
        have hlt2 : ¬ (ks.length : Int) < (ks.length : Int) := by omega
        have hb2 : b < w1.heap.size := by omega
        have hw0 : w.heap.size < w1.heap.size := by omega
        have hw0r : w.heap.size < wr.heap.size := by omega
        have hb2r : b < wr.heap.size := by omega
        clear ih hr1 hv1 hr hv
        go_wp2_with ((go_at_call 70; refine (hap _ _ _ _ (by exact hrow)).mono ?_; rintro e w3 ⟨rfl, hb3⟩; obtain ⟨hc3, hf3⟩ := bcell hb3; have hz3 := (hb3).size; (try simp at hz3); have hl30 : w.heap.size < w3.heap.size := (by omega)))
        refine bodyPost_ret (by simp [results, Tryd.results48, go_sem, *]; rfl) rfl ?_; rw [HE.out]; exact ⟨rfl, by (repeat (first | (with_reducible exact Below.refl _ _) | (with_reducible assumption) | (with_reducible refine Below.drew ?_) | (with_reducible refine below_drewN ?_ _) | ((with_reducible refine Below.setCell ?_ ?_ _); rotate_left; (focus (first | (simp; done) | (simp; omega) | omega))) | ((with_reducible refine Below.alloc ?_ ?_ _); rotate_left; (focus (first | (simp; done) | (simp; omega) | omega))) | ((with_reducible apply below_step1); (focus (with_reducible assumption)))))⟩
set_option maxRecDepth 100000 in
set_option maxHeartbeats 1000000 in
theorem rval_c (A R : Option Addr) (n c m d : Nat) (es : List T) (row : List V) (w : World) (hn : n ≤ c) (hc : c ≤ maxLen) (hm : m ≤ maxLen) (hr : RowT w w.heap.size A n es) (hv : Row w w.heap.size R m row) : Calls Tryd.prog 25 #[.slice A n c, .slice R m d] w fun e w' => e = .returned (.agg #[.int .i64 (evalE es row).k, .int .i64 (evalE es row).n, .string (evalE es row).s]) ∧ Below w.heap.size w w' := by
  have hr1 := (hr.keep (w' := w.alloc (.cells #[.int .i64 0, .int .i64 0, .string ⟨#[]⟩] 34)) fun p hp => World.cell?_alloc_lt w _ p hp).more (show w.heap.size ≤ (w.alloc (.cells #[.int .i64 0, .int .i64 0, .string ⟨#[]⟩] 34)).heap.size by simp)
  have hv1 := (hv.keep (w' := w.alloc (.cells #[.int .i64 0, .int .i64 0, .string ⟨#[]⟩] 34)) fun p hp => World.cell?_alloc_lt w _ p hp).more (show w.heap.size ≤ (w.alloc (.cells #[.int .i64 0, .int .i64 0, .string ⟨#[]⟩] 34)).heap.size by simp)
  have hvd := rvalidE A n c es (w.alloc (.cells #[.int .i64 0, .int .i64 0, .string ⟨#[]⟩] 34)) (by omega) hr1
  cases hval : validE es
  · rw [hval] at hvd
    have HE := Lib.hid (show evalE es row = V.null by unfold evalE; rw [treeE_bad hval])
    clear hval
    go_enter Tryd.func25, Tryd.ntmps25
    go_wp2_with ((go_at_call 19; refine (hvd).mono ?_; rintro e w1 ⟨rfl, hb1⟩; obtain ⟨hc1, hf1⟩ := bcell hb1; have hz1 := (hb1).size; (try simp at hz1); have hl10 : w.heap.size < w1.heap.size := (by omega)))
    refine bodyPost_ret (by simp [results, Tryd.results25, go_sem, *]; rfl) rfl ?_; rw [HE.out]; exact ⟨rfl, by (repeat (first | (with_reducible exact Below.refl _ _) | (with_reducible assumption) | (with_reducible refine Below.drew ?_) | (with_reducible refine below_drewN ?_ _) | ((with_reducible refine Below.setCell ?_ ?_ _); rotate_left; (focus (first | (simp; done) | (simp; omega) | omega))) | ((with_reducible refine Below.alloc ?_ ?_ _); rotate_left; (focus (first | (simp; done) | (simp; omega) | omega))) | ((with_reducible apply below_step1); (focus (with_reducible assumption)))))⟩
  · rw [hval] at hvd
    obtain ⟨x, hx, hfl, hw, hd, hl⟩ := treeE_ok hval
    have hl2 := hr.len
    obtain ⟨b, off, rfl⟩ : ∃ b off, A = some ⟨b, off, none⟩ := by
      obtain ⟨b, off, t, h, _⟩ := RowT.at5 hr (k := 0) (by have := x.flat_pos; rw [← hfl] at this; omega)
      exact ⟨b, off, h⟩
    have HE := Lib.hid (show evalE es row = x.ev row by unfold evalE; rw [hx])
    subst hfl
    have hev := fun w1 hr1 hv1 => reval_c R m d row hm 16 x b off n c w1 hd (by omega) hw hn hc (by omega) hr1 hv1
    clear hval hx hw hd hl hl2
    go_enter Tryd.func25, Tryd.ntmps25
    go_wp2_with (first
      | (go_at_call 19; refine (hvd).mono ?_; rintro e w1 ⟨rfl, hb1⟩; obtain ⟨hc1, hf1⟩ := bcell hb1; have hz1 := (hb1).size; (try simp at hz1); have hl10 : w.heap.size < w1.heap.size := (by omega))
      | (go_at_call 48; refine (hev w1 ((hr1.below hb1).more hb1.size) ((hv1.below hb1).more hb1.size)).mono ?_; rintro e w2 ⟨rfl, hb2⟩; obtain ⟨hc2, hf2⟩ := bcell hb2; have hz2 := (hb2).size; (try simp at hz2); have hl20 : w.heap.size < w2.heap.size := (by omega)))
    refine bodyPost_ret (by simp [results, Tryd.results25, go_sem, *]; rfl) rfl ?_; rw [HE.out]; exact ⟨rfl, by (repeat (first | (with_reducible exact Below.refl _ _) | (with_reducible assumption) | (with_reducible refine Below.drew ?_) | (with_reducible refine below_drewN ?_ _) | ((with_reducible refine Below.setCell ?_ ?_ _); rotate_left; (focus (first | (simp; done) | (simp; omega) | omega))) | ((with_reducible refine Below.alloc ?_ ?_ _); rotate_left; (focus (first | (simp; done) | (simp; omega) | omega))) | ((with_reducible apply below_step1); (focus (with_reducible assumption)))))⟩
set_option maxRecDepth 100000 in
set_option maxHeartbeats 1000000 in
theorem rholds_c (A R : Option Addr) (n c m d : Nat) (es : List T) (row : List V) (w : World) (hn : n ≤ c) (hc : c ≤ maxLen) (hm : m ≤ maxLen) (hr : RowT w w.heap.size A n es) (hv : Row w w.heap.size R m row) : Calls Tryd.prog 30 #[.slice A n c, .slice R m d] w fun e w' => e = .returned (.bool (isTrueV (evalE es row))) ∧ Below w.heap.size w w' := by
  have hT := rtruth (evalE es row)
  have HQ := Lib.hid (show isTrueV (evalE es row) = (truthR (evalE es row) == 1) by rw [Bool.eq_iff_iff, ← truthR_one]; simp)
  generalize truthR (evalE es row) = q at hT HQ
  go_enter Tryd.func30, Tryd.ntmps30
  go_wp2_with (first
    | (go_at_call 25; refine (rval_c A R n c m d es row _ hn hc hm hr hv).mono ?_; rintro e w1 ⟨rfl, hb1⟩; have hz1 := hb1.size; (try simp at hz1))
    | (go_at_call 53; refine (hT _).mono ?_; rintro e w2 ⟨rfl, hb2⟩; have hz2 := hb2.size; (try simp at hz2)))
  go_ret
  exact ⟨ret_bool HQ.out.symm, by (repeat (first | (with_reducible exact Below.refl _ _) | (with_reducible assumption) | (with_reducible refine Below.drew ?_) | (with_reducible refine below_drewN ?_ _) | ((with_reducible refine Below.setCell ?_ ?_ _); rotate_left; (focus (first | (simp; done) | (simp; omega) | omega))) | ((with_reducible refine Below.alloc ?_ ?_ _); rotate_left; (focus (first | (simp; done) | (simp; omega) | omega))) | ((with_reducible apply below_step1); (focus (with_reducible assumption)))))⟩
end Go.Proofs.YtojcabnjodfdmaaDoor
