/- Contract of the reference's decode: strings of at most a hundred thousand bytes. -/
import Derived.Test.YtjlhapbahecpoaaDoorDd
namespace Go.Proofs.YtjlhapbahecpoaaDoor
open Go.RowKit

/-- A value at the beginning, valid or not, and the length of its form; null and 0 if there is none. -/
def d0V (l : List UInt8) : V × Nat := match dec0 l with
  | some x => x
  | none => (V.null, 0)
theorem dcV_d0 (l : List UInt8) : dcV l = if (d0V l).1.ok then d0V l else (V.null, 0) := by
  unfold d0V
  cases h : dec0 l with
  | none => rw [dcV_none h]; simp
  | some x => obtain ⟨v, n⟩ := x; rw [dcV_of h]
theorem d0V_le (l : List UInt8) : (d0V l).2 ≤ l.length := by
  unfold d0V
  cases h : dec0 l with
  | none => simp
  | some x => obtain ⟨v, n⟩ := x; exact (dec0_le l v n h).2
theorem d0V_1 (r : List UInt8) : d0V (1 :: r) = (V.null, 1) := by simp [d0V, dec0]
def d0I (l : List UInt8) : V := ⟨1, numB ((l.drop 1).take 5) - 4294967296, ⟨#[]⟩⟩
theorem d0V_2 (r : List UInt8) (h : 4 < r.length) : d0V (2 :: r) = (d0I (2 :: r), 6) := by
  obtain ⟨a, b, c, d, e, t, rfl⟩ := long5 h
  have hl : ((2 :: a :: b :: c :: d :: e :: t).drop 1).take 5 = [a, b, c, d, e] := rfl
  unfold d0V d0I
  rw [dec0_2, decI_five, hl, numB_five]
theorem d0V_2s (r : List UInt8) (h : r.length ≤ 4) : d0V (2 :: r) = (V.null, 0) := by
  unfold d0V
  rw [dec0_2, decI_short r h]
/-- A text behind the mark, however long. -/
def d0T (r : List UInt8) : V × Nat := match decT r with
  | some (t, k) => (⟨2, 0, ⟨t.toArray⟩⟩, k + 1)
  | none => (V.null, 0)
theorem d0V_3 (r : List UInt8) : d0V (3 :: r) = d0T r := by
  unfold d0V dec0 d0T
  simp only [show ¬ (3 : UInt8) = 1 by decide, show ¬ (3 : UInt8) = 2 by decide, if_false, if_true]
  cases decT r with
  | none => rfl
  | some x => rfl
theorem d0V_n (m : UInt8) (r : List UInt8) (h1 : m ≠ 1) (h2 : m ≠ 2) (h3 : m ≠ 3) : d0V (m :: r) = (V.null, 0) := by simp [d0V, dec0, h1, h2, h3]
theorem d0T_some {r t : List UInt8} {k : Nat} (h : decT r = some (t, k)) : d0T r = (⟨2, 0, ⟨t.toArray⟩⟩, k + 1) := by simp [d0T, h]
theorem d0T_none {r : List UInt8} (h : decT r = none) : d0T r = (V.null, 0) := by simp [d0T, h]
theorem DecR.last {l : List UInt8} {i : Nat} {tx : List UInt8} {c : UInt8} (h : DecR l i tx) (hl : l.length ≤ i + 1) : DecR l (i + 1) (tx ++ [c]) := by
  unfold DecR at h ⊢
  rw [h, decT_short l i hl, decT_short l (i + 1) (by omega)]
  rfl
theorem DecR.any {l : List UInt8} {i : Nat} {tx : List UInt8} {c : UInt8} (h : DecR l i tx) (h1 : 1 ≤ i) (hc : l[i]? = some c) (h0 : c ≠ 0) : DecR l (i + 1) (tx ++ [c]) := by
  rcases Nat.lt_or_ge (i + 1) l.length with hl | hl
  · exact h.step1 h1 hc (List.getElem?_eq_getElem hl) h0
  · exact h.last hl

def RxRel (w : World) (s : ByteArray) (v6 v7 : Value) (wr : World) : Prop := ∃ (i : Nat) (tx : List UInt8), v7 = .int .i64 i ∧ 1 ≤ i ∧ i ≤ s.size + 1 ∧ tx.length ≤ i ∧ OwnB wr (w.heap.size + 1) v6 tx ∧ Below w.heap.size w wr ∧ wr.heap[w.heap.size]? = some (.cells #[.int .i64 0, .int .i64 0, .string ⟨#[]⟩] 23) ∧ DecR s.data.toList i tx
theorem RxRel.next {w wr w2 : World} {s : ByteArray} {u4 v' v5 : Value} {tx : List UInt8} {b : UInt8} (i : Nat) (h5 : v5 = .int .i64 i) (own : OwnB wr (w.heap.size + 1) u4 tx) (hbel : Below w.heap.size w wr) (hblk : wr.heap[w.heap.size]? = some (.cells #[.int .i64 0, .int .i64 0, .string ⟨#[]⟩] 23))
    (hown' : w2.ownsRow (w.heap.size + 1) 5 1 v' (tx.length + 1) (bcells tx ++ [.int .u8 b.toNat])) (hg' : wr.grownBy w2 u4.ownBlock) (hz : w.heap.size < wr.heap.size) (hd : DecR s.data.toList i (tx ++ [b])) (h1 : 1 ≤ i) (h2 : i ≤ s.size + 1) (h3 : tx.length + 1 ≤ i) : RxRel w s v' v5 w2 := by
  have hlt : ∀ k, u4.ownBlock = some k → w.heap.size + 1 ≤ k := fun k hk => (World.ownsRow.lt own k hk).1
  refine ⟨i, tx ++ [b], h5, h1, h2, by simp; omega, own_more hown' rfl rfl, hbel.grown hg' (by omega) (fun k hk => by have := hlt k hk; omega), ?_, hd⟩
  exact (hg'.block w.heap.size hz (fun e => by have := hlt _ e.symm; omega)).trans hblk
set_option maxRecDepth 100000 in
set_option maxHeartbeats 2000000 in
theorem rdecode_c (s : ByteArray) (w : World) (hs : s.size ≤ 100000) (h0 : 0 < s.size) : Calls Tryd.prog 53 #[.string s] w (VnPost w (d0V s.data.toList)) := by
  have hl : 0 < s.data.toList.length := by rw [← Lib.size_eq]; exact h0
  obtain ⟨c, hc⟩ : ∃ c, s.data.toList[0]? = some c := ⟨_, List.getElem?_eq_getElem hl⟩
  have hix := run_idx hc
  simp only [Int.natCast_zero] at hix
  obtain ⟨r, hr⟩ : ∃ r, s.data.toList = c :: r := by
    cases h : s.data.toList with
    | nil => rw [h] at hc; simp at hc
    | cons a r => rw [h] at hc; simp at hc; subst hc; exact ⟨r, rfl⟩
  have hrl : s.size = r.length + 1 := by rw [Lib.size_eq, hr]; rfl
  have HR := Lib.hid hr
  have HRL := Lib.hid hrl
  clear hr hc hl hrl
  by_cases q1 : c.toNat = 1
  · have t1 : ((c.toNat : Int) == 1) = true := by simp; omega
    have e1 : c = 1 := UInt8.toNat_inj.1 q1
    have HD := Lib.hid (show d0V s.data.toList = (V.null, 1) by rw [HR.out, e1]; exact d0V_1 r)
    clear q1 e1
    go_enter Tryd.func53, Tryd.ntmps53
    go_wp2_with fail
    refine bodyPost_ret (by simp [results, Tryd.results53, go_sem]; rfl) rfl ?_
    unfold VnPost
    rw [HD.out]
    exact ⟨rfl, by (repeat (first | (with_reducible exact Below.refl _ _) | (with_reducible assumption) | (with_reducible refine Below.drew ?_) | (with_reducible refine below_drewN ?_ _) | ((with_reducible refine Below.setCell ?_ ?_ _); rotate_left; (focus (first | (simp; done) | (simp; omega) | omega))) | ((with_reducible refine Below.alloc ?_ ?_ _); rotate_left; (focus (first | (simp; done) | (simp; omega) | omega))) | ((with_reducible apply below_step1); (focus (with_reducible assumption)))))⟩
  have t1 : ((c.toNat : Int) == 1) = false := by simp; omega
  by_cases q2 : c.toNat = 2
  · have t2 : ((c.toNat : Int) == 2) = true := by simp; omega
    have e1 : c = 2 := UInt8.toNat_inj.1 q2
    by_cases h6 : 6 ≤ s.size
    · have h7 : (6 : Int) ≤ (s.size : Int) := by omega
      have HD := Lib.hid (show d0V s.data.toList = (d0I s.data.toList, 6) by rw [HR.out, e1]; exact d0V_2 r (by have := HRL.out; omega))
      clear q1 q2 e1
      go_enter Tryd.func53, Tryd.ntmps53
      go_wp2_with fail
      go_loop [4, 5] (fun n i => ∃ k : Nat, k ≤ 5 ∧ i = .int .i64 ((k + 1 : Nat) : Int) ∧ n = .int .i64 (numB ((s.data.toList.drop 1).take k))) (fun _ i => 6 - (intOf i).toNat)
      case atStart => exact ⟨0, by omega, rfl, by simp [numB]⟩
      case round =>
        obtain ⟨k, hk, rfl, rfl⟩ := hrel
        by_cases hlt : k < 5
        · have hl : k + 1 < s.data.toList.length := by rw [← Lib.size_eq]; omega
          obtain ⟨d, hd⟩ : ∃ c, s.data.toList[k + 1]? = some c := ⟨_, List.getElem?_eq_getElem hl⟩
          have hiy := run_idx hd
          simp only [Int.natCast_add, Int.natCast_one] at hiy
          have hd' : (s.data.toList.drop 1)[k]? = some d := by rw [List.getElem?_drop, Nat.add_comm]; exact hd
          have HC := Lib.hid (show numB ((s.data.toList.drop 1).take (k + 1)) = numB ((s.data.toList.drop 1).take k) * 256 + d.toNat by rw [List.take_add_one, hd']; exact numB_snoc _ _)
          obtain ⟨n0, n1⟩ := numB_take (l := s.data.toList.drop 1) (k := k) (by omega)
          obtain ⟨N, hN⟩ : ∃ N, numB ((s.data.toList.drop 1).take k) = N := ⟨_, rfl⟩
          rw [hN] at n0 n1
          have HN := Lib.hid hN
          have hdd := d.toNat_lt
          have hw : IntKind.i64.wrap (N * 256) = N * 256 := IntWalk.i64_in _ (by omega)
          have hw2 : IntKind.i64.wrap (N * 256 + d.toNat) = N * 256 + d.toNat := IntWalk.i64_in _ (by omega)
          have hk6 : (k : Int) + 1 < 6 := by omega
          have hw3 : wrap64 (d.toNat : Int) = d.toNat := IntWalk.wrap64_in _ (by omega)
          have hw4 : wrap64 (N * 256 + d.toNat) = N * 256 + d.toNat := IntWalk.wrap64_in _ (by omega)
          rw [hN]
          clear hN hd hd' hl
          go_wp2_with fail
          exact ⟨⟨k + 1, by omega, by go_num, by rw [HC.out, HN.out]⟩, by simp [intOf]; omega⟩
        · obtain rfl : k = 5 := by omega
          obtain ⟨n0, n1⟩ := numB_take5 (l := s.data.toList.drop 1)
          obtain ⟨N, hN⟩ : ∃ N, numB ((s.data.toList.drop 1).take 5) = N := ⟨_, rfl⟩
          rw [hN] at n0 n1
          have hv : d0I s.data.toList = ⟨1, N - 4294967296, ⟨#[]⟩⟩ := by
            unfold d0I
            rw [← hN]
          have HV := Lib.hid hv
          have hw : IntKind.i64.wrap (N - 4294967296) = N - 4294967296 := IntWalk.i64_in _ (by omega)
          rw [hN]
          clear hN hv
          go_wp2_with fail
          refine bodyPost_ret (by simp [results, Tryd.results53, go_sem]; rfl) rfl ?_
          unfold VnPost
          rw [HD.out, HV.out]
          exact ⟨rfl, by (repeat (first | (with_reducible exact Below.refl _ _) | (with_reducible assumption) | (with_reducible refine Below.drew ?_) | (with_reducible refine below_drewN ?_ _) | ((with_reducible refine Below.setCell ?_ ?_ _); rotate_left; (focus (first | (simp; done) | (simp; omega) | omega))) | ((with_reducible refine Below.alloc ?_ ?_ _); rotate_left; (focus (first | (simp; done) | (simp; omega) | omega))) | ((with_reducible apply below_step1); (focus (with_reducible assumption)))))⟩
    · have h7 : ¬ (6 : Int) ≤ (s.size : Int) := by omega
      have t3 : ((c.toNat : Int) == 3) = false := by simp; omega
      have HD := Lib.hid (show d0V s.data.toList = (V.null, 0) by rw [HR.out, e1]; exact d0V_2s r (by have := HRL.out; omega))
      clear q1 q2 e1
      go_enter Tryd.func53, Tryd.ntmps53
      go_wp2_with fail
      refine bodyPost_ret (by simp [results, Tryd.results53, go_sem]; rfl) rfl ?_
      unfold VnPost
      rw [HD.out]
      exact ⟨rfl, by (repeat (first | (with_reducible exact Below.refl _ _) | (with_reducible assumption) | (with_reducible refine Below.drew ?_) | (with_reducible refine below_drewN ?_ _) | ((with_reducible refine Below.setCell ?_ ?_ _); rotate_left; (focus (first | (simp; done) | (simp; omega) | omega))) | ((with_reducible refine Below.alloc ?_ ?_ _); rotate_left; (focus (first | (simp; done) | (simp; omega) | omega))) | ((with_reducible apply below_step1); (focus (with_reducible assumption)))))⟩
  have t2 : ((c.toNat : Int) == 2) = false := by simp; omega
  by_cases q3 : c.toNat = 3
  · have t3 : ((c.toNat : Int) == 3) = true := by simp; omega
    have e1 : c = 3 := UInt8.toNat_inj.1 q3
    have HD := Lib.hid (show d0V s.data.toList = d0T (s.data.toList.drop 1) by rw [HR.out, e1]; exact d0V_3 r)
    clear q1 q2 q3 e1
    go_enter Tryd.func53, Tryd.ntmps53
    go_wp2_with fail
    go_loopw [6, 7] (fun v i wr => RxRel w s v i wr) (fun _ i _ => s.size + 2 - (intOf i).toNat)
    case atStart => exact ⟨1, [], rfl, by omega, by omega, by simp, OwnB.nil_ _ _, by (repeat (first | (with_reducible exact Below.refl _ _) | (with_reducible assumption) | (with_reducible refine Below.drew ?_) | (with_reducible refine below_drewN ?_ _) | ((with_reducible refine Below.setCell ?_ ?_ _); rotate_left; (focus (first | (simp; done) | (simp; omega) | omega))) | ((with_reducible refine Below.alloc ?_ ?_ _); rotate_left; (focus (first | (simp; done) | (simp; omega) | omega))) | ((with_reducible apply below_step1); (focus (with_reducible assumption))))), heap_alloc_new _ _, DecR.start _⟩
    case round =>
      obtain ⟨i, tx, rfl, hi1, hi2, htx, hown, hbel, hblk, hdec⟩ := hrel
      obtain ⟨c0, f0⟩ := blk_rules hblk
      have c00 := c0 0
      have c01 := c0 1
      have c02 := c0 2
      have f00 := f0 0
      have f01 := f0 1
      have f02 := f0 2
      have hz : w.heap.size < wr.heap.size := by
        rcases Nat.lt_or_ge w.heap.size wr.heap.size with h | h
        · exact h
        · rw [Array.getElem?_eq_none h] at hblk; cases hblk
      have HB := Lib.hid hblk
      clear hblk c0 f0
      have HT := Lib.hid hdec
      clear hdec
      have HO := Lib.hid hown
      clear hown
      by_cases hE : i < s.size
      · have hE1 : (i : Int) < (s.size : Int) := by omega
        have hl1 : i < s.data.toList.length := by rw [← Lib.size_eq]; omega
        obtain ⟨d, hd⟩ : ∃ c, s.data.toList[i]? = some c := ⟨_, List.getElem?_eq_getElem hl1⟩
        have hiy := run_idx hd
        have HC := Lib.hid hd
        clear hd hl1
        by_cases q0 : d.toNat = 0
        · have u0 : ((d.toNat : Int) != 0) = false := by simp; omega
          have hc0 : d = 0 := UInt8.toNat_inj.1 q0
          have HC0 := Lib.hid (hc0 ▸ HC.out)
          clear q0 hc0
          by_cases hE2 : i + 1 < s.size
          · have hE3 : ¬ (s.size : Int) ≤ (i : Int) + 1 := by omega
            have hl2 : i + 1 < s.data.toList.length := by rw [← Lib.size_eq]; omega
            obtain ⟨e, he⟩ : ∃ c, s.data.toList[i + 1]? = some c := ⟨_, List.getElem?_eq_getElem hl2⟩
            have hiz := run_idx he
            simp only [Int.natCast_add, Int.natCast_one] at hiz
            have HE := Lib.hid he
            clear he hl2
            by_cases p0 : e.toNat = 0
            · have v0 : ((e.toNat : Int) != 0) = false := by simp; omega
              have v1 : ((e.toNat : Int) == 0) = true := by simp; omega
              have he0 : e = 0 := UInt8.toNat_inj.1 p0
              have HF := Lib.hid (d0T_some (HT.out.done hi1 HC0.out (he0 ▸ HE.out)))
              have hts := run_toStr (l := tx) HO.out
              clear p0 he0
              go_wp2_with fail
              refine bodyPost_ret (by simp [results, Tryd.results53, go_sem, c00, c01, c02]; rfl) rfl ?_
              unfold VnPost
              rw [HD.out, HF.out]
              exact ⟨rfl, by (repeat (first | (with_reducible exact Below.refl _ _) | (with_reducible assumption) | (with_reducible refine Below.drew ?_) | (with_reducible refine below_drewN ?_ _) | ((with_reducible refine Below.setCell ?_ ?_ _); rotate_left; (focus (first | (simp; done) | (simp; omega) | omega))) | ((with_reducible refine Below.alloc ?_ ?_ _); rotate_left; (focus (first | (simp; done) | (simp; omega) | omega))) | ((with_reducible apply below_step1); (focus (with_reducible assumption)))))⟩
            · have v0 : ((e.toNat : Int) != 0) = true := by simp; omega
              have v1 : ((e.toNat : Int) == 0) = false := by simp; omega
              by_cases p1 : e.toNat = 255
              · have v2 : ((e.toNat : Int) != 255) = false := by simp; omega
                have he0 : e = 255 := UInt8.toNat_inj.1 p1
                have HE0 := Lib.hid (he0 ▸ HE.out)
                clear p0 p1 he0
                go_wp2_with (at_builtin; refine wpList_app (v := u6) rfl _ _ stB rfl rfl (HO.out) rfl (by simp) rfl (by simp [Value.oneCell']) (by omega) (by omega) ?_; intro v' w2 hown' hg' hat')
                exact ⟨RxRel.next (b := 0) (i + 2) (by go_num) HO.out hbel HB.out hown' hg' hz (HT.out.step2 hi1 HC0.out HE0.out) (by omega) (by omega) (by omega), by simp [intOf]; omega⟩
              · have v2 : ((e.toNat : Int) != 255) = true := by simp; omega
                have HF := Lib.hid (d0T_none (HT.out.bad HC0.out HE.out (fun e0 => p0 (by rw [e0]; rfl)) (fun e0 => p1 (by rw [e0]; rfl))))
                clear p0 p1
                go_wp2_with fail
                refine bodyPost_ret (by simp [results, Tryd.results53, go_sem, c00, c01, c02]; rfl) rfl ?_
                unfold VnPost
                rw [HD.out, HF.out]
                exact ⟨rfl, by (repeat (first | (with_reducible exact Below.refl _ _) | (with_reducible assumption) | (with_reducible refine Below.drew ?_) | (with_reducible refine below_drewN ?_ _) | ((with_reducible refine Below.setCell ?_ ?_ _); rotate_left; (focus (first | (simp; done) | (simp; omega) | omega))) | ((with_reducible refine Below.alloc ?_ ?_ _); rotate_left; (focus (first | (simp; done) | (simp; omega) | omega))) | ((with_reducible apply below_step1); (focus (with_reducible assumption)))))⟩
          · have hE3 : (s.size : Int) ≤ (i : Int) + 1 := by omega
            have HF := Lib.hid (d0T_none (HT.out.short (by rw [← Lib.size_eq]; omega)))
            go_wp2_with fail
            refine bodyPost_ret (by simp [results, Tryd.results53, go_sem, c00, c01, c02]; rfl) rfl ?_
            unfold VnPost
            rw [HD.out, HF.out]
            exact ⟨rfl, by (repeat (first | (with_reducible exact Below.refl _ _) | (with_reducible assumption) | (with_reducible refine Below.drew ?_) | (with_reducible refine below_drewN ?_ _) | ((with_reducible refine Below.setCell ?_ ?_ _); rotate_left; (focus (first | (simp; done) | (simp; omega) | omega))) | ((with_reducible refine Below.alloc ?_ ?_ _); rotate_left; (focus (first | (simp; done) | (simp; omega) | omega))) | ((with_reducible apply below_step1); (focus (with_reducible assumption)))))⟩
        · have u0 : ((d.toNat : Int) != 0) = true := by simp; omega
          have hc0 : d ≠ 0 := fun e => q0 (by rw [e]; rfl)
          have HC0 := Lib.hid hc0
          clear q0 hc0
          go_wp2_with (at_builtin; refine wpList_app (v := u6) rfl _ _ stB rfl rfl (HO.out) rfl (by simp) rfl (by simp [Value.oneCell']) (by omega) (by omega) ?_; intro v' w2 hown' hg' hat')
          exact ⟨RxRel.next (b := d) (i + 1) (by go_num) HO.out hbel HB.out hown' hg' hz (HT.out.any hi1 HC.out HC0.out) (by omega) (by omega) (by omega), by simp [intOf]; omega⟩
      · have hE1 : ¬ (i : Int) < (s.size : Int) := by omega
        have HF := Lib.hid (d0T_none (HT.out.short (by rw [← Lib.size_eq]; omega)))
        go_wp2_with fail
        refine bodyPost_ret (by simp [results, Tryd.results53, go_sem, c00, c01, c02]; rfl) rfl ?_
        unfold VnPost
        rw [HD.out, HF.out]
        exact ⟨rfl, by (repeat (first | (with_reducible exact Below.refl _ _) | (with_reducible assumption) | (with_reducible refine Below.drew ?_) | (with_reducible refine below_drewN ?_ _) | ((with_reducible refine Below.setCell ?_ ?_ _); rotate_left; (focus (first | (simp; done) | (simp; omega) | omega))) | ((with_reducible refine Below.alloc ?_ ?_ _); rotate_left; (focus (first | (simp; done) | (simp; omega) | omega))) | ((with_reducible apply below_step1); (focus (with_reducible assumption)))))⟩
  · have t3 : ((c.toNat : Int) == 3) = false := by simp; omega
    have HD := Lib.hid (show d0V s.data.toList = (V.null, 0) by
      rw [HR.out]
      exact d0V_n c r (fun e => q1 (by rw [e]; rfl)) (fun e => q2 (by rw [e]; rfl)) (fun e => q3 (by rw [e]; rfl)))
    clear q1 q2 q3
    go_enter Tryd.func53, Tryd.ntmps53
    go_wp2_with fail
    refine bodyPost_ret (by simp [results, Tryd.results53, go_sem]; rfl) rfl ?_
    unfold VnPost
    rw [HD.out]
    exact ⟨rfl, by (repeat (first | (with_reducible exact Below.refl _ _) | (with_reducible assumption) | (with_reducible refine Below.drew ?_) | (with_reducible refine below_drewN ?_ _) | ((with_reducible refine Below.setCell ?_ ?_ _); rotate_left; (focus (first | (simp; done) | (simp; omega) | omega))) | ((with_reducible refine Below.alloc ?_ ?_ _); rotate_left; (focus (first | (simp; done) | (simp; omega) | omega))) | ((with_reducible apply below_step1); (focus (with_reducible assumption)))))⟩
end Go.Proofs.YtjlhapbahecpoaaDoor
