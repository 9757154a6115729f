/- Contracts of decodeText, decodeInt and decodeValue: strings of at most a hundred thousand bytes. -/
import Derived.Test.YtjlhapbahecpoaaDoorDSpec
import Derived.Test.YtjlhapbahecpoaaDoorTb
namespace Go.Proofs.YtjlhapbahecpoaaDoor
open Go.RowKit

def decTx (r : List UInt8) : V × Nat := match decT r with
  | some (t, k) => if t.length ≤ 32 then (⟨2, 0, ⟨t.toArray⟩⟩, k + 1) else (V.null, 0)
  | none => (V.null, 0)
theorem decT_short (l : List UInt8) (i : Nat) (h : l.length ≤ i + 1) : decT (l.drop i) = none := by
  have : (l.drop i).length ≤ 1 := by simp; omega
  match l.drop i, this with
  | [], _ => rfl
  | [_], _ => rfl
theorem drop_two {l : List UInt8} {i : Nat} {c d : UInt8} (hc : l[i]? = some c) (hd : l[i + 1]? = some d) : l.drop i = c :: d :: l.drop (i + 2) := by
  obtain ⟨h1, e1⟩ := List.getElem?_eq_some_iff.1 hc
  obtain ⟨h2, e2⟩ := List.getElem?_eq_some_iff.1 hd
  rw [List.drop_eq_getElem_cons h1, List.drop_eq_getElem_cons h2, e1, e2]
def DecR (l : List UInt8) (i : Nat) (tx : List UInt8) : Prop := decT (l.drop 1) = (decT (l.drop i)).map fun x => (tx ++ x.1, x.2 + (i - 1))
theorem DecR.start (l : List UInt8) : DecR l 1 [] := by
  unfold DecR
  cases decT (l.drop 1) <;> simp
theorem DecR.step1 {l : List UInt8} {i : Nat} {tx : List UInt8} {c d : UInt8} (h : DecR l i tx) (h1 : 1 ≤ i) (hc : l[i]? = some c) (hd : l[i + 1]? = some d) (h0 : c ≠ 0) : DecR l (i + 1) (tx ++ [c]) := by
  unfold DecR at h ⊢
  have e : l.drop (i + 1) = d :: l.drop (i + 2) := by
    obtain ⟨h2, e2⟩ := List.getElem?_eq_some_iff.1 hd
    rw [List.drop_eq_getElem_cons h2, e2]
  rw [h, drop_two hc hd, decT, if_neg h0, e]
  cases decT (d :: l.drop (i + 2)) with
  | none => rfl
  | some x => simp; omega
theorem DecR.step2 {l : List UInt8} {i : Nat} {tx : List UInt8} (h : DecR l i tx) (h1 : 1 ≤ i) (hc : l[i]? = some 0) (hd : l[i + 1]? = some 255) : DecR l (i + 2) (tx ++ [0]) := by
  unfold DecR at h ⊢
  rw [h, drop_two hc hd, decT, if_pos rfl, if_neg (by decide), if_pos rfl]
  cases decT (l.drop (i + 2)) with
  | none => rfl
  | some x => simp; omega
theorem DecR.done {l : List UInt8} {i : Nat} {tx : List UInt8} (h : DecR l i tx) (h1 : 1 ≤ i) (hc : l[i]? = some 0) (hd : l[i + 1]? = some 0) : decT (l.drop 1) = some (tx, i + 1) := by
  unfold DecR at h
  rw [h, drop_two hc hd, decT, if_pos rfl, if_pos rfl]
  simp; omega
theorem DecR.bad {l : List UInt8} {i : Nat} {tx : List UInt8} {d : UInt8} (h : DecR l i tx) (hc : l[i]? = some 0) (hd : l[i + 1]? = some d) (h0 : d ≠ 0) (h2 : d ≠ 255) : decT (l.drop 1) = none := by
  unfold DecR at h
  rw [h, drop_two hc hd, decT, if_pos rfl, if_neg h0, if_neg h2]
  rfl
theorem DecR.short {l : List UInt8} {i : Nat} {tx : List UInt8} (h : DecR l i tx) (hl : l.length ≤ i + 1) : decT (l.drop 1) = none := by
  unfold DecR at h
  rw [h, decT_short l i hl]
  rfl
theorem DecR.long {l : List UInt8} {i : Nat} {tx : List UInt8} (h : DecR l i tx) (hl : 32 < tx.length) : decTx (l.drop 1) = (V.null, 0) := by
  unfold DecR at h
  unfold decTx
  rw [h]
  cases decT (l.drop i) with
  | none => rfl
  | some x =>
    simp only [Option.map_some]
    rw [if_neg]
    simp
    omega
theorem decTx_none {l : List UInt8} (h : decT l = none) : decTx l = (V.null, 0) := by simp [decTx, h]
theorem decTx_some {l t : List UInt8} {k : Nat} (h : decT l = some (t, k)) (ht : t.length ≤ 32) : decTx l = (⟨2, 0, ⟨t.toArray⟩⟩, k + 1) := by simp [decTx, h, ht]
theorem byte_ne {c : UInt8} {n : Nat} (h : (c.toNat : Int) ≠ n) (hn : n < 256) : c ≠ UInt8.ofNat n := by
  intro e; subst e; rw [UInt8.toNat_ofNat', Nat.mod_eq_of_lt (by omega)] at h; exact h rfl

def TxPost (w : World) (l : List UInt8) (e : Ending) (w' : World) : Prop := e = .returned (.tuple #[.agg #[.int .i64 (((decTx (l.drop 1)).1)).k, .int .i64 (((decTx (l.drop 1)).1)).n, .string (((decTx (l.drop 1)).1)).s], .int .i64 ((decTx (l.drop 1)).2 : Int)]) ∧ Below w.heap.size w w'
def TxRel (w : World) (s : ByteArray) (v4 v5 : Value) (wr : World) : Prop := ∃ (i : Nat) (tx : List UInt8), v5 = .int .i64 i ∧ 1 ≤ i ∧ i ≤ 200000 ∧ tx.length ≤ 33 ∧ OwnB wr (w.heap.size + 1) v4 tx ∧ Below w.heap.size w wr ∧ wr.heap[w.heap.size]? = some (.cells #[.int .i64 0, .int .i64 0, .string ⟨#[]⟩] 23) ∧ DecR s.data.toList i tx
theorem TxRel.next {w wr w2 : World} {s : ByteArray} {u4 v' v5 : Value} {tx : List UInt8} {b : UInt8} (i : Nat) (h5 : v5 = .int .i64 i) (own : OwnB wr (w.heap.size + 1) u4 tx) (hbel : Below w.heap.size w wr) (hblk : wr.heap[w.heap.size]? = some (.cells #[.int .i64 0, .int .i64 0, .string ⟨#[]⟩] 23))
    (hown' : w2.ownsRow (w.heap.size + 1) 5 1 v' (tx.length + 1) (bcells tx ++ [.int .u8 b.toNat])) (hg' : wr.grownBy w2 u4.ownBlock) (hz : w.heap.size < wr.heap.size) (hd : DecR s.data.toList i (tx ++ [b])) (h1 : 1 ≤ i) (h2 : i ≤ 200000) (h3 : tx.length ≤ 32) : TxRel w s v' v5 w2 := by
  have hlt : ∀ k, u4.ownBlock = some k → w.heap.size + 1 ≤ k := fun k hk => (World.ownsRow.lt own k hk).1
  refine ⟨i, tx ++ [b], h5, h1, h2, by simp; omega, own_more hown' rfl rfl, hbel.grown hg' (by omega) (fun k hk => by have := hlt k hk; omega), ?_, hd⟩
  exact (hg'.block w.heap.size hz (fun e => by have := hlt _ e.symm; omega)).trans hblk
set_option maxRecDepth 100000 in
set_option maxHeartbeats 1000000 in
theorem decodeText_c (s : ByteArray) (w : World) (hs : s.size ≤ 100000) : Calls Tryd.prog 68 #[.string s] w (TxPost w s.data.toList) := by
  go_enter Tryd.func68, Tryd.ntmps68
  go_wp2_with fail
  go_loopw [4, 5] (fun v i wr => TxRel w s v i wr) (fun _ i _ => 200000 - (intOf i).toNat)
  case atStart => exact ⟨1, [], rfl, by omega, by omega, by simp, OwnB.nil_ _ _, by (repeat (first | (with_reducible exact Below.refl _ _) | (with_reducible assumption) | (with_reducible refine Below.drew ?_) | (with_reducible refine below_drewN ?_ _) | ((with_reducible refine Below.setCell ?_ ?_ _); rotate_left; (focus (first | (simp; done) | (simp; omega) | omega))) | ((with_reducible refine Below.alloc ?_ ?_ _); rotate_left; (focus (first | (simp; done) | (simp; omega) | omega))) | ((with_reducible apply below_step1); (focus (with_reducible assumption))))), heap_alloc_new _ _, DecR.start _⟩
  case round =>
    obtain ⟨i, tx, rfl, hi1, hi2, htx, hown, hbel, hblk, hdec⟩ := hrel
    have hown0 := hown
    obtain ⟨A4, c4, rfl, _, _⟩ := own_slice hown0
    obtain ⟨c0, f0⟩ := blk_rules hblk
    have c00 := c0 0
    have c01 := c0 1
    have c02 := c0 2
    have f00 := f0 0
    have f01 := f0 1
    have f02 := f0 2
    have hz : w.heap.size < wr.heap.size := by
      rcases Nat.lt_or_ge w.heap.size wr.heap.size with h | h
      · exact h
      · rw [Array.getElem?_eq_none h] at hblk; cases hblk
    have HB := Lib.hid hblk
    clear hblk c0 f0 hown0
    have HD := Lib.hid hdec
    clear hdec
    have HO := Lib.hid hown
    clear hown
    by_cases hE : i + 1 < s.size
    · have hE1 : (i : Int) + 1 < (s.size : Int) := by omega
      by_cases hL : tx.length ≤ 32
      · have hL1 : (tx.length : Int) ≤ 32 := by omega
        have hl1 : i < s.data.toList.length := by rw [← Lib.size_eq]; omega
        have hl2 : i + 1 < s.data.toList.length := by rw [← Lib.size_eq]; omega
        obtain ⟨c, hc⟩ : ∃ c, s.data.toList[i]? = some c := ⟨_, List.getElem?_eq_getElem hl1⟩
        obtain ⟨d, hd⟩ : ∃ d, s.data.toList[i + 1]? = some d := ⟨_, List.getElem?_eq_getElem hl2⟩
        have hix := run_idx hc
        have hiy := run_idx hd
        simp only [Int.natCast_add, Int.natCast_one] at hiy
        have HC := Lib.hid hc
        have HDd := Lib.hid hd
        clear hc hd hl1 hl2
        by_cases q0 : c.toNat = 0
        · have t0 : ((c.toNat : Int) != 0) = false := by simp; omega
          have hc0 : c = 0 := UInt8.toNat_inj.1 q0
          have HC0 := Lib.hid (hc0 ▸ HC.out)
          clear q0 hc0
          by_cases q1 : d.toNat = 255
          · have t1 : ((d.toNat : Int) == 255) = true := by simp; omega
            have hd0 : d = 255 := UInt8.toNat_inj.1 q1
            have HD0 := Lib.hid (hd0 ▸ HDd.out)
            clear q1 hd0
            go_wp2_with (at_builtin; refine wpList_app (v := (.slice A4 tx.length c4)) rfl _ _ stB rfl rfl (HO.out) rfl (by simp) rfl (by simp [Value.oneCell']) (by omega) (by omega) ?_; intro v' w2 hown' hg' hat')
            exact ⟨TxRel.next (b := 0) (i + 2) (by go_num) HO.out hbel HB.out hown' hg' hz (HD.out.step2 hi1 HC0.out HD0.out) (by omega) (by omega) hL, by simp [intOf]; omega⟩
          · have t1 : ((d.toNat : Int) == 255) = false := by simp; omega
            have hd1 : d ≠ 255 := fun e => q1 (by rw [e]; rfl)
            have HD1 := Lib.hid hd1
            clear q1 hd1
            by_cases q2 : d.toNat = 0
            · have t2 : ((d.toNat : Int) == 0) = true := by simp; omega
              have hd0 : d = 0 := UInt8.toNat_inj.1 q2
              have HR := Lib.hid (decTx_some (HD.out.done hi1 HC0.out (hd0 ▸ HDd.out)) hL)
              have hts := run_toStr (l := tx) HO.out
              clear q2 hd0
              go_wp2_with fail
              refine bodyPost_ret (by simp [results, Tryd.results68, go_sem, c00, c01, c02]; rfl) rfl ?_
              unfold TxPost
              rw [HR.out]
              exact ⟨rfl, by (repeat (first | (with_reducible exact Below.refl _ _) | (with_reducible assumption) | (with_reducible refine Below.drew ?_) | (with_reducible refine below_drewN ?_ _) | ((with_reducible refine Below.setCell ?_ ?_ _); rotate_left; (focus (first | (simp; done) | (simp; omega) | omega))) | ((with_reducible refine Below.alloc ?_ ?_ _); rotate_left; (focus (first | (simp; done) | (simp; omega) | omega))) | ((with_reducible apply below_step1); (focus (with_reducible assumption)))))⟩
            · have t2 : ((d.toNat : Int) == 0) = false := by simp; omega
              have hd0 : d ≠ 0 := fun e => q2 (by rw [e]; rfl)
              have HR := Lib.hid (decTx_none (HD.out.bad HC0.out HDd.out hd0 HD1.out))
              clear q2 hd0
              go_wp2_with fail
              refine bodyPost_ret (by simp [results, Tryd.results68, go_sem, c00, c01, c02]; rfl) rfl ?_
              unfold TxPost
              rw [HR.out]
              exact ⟨rfl, by (repeat (first | (with_reducible exact Below.refl _ _) | (with_reducible assumption) | (with_reducible refine Below.drew ?_) | (with_reducible refine below_drewN ?_ _) | ((with_reducible refine Below.setCell ?_ ?_ _); rotate_left; (focus (first | (simp; done) | (simp; omega) | omega))) | ((with_reducible refine Below.alloc ?_ ?_ _); rotate_left; (focus (first | (simp; done) | (simp; omega) | omega))) | ((with_reducible apply below_step1); (focus (with_reducible assumption)))))⟩
        · have t0 : ((c.toNat : Int) != 0) = true := by simp; omega
          have hc0 : c ≠ 0 := fun e => q0 (by rw [e]; rfl)
          have HC0 := Lib.hid hc0
          clear q0 hc0
          go_wp2_with (at_builtin; refine wpList_app (v := (.slice A4 tx.length c4)) rfl _ _ stB rfl rfl (HO.out) rfl (by simp) rfl (by simp [Value.oneCell']) (by omega) (by omega) ?_; intro v' w2 hown' hg' hat')
          exact ⟨TxRel.next (b := c) (i + 1) (by go_num) HO.out hbel HB.out hown' hg' hz (HD.out.step1 hi1 HC.out HDd.out HC0.out) (by omega) (by omega) hL, by simp [intOf]; omega⟩
      · have hL1 : 32 < (tx.length : Int) := by omega
        have HR := Lib.hid (HD.out.long (by omega))
        go_wp2_with fail
        refine bodyPost_ret (by simp [results, Tryd.results68, go_sem, c00, c01, c02]; rfl) rfl ?_
        unfold TxPost
        rw [HR.out]
        exact ⟨rfl, by (repeat (first | (with_reducible exact Below.refl _ _) | (with_reducible assumption) | (with_reducible refine Below.drew ?_) | (with_reducible refine below_drewN ?_ _) | ((with_reducible refine Below.setCell ?_ ?_ _); rotate_left; (focus (first | (simp; done) | (simp; omega) | omega))) | ((with_reducible refine Below.alloc ?_ ?_ _); rotate_left; (focus (first | (simp; done) | (simp; omega) | omega))) | ((with_reducible apply below_step1); (focus (with_reducible assumption)))))⟩
    · have hE1 : (s.size : Int) ≤ (i : Int) + 1 := by omega
      have HR := Lib.hid (decTx_none (HD.out.short (by rw [← Lib.size_eq]; omega)))
      go_wp2_with fail
      refine bodyPost_ret (by simp [results, Tryd.results68, go_sem, c00, c01, c02]; rfl) rfl ?_
      unfold TxPost
      rw [HR.out]
      exact ⟨rfl, by (repeat (first | (with_reducible exact Below.refl _ _) | (with_reducible assumption) | (with_reducible refine Below.drew ?_) | (with_reducible refine below_drewN ?_ _) | ((with_reducible refine Below.setCell ?_ ?_ _); rotate_left; (focus (first | (simp; done) | (simp; omega) | omega))) | ((with_reducible refine Below.alloc ?_ ?_ _); rotate_left; (focus (first | (simp; done) | (simp; omega) | omega))) | ((with_reducible apply below_step1); (focus (with_reducible assumption)))))⟩
end Go.Proofs.YtjlhapbahecpoaaDoor
