/- Contracts of decodeValue and of the program's DecodeRow: strings of at most a hundred thousand bytes. -/
import Derived.Test.YtjlhapbahecpoaaDoorDb
import Derived.Test.YtjlhapbahecpoaaDoorIdle
namespace Go.Proofs.YtjlhapbahecpoaaDoor
open Go.RowKit

/-- A valid value at the beginning and the length of its form; null and 0 if there is none. -/
def dcV (l : List UInt8) : V × Nat := match dec1 l with
  | some x => x
  | none => (V.null, 0)
theorem dcV_1 (r : List UInt8) : dcV (1 :: r) = (V.null, 1) := by simp [dcV, dec1, dec0, V.null_ok]
theorem decIx_five (a b c d e : UInt8) (t : List UInt8) (m : UInt8) : decIx (m :: a :: b :: c :: d :: e :: t) = if (V.mk 1 (decN a b c d e - 4294967296) ⟨#[]⟩).ok then (V.mk 1 (decN a b c d e - 4294967296) ⟨#[]⟩, 6) else (V.null, 0) := by
  unfold decIx
  rw [if_neg (by simp only [List.length_cons]; omega)]
  have h : decIv (m :: a :: b :: c :: d :: e :: t) = V.mk 1 (decN a b c d e - 4294967296) ⟨#[]⟩ := by
    have hl : ((m :: a :: b :: c :: d :: e :: t).drop 1).take 5 = [a, b, c, d, e] := rfl
    unfold decIv
    rw [hl, numB_five]
  rw [h]
theorem decIx_short (l : List UInt8) (h : l.length ≤ 5) : decIx l = (V.null, 0) := by unfold decIx; rw [if_pos h]
theorem dcV_of {l : List UInt8} {v : V} {n : Nat} (h : dec0 l = some (v, n)) : dcV l = if v.ok then (v, n) else (V.null, 0) := by
  unfold dcV dec1
  rw [h]
  cases hok : v.ok <;> simp [hok]
theorem dcV_none {l : List UInt8} (h : dec0 l = none) : dcV l = (V.null, 0) := by
  unfold dcV dec1
  rw [h]
theorem dec0_2 (r : List UInt8) : dec0 (2 :: r) = decI r := by
  show (if (2 : UInt8) = 1 then some (V.null, 1) else if (2 : UInt8) = 2 then decI r else if (2 : UInt8) = 3 then (decT r).map fun x => (⟨2, 0, ⟨x.1.toArray⟩⟩, x.2 + 1) else none) = decI r
  rw [if_neg (by decide), if_pos rfl]
theorem dcV_2 (r : List UInt8) : dcV (2 :: r) = decIx (2 :: r) := by
  by_cases hl : r.length ≤ 4
  · rw [decIx_short _ (by simp only [List.length_cons]; omega)]
    exact dcV_none ((dec0_2 r).trans (decI_short r hl))
  · obtain ⟨a, b, c, d, e, t, rfl⟩ := long5 (r := r) (by omega)
    rw [decIx_five]
    exact dcV_of ((dec0_2 _).trans (decI_five a b c d e t))
theorem dcV_3 (r : List UInt8) : dcV (3 :: r) = decTx r := by
  unfold dcV dec1 dec0 decTx
  simp only [show ¬ (3 : UInt8) = 1 by decide, show ¬ (3 : UInt8) = 2 by decide, if_false, if_true]
  cases decT r with
  | none => rfl
  | some x =>
    obtain ⟨t, k⟩ := x
    simp only [Option.map_some]
    by_cases ht : t.length ≤ 32
    · rw [if_pos ht]; simp [V.ok, Lib.size_eq, ht]
    · rw [if_neg ht]
      have : ¬ (V.mk 2 0 ⟨t.toArray⟩).ok = true := by simp [V.ok, Lib.size_eq]; omega
      simp [this]
theorem dcV_n (m : UInt8) (r : List UInt8) (h1 : m ≠ 1) (h2 : m ≠ 2) (h3 : m ≠ 3) : dcV (m :: r) = (V.null, 0) := by simp [dcV, dec1, dec0, h1, h2, h3]
theorem dcV_le (l : List UInt8) : (dcV l).2 ≤ l.length := by
  unfold dcV dec1
  cases h : dec0 l with
  | none => simp
  | some x =>
    obtain ⟨v, n⟩ := x
    have := dec0_le l v n h
    cases hok : v.ok <;> simp [hok]
    exact this.2

def VnPost (w : World) (x : V × Nat) (e : Ending) (w' : World) : Prop := e = .returned (.tuple #[.agg #[.int .i64 ((x.1)).k, .int .i64 ((x.1)).n, .string ((x.1)).s], .int .i64 (x.2 : Int)]) ∧ Below w.heap.size w w'
set_option maxRecDepth 100000 in
set_option maxHeartbeats 1000000 in
theorem decodeValue_c (s : ByteArray) (w : World) (hs : s.size ≤ 100000) (h0 : 0 < s.size) : Calls Tryd.prog 52 #[.string s] w (VnPost w (dcV s.data.toList)) := by
  have hl : 0 < s.data.toList.length := by rw [← Lib.size_eq]; exact h0
  obtain ⟨c, hc⟩ : ∃ c, s.data.toList[0]? = some c := ⟨_, List.getElem?_eq_getElem hl⟩
  have hix := run_idx hc
  simp only [Int.natCast_zero] at hix
  obtain ⟨r, hr⟩ : ∃ r, s.data.toList = c :: r := by
    cases h : s.data.toList with
    | nil => rw [h] at hc; simp at hc
    | cons a r => rw [h] at hc; simp at hc; subst hc; exact ⟨r, rfl⟩
  have HR := Lib.hid hr
  clear hr hc hl
  by_cases q1 : c.toNat = 1
  · have t1 : ((c.toNat : Int) == 1) = true := by simp; omega
    have e1 : c = 1 := UInt8.toNat_inj.1 q1
    have HD := Lib.hid (show dcV s.data.toList = (V.null, 1) by rw [HR.out, e1]; exact dcV_1 r)
    clear q1 e1
    go_enter Tryd.func52, Tryd.ntmps52
    go_wp2_with fail
    refine bodyPost_ret (by simp [results, Tryd.results52, go_sem]; rfl) rfl ?_
    unfold VnPost
    rw [HD.out]
    exact ⟨rfl, by (repeat (first | (with_reducible exact Below.refl _ _) | (with_reducible assumption) | (with_reducible refine Below.drew ?_) | (with_reducible refine below_drewN ?_ _) | ((with_reducible refine Below.setCell ?_ ?_ _); rotate_left; (focus (first | (simp; done) | (simp; omega) | omega))) | ((with_reducible refine Below.alloc ?_ ?_ _); rotate_left; (focus (first | (simp; done) | (simp; omega) | omega))) | ((with_reducible apply below_step1); (focus (with_reducible assumption)))))⟩
  by_cases q2 : c.toNat = 2
  · have t1 : ((c.toNat : Int) == 1) = false := by simp; omega
    have t2 : ((c.toNat : Int) == 2) = true := by simp; omega
    have e1 : c = 2 := UInt8.toNat_inj.1 q2
    have HD := Lib.hid (show dcV s.data.toList = decIx s.data.toList by rw [HR.out, e1]; exact dcV_2 r)
    clear q1 q2 e1
    go_enter Tryd.func52, Tryd.ntmps52
    go_wp2_with (go_at_call 67; refine (decodeInt_c s _ hs).mono ?_; rintro e w1 ⟨rfl, hb1⟩; obtain ⟨hc1, hf1⟩ := bcell hb1; have hz1 := (hb1).size; try simp at hz1)
    refine bodyPost_ret (by simp [results, Tryd.results52, go_sem, hc1]; rfl) rfl ?_
    unfold VnPost
    rw [HD.out]
    exact ⟨rfl, by (repeat (first | (with_reducible exact Below.refl _ _) | (with_reducible assumption) | (with_reducible refine Below.drew ?_) | (with_reducible refine below_drewN ?_ _) | ((with_reducible refine Below.setCell ?_ ?_ _); rotate_left; (focus (first | (simp; done) | (simp; omega) | omega))) | ((with_reducible refine Below.alloc ?_ ?_ _); rotate_left; (focus (first | (simp; done) | (simp; omega) | omega))) | ((with_reducible apply below_step1); (focus (with_reducible assumption)))))⟩
  by_cases q3 : c.toNat = 3
  · have t1 : ((c.toNat : Int) == 1) = false := by simp; omega
    have t2 : ((c.toNat : Int) == 2) = false := by simp; omega
    have t3 : ((c.toNat : Int) == 3) = true := by simp; omega
    have e1 : c = 3 := UInt8.toNat_inj.1 q3
    have HD := Lib.hid (show dcV s.data.toList = decTx (s.data.toList.drop 1) by rw [HR.out, e1]; exact dcV_3 r)
    have hT : ∀ w, Calls Tryd.prog 68 #[.string s] w (VnPost w (dcV s.data.toList)) := fun w => by rw [HD.out]; exact decodeText_c s w hs
    clear q1 q2 q3 e1
    generalize dcV s.data.toList = x at hT ⊢
    go_enter Tryd.func52, Tryd.ntmps52
    go_wp2_with (go_at_call 68; refine (hT _).mono ?_; rintro e w1 ⟨rfl, hb1⟩; obtain ⟨hc1, hf1⟩ := bcell hb1; have hz1 := (hb1).size; try simp at hz1)
    refine bodyPost_ret (by simp [results, Tryd.results52, go_sem, hc1]; rfl) rfl ?_
    unfold VnPost
    exact ⟨rfl, by (repeat (first | (with_reducible exact Below.refl _ _) | (with_reducible assumption) | (with_reducible refine Below.drew ?_) | (with_reducible refine below_drewN ?_ _) | ((with_reducible refine Below.setCell ?_ ?_ _); rotate_left; (focus (first | (simp; done) | (simp; omega) | omega))) | ((with_reducible refine Below.alloc ?_ ?_ _); rotate_left; (focus (first | (simp; done) | (simp; omega) | omega))) | ((with_reducible apply below_step1); (focus (with_reducible assumption)))))⟩
  · have t1 : ((c.toNat : Int) == 1) = false := by simp; omega
    have t2 : ((c.toNat : Int) == 2) = false := by simp; omega
    have t3 : ((c.toNat : Int) == 3) = false := by simp; omega
    have HD := Lib.hid (show dcV s.data.toList = (V.null, 0) by
      rw [HR.out]
      exact dcV_n c r (fun e => q1 (by rw [e]; rfl)) (fun e => q2 (by rw [e]; rfl)) (fun e => q3 (by rw [e]; rfl)))
    clear q1 q2 q3
    go_enter Tryd.func52, Tryd.ntmps52
    go_wp2_with fail
    refine bodyPost_ret (by simp [results, Tryd.results52, go_sem]; rfl) rfl ?_
    unfold VnPost
    rw [HD.out]
    exact ⟨rfl, by (repeat (first | (with_reducible exact Below.refl _ _) | (with_reducible assumption) | (with_reducible refine Below.drew ?_) | (with_reducible refine below_drewN ?_ _) | ((with_reducible refine Below.setCell ?_ ?_ _); rotate_left; (focus (first | (simp; done) | (simp; omega) | omega))) | ((with_reducible refine Below.alloc ?_ ?_ _); rotate_left; (focus (first | (simp; done) | (simp; omega) | omega))) | ((with_reducible apply below_step1); (focus (with_reducible assumption)))))⟩

theorem decR_fuel : ∀ (n : Nat) (s : List UInt8), s.length ≤ n → ∀ (f : Nat) (acc : List V), s.length < f → decR f s acc = decR (s.length + 1) s acc := by
  intro n
  induction n with
  | zero =>
    intro s hs f acc hf
    obtain rfl : s = [] := List.eq_nil_of_length_eq_zero (by omega)
    obtain ⟨f, rfl⟩ : ∃ g, f = g + 1 := ⟨f - 1, by simp at hf; omega⟩
    simp [decR]
  | succ n ih =>
    intro s hs f acc hf
    obtain ⟨f, rfl⟩ : ∃ g, f = g + 1 := ⟨f - 1, by omega⟩
    rw [decR, decR]
    split
    · rfl
    · rename_i hne
      cases h : dec1 s with
      | none => rfl
      | some x =>
        obtain ⟨v, k⟩ := x
        have hk : 1 ≤ k ∧ k ≤ s.length := by
          unfold dec1 at h
          cases h0 : dec0 s with
          | none => rw [h0] at h; cases h
          | some y =>
            obtain ⟨v', k'⟩ := y
            rw [h0] at h
            simp only at h
            split at h
            · simp at h; obtain ⟨rfl, rfl⟩ := h; exact dec0_le s _ _ h0
            · cases h
        simp only
        split
        · rfl
        · have hl : (s.drop k).length = s.length - k := by simp
          rw [ih (s.drop k) (by omega) f _ (by omega), ih (s.drop k) (by omega) s.length _ (by omega)]
/-- What decoding a row gives: the row and the error's number. -/
def decRow (l : List UInt8) (acc : List V) : List V × Int := match decR (l.length + 1) l acc with
  | some vs => (vs, 0)
  | none => ([], 1)
theorem decRow_nil (acc : List V) : decRow [] acc = (acc, 0) := by simp [decRow, decR]
theorem decRow_bad {l : List UInt8} (hl : l ≠ []) (h : (dcV l).2 = 0) (acc : List V) : decRow l acc = ([], 1) := by
  unfold decRow
  rw [decR, if_neg hl]
  cases h1 : dec1 l with
  | none => rfl
  | some x =>
    obtain ⟨v, n⟩ := x
    exfalso
    have h2 : (dcV l).2 = n := by simp [dcV, h1]
    rw [h] at h2
    unfold dec1 at h1
    cases h0 : dec0 l with
    | none => rw [h0] at h1; cases h1
    | some y =>
      obtain ⟨v', k'⟩ := y
      have := dec0_le l v' k' h0
      rw [h0] at h1
      simp only at h1
      split at h1
      · simp at h1; omega
      · cases h1
theorem dec1_of {l : List UInt8} (h : (dcV l).2 ≠ 0) : dec1 l = some (dcV l) := by
  unfold dcV at h ⊢
  cases h1 : dec1 l with
  | none => rw [h1] at h; simp at h
  | some x => rfl
theorem decRow_full {l : List UInt8} (hl : l ≠ []) {acc : List V} (ha : acc.length = 16) : decRow l acc = ([], 1) := by
  unfold decRow
  rw [decR, if_neg hl]
  cases h1 : dec1 l with
  | none => rfl
  | some x => simp [ha]
theorem decRow_step {l : List UInt8} (hl : l ≠ []) (h : (dcV l).2 ≠ 0) {acc : List V} (ha : acc.length ≠ 16) : decRow l acc = decRow (l.drop (dcV l).2) (acc ++ [(dcV l).1]) := by
  unfold decRow
  have hn := dcV_le l
  rw [decR, if_neg hl, dec1_of h]
  simp only
  rw [if_neg ha, decR_fuel (l.drop (dcV l).2).length _ (Nat.le_refl _) l.length _ (by simp; omega)]

/-- The deferred closures that only recover, where nothing panics. -/
theorem idle_DecodeRow (w : World) : CallsD Tryd.prog 51 #[] .returning w fun e u' w' => e = .returned (.tuple #[]) ∧ u' = .returning ∧ w' = w := by
  refine callsD_of_wpS Tryd.func51 rfl fun c₀ cs hu => ?_
  apply wpS_region
  cases c₀
  simp_all [wpOpsS, go_sem, recoverD, Tryd.ntmps51, Exit.thenS, bodyPostS, results, Tryd.results51]
end Go.Proofs.YtjlhapbahecpoaaDoor
