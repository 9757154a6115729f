/- Contracts of decodeInt and decodeValue: strings of at most a hundred thousand bytes. -/
import Derived.Test.YtjlhapbahecpoaaDoorDa
import Derived.Lib.EndianBits
namespace Go.Proofs.YtjlhapbahecpoaaDoor
open Go.RowKit

def numB (l : List UInt8) : Int := l.foldl (fun n b => n * 256 + b.toNat) 0
theorem numB_snoc (l : List UInt8) (c : UInt8) : numB (l ++ [c]) = numB l * 256 + c.toNat := by simp [numB]
theorem numB_five (a b c d e : UInt8) : numB [a, b, c, d, e] = decN a b c d e := by simp [numB, decN]; omega
theorem numB_bound : ∀ n : Nat, ∀ l : List UInt8, l.length = n → 0 ≤ numB l ∧ numB l < 256 ^ n := by
  intro n
  induction n with
  | zero => intro l hl; rw [List.eq_nil_of_length_eq_zero hl]; simp [numB]
  | succ n ih =>
    intro l hl
    have hne : l ≠ [] := by rintro rfl; simp at hl
    have h := ih l.dropLast (by simp; omega)
    have hb := (l.getLast hne).toNat_lt
    have he := List.dropLast_concat_getLast hne
    rw [← he, numB_snoc, Int.pow_succ]
    omega
theorem p256 (n : Nat) (h : n ≤ 4) : (256 : Int) ^ n ≤ 4294967296 := by
  have : n = 0 ∨ n = 1 ∨ n = 2 ∨ n = 3 ∨ n = 4 := by omega
  rcases this with rfl | rfl | rfl | rfl | rfl <;> decide
theorem p2565 (n : Nat) (h : n ≤ 5) : (256 : Int) ^ n ≤ 1099511627776 := by
  have : n = 0 ∨ n = 1 ∨ n = 2 ∨ n = 3 ∨ n = 4 ∨ n = 5 := by omega
  rcases this with rfl | rfl | rfl | rfl | rfl | rfl <;> decide
theorem numB_take {l : List UInt8} {k : Nat} (hk : k ≤ 4) : 0 ≤ numB (l.take k) ∧ numB (l.take k) < 4294967296 := by
  obtain ⟨h1, h2⟩ := numB_bound _ (l.take k) rfl
  refine ⟨h1, Int.lt_of_lt_of_le h2 ?_⟩
  exact p256 _ (by simp; omega)
theorem numB_take5 {l : List UInt8} : 0 ≤ numB (l.take 5) ∧ numB (l.take 5) < 1099511627776 := by
  obtain ⟨h1, h2⟩ := numB_bound _ (l.take 5) rfl
  refine ⟨h1, Int.lt_of_lt_of_le h2 ?_⟩
  exact p2565 _ (by simp; omega)
theorem or8 (n : Int) (c : UInt8) (h0 : 0 ≤ n) (h1 : n < 4294967296) : bits .or .i64 (n * 256) (c.toNat : Int) = n * 256 + c.toNat := by
  have hc := c.toNat_lt
  exact bits_join .i64 40 (by decide) (fun m h0 h1 => IntWalk.i64_in _ (by omega)) 8 _ _ (by omega) (by omega) (by omega) (by omega) (by omega) (by omega)

/-- An integer behind the mark: five bytes. -/
def decIv (l : List UInt8) : V := ⟨1, numB ((l.drop 1).take 5) - 4294967296, ⟨#[]⟩⟩
def decIx (l : List UInt8) : V × Nat := if l.length ≤ 5 then (V.null, 0) else if (decIv l).ok then (decIv l, 6) else (V.null, 0)
def IxPost (w : World) (l : List UInt8) (e : Ending) (w' : World) : Prop := e = .returned (.tuple #[.agg #[.int .i64 (((decIx l).1)).k, .int .i64 (((decIx l).1)).n, .string (((decIx l).1)).s], .int .i64 ((decIx l).2 : Int)]) ∧ Below w.heap.size w w'
set_option maxRecDepth 100000 in
set_option maxHeartbeats 1000000 in
theorem decodeInt_c (s : ByteArray) (w : World) (hs : s.size ≤ 100000) : Calls Tryd.prog 67 #[.string s] w (IxPost w s.data.toList) := by
  by_cases h5 : s.size ≤ 5
  · have h6 : (s.size : Int) ≤ 5 := by omega
    go_enter Tryd.func67, Tryd.ntmps67
    go_wp2_with fail
    refine bodyPost_ret (by simp [results, Tryd.results67, go_sem]; rfl) rfl ?_
    unfold IxPost decIx
    rw [if_pos (by rw [← Lib.size_eq]; exact h5)]
    exact ⟨rfl, by (repeat (first | (with_reducible exact Below.refl _ _) | (with_reducible assumption) | (with_reducible refine Below.drew ?_) | (with_reducible refine below_drewN ?_ _) | ((with_reducible refine Below.setCell ?_ ?_ _); rotate_left; (focus (first | (simp; done) | (simp; omega) | omega))) | ((with_reducible refine Below.alloc ?_ ?_ _); rotate_left; (focus (first | (simp; done) | (simp; omega) | omega))) | ((with_reducible apply below_step1); (focus (with_reducible assumption)))))⟩
  · have h6 : 5 < (s.size : Int) := by omega
    have h7 : 6 ≤ (s.size : Int) := by omega
    have hcv := run_toBytes
    obtain ⟨bs, hbs⟩ : ∃ bs, s.extract 1 6 = bs := ⟨_, rfl⟩
    have hbl : bs.data.toList = (s.data.toList.drop 1).take 5 := by rw [← hbs, Lib.extract_data]
    have hsz : bs.size = 5 := by rw [Lib.size_eq, hbl]; simp; omega
    have HBL := Lib.hid hbl
    clear hbl
    go_enter Tryd.func67, Tryd.ntmps67
    go_wp2_with fail
    clear hcv
    have hrd := rd_bytes (w.alloc (.cells #[.int .i64 0, .int .i64 0, .string ⟨#[]⟩] 23)) 5 bs
    have hbel : Below w.heap.size w (Lib.bytesWorld (w.alloc (.cells #[.int .i64 0, .int .i64 0, .string ⟨#[]⟩] 23)) 5 bs) := below_bytes (by (repeat (first | (with_reducible exact Below.refl _ _) | (with_reducible assumption) | (with_reducible refine Below.drew ?_) | (with_reducible refine below_drewN ?_ _) | ((with_reducible refine Below.setCell ?_ ?_ _); rotate_left; (focus (first | (simp; done) | (simp; omega) | omega))) | ((with_reducible refine Below.alloc ?_ ?_ _); rotate_left; (focus (first | (simp; done) | (simp; omega) | omega))) | ((with_reducible apply below_step1); (focus (with_reducible assumption)))))) (by simp) _ _
    have hblk : (Lib.bytesWorld (w.alloc (.cells #[.int .i64 0, .int .i64 0, .string ⟨#[]⟩] 23)) 5 bs).heap[w.heap.size]? = some (.cells #[.int .i64 0, .int .i64 0, .string ⟨#[]⟩] 23) := (Lib.bytesWorld_at_old _ _ _ _ (by simp)).trans (heap_alloc_new _ _)
    have hwz : w.heap.size < (Lib.bytesWorld (w.alloc (.cells #[.int .i64 0, .int .i64 0, .string ⟨#[]⟩] 23)) 5 bs).heap.size := by rw [Lib.bytesWorld_size]; simp; omega
    generalize Lib.bytesWorld (w.alloc (.cells #[.int .i64 0, .int .i64 0, .string ⟨#[]⟩] 23)) 5 bs = W at hrd hbel hblk hwz ⊢
    obtain ⟨c0, f0⟩ := blk_rules hblk
    have c00 := c0 0
    have c01 := c0 1
    have c02 := c0 2
    have f00 := f0 0
    have f01 := f0 1
    have f02 := f0 2
    clear c0 f0 hblk
    go_loop [4, 16] (fun n i => ∃ k : Nat, k ≤ 5 ∧ i = .int .i64 k ∧ n = .int .i64 (numB (bs.data.toList.take k))) (fun _ i => 5 - (intOf i).toNat)
    case atStart => exact ⟨0, by omega, rfl, by simp [numB]⟩
    case round =>
      obtain ⟨k, hk, rfl, rfl⟩ := hrel
      by_cases hlt : k < 5
      · have hl : k < bs.data.toList.length := by rw [← Lib.size_eq, hsz]; exact hlt
        obtain ⟨c, hc⟩ : ∃ c, bs.data.toList[k]? = some c := ⟨_, List.getElem?_eq_getElem hl⟩
        have hx := hrd.byte hc
        simp at hx
        have HC := Lib.hid (show numB (bs.data.toList.take (k + 1)) = numB (bs.data.toList.take k) * 256 + c.toNat by rw [List.take_add_one, hc]; exact numB_snoc _ _)
        obtain ⟨n0, n1⟩ := numB_take (l := bs.data.toList) (k := k) (by omega)
        obtain ⟨N, hN⟩ : ∃ N, numB (bs.data.toList.take k) = N := ⟨_, rfl⟩
        rw [hN] at n0 n1
        have hor := or8 N c n0 n1
        have HN := Lib.hid hN
        have hw : IntKind.i64.wrap (N * 256) = N * 256 := IntWalk.i64_in _ (by omega)
        have hw2 : wrap64 (c.toNat : Int) = c.toNat := IntWalk.wrap64_in _ (by have := c.toNat_lt; omega)
        rw [hN]
        clear hN hc hl
        go_wp2_with fail
        exact ⟨⟨k + 1, by omega, by go_num, by rw [HC.out, HN.out]⟩, by simp [intOf]; omega⟩
      · obtain rfl : k = 5 := by omega
        obtain ⟨n0, n1⟩ := numB_take5 (l := bs.data.toList)
        obtain ⟨N, hN⟩ : ∃ N, numB (bs.data.toList.take 5) = N := ⟨_, rfl⟩
        rw [hN] at n0 n1
        have hv : decIv s.data.toList = ⟨1, N - 4294967296, ⟨#[]⟩⟩ := by
          unfold decIv
          rw [← hN, HBL.out, List.take_take]
          rfl
        have HV := Lib.hid hv
        have hw : IntKind.i64.wrap (N - 4294967296) = N - 4294967296 := IntWalk.i64_in _ (by omega)
        rw [hN]
        clear hN hv
        have HL := Lib.hid (show ¬ s.data.toList.length ≤ 5 by rw [← Lib.size_eq]; exact h5)
        cases hok : (V.mk 1 (N - 4294967296) ⟨#[]⟩).ok
        · have HK := Lib.hid hok
          clear hok
          go_wp2_with (go_at_call 18; refine (vvalid ⟨1, N - 4294967296, ⟨#[]⟩⟩ _).mono ?_; rintro e w1 ⟨rfl, hb1⟩; rw [HK.out]; obtain ⟨hc1, hf1⟩ := bcell hb1; have hz1 := (hb1).size; try simp at hz1)
          have hwz1 : w.heap.size < W.heap.size + 1 := by omega
          refine bodyPost_ret (by simp [results, Tryd.results67, go_sem, hc1, hwz, hwz1, c00, c01, c02]; rfl) rfl ?_
          unfold IxPost decIx
          rw [if_neg HL.out, HV.out, HK.out]
          exact ⟨rfl, by (repeat (first | (with_reducible exact Below.refl _ _) | (with_reducible assumption) | (with_reducible refine Below.drew ?_) | (with_reducible refine below_drewN ?_ _) | ((with_reducible refine Below.setCell ?_ ?_ _); rotate_left; (focus (first | (simp; done) | (simp; omega) | omega))) | ((with_reducible refine Below.alloc ?_ ?_ _); rotate_left; (focus (first | (simp; done) | (simp; omega) | omega))) | ((with_reducible apply below_step1); (focus (with_reducible assumption)))))⟩
        · have HK := Lib.hid hok
          clear hok
          go_wp2_with (go_at_call 18; refine (vvalid ⟨1, N - 4294967296, ⟨#[]⟩⟩ _).mono ?_; rintro e w1 ⟨rfl, hb1⟩; rw [HK.out]; obtain ⟨hc1, hf1⟩ := bcell hb1; have hz1 := (hb1).size; try simp at hz1)
          have hwz1 : w.heap.size < W.heap.size + 1 := by omega
          refine bodyPost_ret (by simp [results, Tryd.results67, go_sem, hc1, hwz, hwz1, c00, c01, c02]; rfl) rfl ?_
          unfold IxPost decIx
          rw [if_neg HL.out, HV.out, HK.out]
          exact ⟨rfl, by (repeat (first | (with_reducible exact Below.refl _ _) | (with_reducible assumption) | (with_reducible refine Below.drew ?_) | (with_reducible refine below_drewN ?_ _) | ((with_reducible refine Below.setCell ?_ ?_ _); rotate_left; (focus (first | (simp; done) | (simp; omega) | omega))) | ((with_reducible refine Below.alloc ?_ ?_ _); rotate_left; (focus (first | (simp; done) | (simp; omega) | omega))) | ((with_reducible apply below_step1); (focus (with_reducible assumption)))))⟩
end Go.Proofs.YtjlhapbahecpoaaDoor
