/- Contract of appendValue: numbers of values within the limits, texts of at most a million bytes, a row of at most 100 million bytes. -/
import Derived.Test.YtjlhapbahecpoaaDoorVg
namespace Go.Proofs.YtjlhapbahecpoaaDoor
open Go.RowKit

def by8 (x : Int) : UInt8 := UInt8.ofNat (x % 256).toNat
theorem by8_nat (x : Int) : ((by8 x).toNat : Int) = x % 256 := by
  unfold by8
  rw [UInt8.toNat_ofNat', Nat.mod_eq_of_lt (by omega)]
  omega
def encT (c : UInt8) : List UInt8 := if c = 0 then [0, 255] else [c]
def encI (m : Int) : List UInt8 := [2, by8 (m / 4294967296), by8 (m / 16777216), by8 (m / 65536), by8 (m / 256), by8 m]
/-- The byte form of a cleaned value. -/
def encV (v : V) : List UInt8 := if v.k = 1 then encI (v.n + 4294967296) else if v.k = 2 then 3 :: v.s.data.toList.flatMap encT ++ [0, 0] else [1]
theorem encT_len (c : UInt8) : (encT c).length ≤ 2 := by unfold encT; split <;> simp
theorem encT_flat : ∀ l : List UInt8, (l.flatMap encT).length ≤ 2 * l.length := by
  intro l
  induction l with
  | nil => simp
  | cons c l ih => have := encT_len c; simp only [List.flatMap_cons, List.length_append, List.length_cons]; omega
theorem encI_cells (m : Int) (h0 : 0 ≤ m) (h1 : m ≤ 8589934592) : bcells (encI m) = [.int .u8 2, .int .u8 (m / 4294967296), .int .u8 (m / 16777216 % 256), .int .u8 (m / 65536 % 256), .int .u8 (m / 256 % 256), .int .u8 (m % 256)] := by
  have : m / 4294967296 % 256 = m / 4294967296 := by omega
  simp [bcells, encI, by8_nat, this]
/-- Two appends one behind the other: what is no row of the call's own stays. -/
theorem grown_two {w w1 w2 : World} {r r1 : Option Nat} {m : Nat} (h : w.grownBy w1 r) (hr : r1 = r ∨ r1 = some m) (hm : w.heap.size ≤ m) (h1 : w1.grownBy w2 r1) : w.grownBy w2 r :=
  ⟨h1.os.trans h.os, h1.tape.trans h.tape, h1.output.trans h.output, Nat.le_trans h.size h1.size, fun k hk hne => (h1.block k (Nat.lt_of_lt_of_le hk h.size) (by
    rcases hr with e | e
    · rw [e]; exact hne
    · rw [e]; intro h0; injection h0 with h0; omega)).trans (h.block k hk hne)⟩
theorem grown_at {w w1 w2 : World} {r r1 : Option Nat} (h : w.grownBy w1 r) (hr : r1 = r ∨ ∃ g, r1 = some g ∧ w.heap.size ≤ g) (h1 : w1.grownBy w2 r1) : w.grownBy w2 r := by
  rcases hr with e | ⟨g, e, hg⟩
  · exact grown_two h (.inl e) (Nat.le_refl _) h1
  · exact grown_two h (.inr e) hg h1
theorem grown_alloc {w w1 : World} {r : Option Nat} {o : Obj} (h : (w.alloc o).grownBy w1 r) : w.grownBy w1 r :=
  ⟨h.os, h.tape, h.output, Nat.le_trans (by simp) h.size, fun k hk hne => (h.block k (by simp; omega) hne).trans (Below.heap_alloc w o k hk)⟩

set_option maxRecDepth 100000 in
set_option maxHeartbeats 1000000 in
theorem appendValue_c (o : Value) (base : Nat) (l : List UInt8) (v : V) (w : World) (hown : OwnB w base o l) (hbase : base ≤ w.heap.size) (hn : l.length ≤ 100000000) (hs : v.s.size ≤ 1000000) (h1 : -4294967296 ≤ v.n) (h2 : v.n ≤ 4294967296) :
    Calls Tryd.prog 50 #[o, .agg #[.int .i64 v.k, .int .i64 v.n, .string v.s]] w fun e w' => ∃ o', e = .returned o' ∧ OwnB w' base o' (l ++ encV v) ∧ w.grownBy w' o.ownBlock ∧ (o'.ownBlock = o.ownBlock ∨ ∃ g, o'.ownBlock = some g ∧ w.heap.size ≤ g) := by
  by_cases k1 : v.k = 1
  · have K1 := Lib.hid k1
    have t1 : (v.k == 1) = true := by simpa using k1
    clear k1
    go_enter Tryd.func50, Tryd.ntmps50
    go_wp2_with (at_builtin; refine wpList_app (v := o) rfl _ _ stB rfl rfl (hown.alloc _) rfl (by simp) rfl (by simp [Value.oneCell']) (by omega) (by simp; omega) ?_; intro v' w2 hown' hg' hat')
    go_ret
    refine ⟨_, rfl, own_more hown' (by rw [encV, if_pos K1.out, encI_cells _ (by omega) (by omega)]) (by rw [encV, if_pos K1.out]; rfl), grown_alloc hg', ?_⟩
    rcases hat' with e | e
    · exact .inl e
    · exact .inr ⟨_, e, by simp; omega⟩
  · have K1 := Lib.hid k1
    have t1 : (v.k == 1) = false := by simpa using k1
    clear k1
    by_cases k2 : v.k = 2
    · have K2 := Lib.hid k2
      have t2 : (v.k == 2) = true := by simpa using k2
      clear k2
      have hne : o.ownBlock ≠ some w.heap.size := by
        intro h
        have := (hown.lt _ h).2
        omega
      have hcv := run_toBytes
      go_enter Tryd.func50, Tryd.ntmps50
      go_wp2_with (at_builtin; refine wpList_app (v := o) rfl _ _ stB rfl rfl (hown.alloc _) rfl (by simp) rfl (by simp [Value.oneCell']) (by omega) (by simp; omega) ?_; intro v' w2 hown' hg' hat'; have hcell : w2.cell? ⟨w.heap.size, 2, none⟩ = some (.string v.s) := (World.cell?_of_block (hg'.block w.heap.size (by simp) (Ne.symm hne))).trans (by simp [go_sem]))
      clear hcv
      have own2 : OwnB w2 base v' (l ++ [3]) := own_more hown' rfl rfl
      have hne2 : v'.ownBlock ≠ some w2.heap.size := fun h => by have := (World.ownsRow.lt own2 _ h).2; omega
      have hz2 := hg'.size
      have hg2 := grown_alloc hg'
      clear hown' hg' hcell
      have hat2 : v'.ownBlock = o.ownBlock ∨ v'.ownBlock = some (w.heap.size + 1 + 1) := by simpa using hat'
      clear hat'
      go_loopw [0, 41] (fun u i wr => ∃ k : Nat, k ≤ v.s.size ∧ i = .int .i64 k ∧ OwnB wr base u (l ++ 3 :: (v.s.data.toList.take k).flatMap encT) ∧ w.grownBy wr o.ownBlock ∧ Rd wr (w2.heap.size + 1) (some ⟨w2.heap.size, 0, none⟩) (bcells v.s.data.toList) ∧ u.ownBlock ≠ some w2.heap.size ∧ w2.heap.size + 1 ≤ wr.heap.size ∧ (u.ownBlock = o.ownBlock ∨ ∃ g, u.ownBlock = some g ∧ w.heap.size ≤ g)) (fun _ i _ => v.s.size - (intOf i).toNat)
      case atStart =>
        refine ⟨0, Nat.zero_le _, rfl, own_bytes own2 _ _, grown_two hg2 (.inl rfl) (Nat.le_refl _) (grown_bytes _ _ _ _), rd_bytes _ _ _, hne2, by rw [Lib.bytesWorld_size]; omega, ?_⟩
        rcases hat2 with e | e
        · exact .inl e
        · exact .inr ⟨_, e, by omega⟩
      case round =>
        obtain ⟨k, hk, rfl, hown3, hg3, hrd, hne3, hz3, hat3⟩ := hrel
        have hlen := encT_flat (v.s.data.toList.take k)
        have hlt2 : (v.s.data.toList.take k).length ≤ k := List.length_take_le _ _
        generalize hN : l ++ 3 :: (v.s.data.toList.take k).flatMap encT = N at hown3
        have HN := Lib.hid hN
        have hL : N.length ≤ 200000000 := by rw [← hN]; simp only [List.length_append, List.length_cons]; omega
        clear hlen hlt2 hN
        have hzw := hg3.size
        by_cases hlt : k < v.s.size
        · have hl : k < v.s.data.toList.length := by rw [← Lib.size_eq]; exact hlt
          obtain ⟨c, hc⟩ : ∃ c, v.s.data.toList[k]? = some c := ⟨_, List.getElem?_eq_getElem hl⟩
          have hx := hrd.byte hc
          simp only [Nat.zero_add] at hx
          have HC := Lib.hid hc
          clear hc hl
          by_cases hc0 : c = 0
          · have t3 : ((c.toNat : Int) == 0) = true := by rw [hc0]; rfl
            have H0 := Lib.hid hc0
            clear hc0
            go_wp2_with (first
              | (at_builtin; refine wpList_app (v := u0) rfl _ _ stB rfl rfl (hown3) rfl (by simp) rfl (by simp [Value.oneCell']) (by omega) (by omega) ?_; intro v4 w4 hown4 hg4 hat4; have own4 := own_more (m := [c]) hown4 rfl rfl; have hz4 := hg4.size; have hL4 : (N ++ [c]).length ≤ 200000001 := (by simp only [List.length_append, List.length_cons, List.length_nil]; omega); clear hown4)
              | (at_builtin; refine wpList_app (v := v4) rfl _ _ stB rfl rfl (own4) rfl (by simp) rfl (by simp [Value.oneCell']) (by omega) (by omega) ?_; intro v5 w5 hown5 hg5 hat5; have own5 := own_more (m := [255]) hown5 rfl rfl; have hz5 := hg5.size; clear hown5))
            have hne4 : v4.ownBlock ≠ some w2.heap.size := by
              rcases hat4 with e | e <;> rw [e]
              · exact hne3
              · intro h; injection h with h; omega
            have hne5 : v5.ownBlock ≠ some w2.heap.size := by
              rcases hat5 with e | e <;> rw [e]
              · exact hne4
              · intro h; injection h with h; omega
            have hat4' : v4.ownBlock = o.ownBlock ∨ ∃ g, v4.ownBlock = some g ∧ w.heap.size ≤ g := by
              rcases hat4 with e | e
              · rw [e]; exact hat3
              · exact .inr ⟨_, e, by omega⟩
            have hat5' : v5.ownBlock = o.ownBlock ∨ ∃ g, v5.ownBlock = some g ∧ w.heap.size ≤ g := by
              rcases hat5 with e | e
              · rw [e]; exact hat4'
              · exact .inr ⟨_, e, by omega⟩
            have hrd5 := (hrd.grownAt hg4 (by omega) (Ne.symm hne3)).grownAt hg5 (by omega) (Ne.symm hne4)
            have hgg := grown_at (grown_at hg3 hat3 hg4) hat4' hg5
            go_roundw
            case measure => simp [intOf]; omega
            case rel =>
              refine ⟨k + 1, by omega, by go_num, ?_, hgg, hrd5, hne5, by omega, hat5'⟩
              have he : l ++ 3 :: (v.s.data.toList.take (k + 1)).flatMap encT = (N ++ [c]) ++ [255] := by
                rw [← HN.out, List.take_add_one, HC.out, H0.out]; simp [encT]
              rw [he]
              exact own5
          · have t3 : ((c.toNat : Int) == 0) = false := by
              rw [beq_eq_false_iff_ne]
              intro h
              apply hc0
              apply UInt8.toNat_inj.1
              simpa using h
            have H0 := Lib.hid hc0
            clear hc0
            go_wp2_with (at_builtin; refine wpList_app (v := u0) rfl _ _ stB rfl rfl (hown3) rfl (by simp) rfl (by simp [Value.oneCell']) (by omega) (by omega) ?_; intro v4 w4 hown4 hg4 hat4; have own4 := own_more (m := [c]) hown4 rfl rfl; have hz4 := hg4.size; clear hown4)
            have hne4 : v4.ownBlock ≠ some w2.heap.size := by
              rcases hat4 with e | e <;> rw [e]
              · exact hne3
              · intro h; injection h with h; omega
            have hat4' : v4.ownBlock = o.ownBlock ∨ ∃ g, v4.ownBlock = some g ∧ w.heap.size ≤ g := by
              rcases hat4 with e | e
              · rw [e]; exact hat3
              · exact .inr ⟨_, e, by omega⟩
            have hrd4 := hrd.grownAt hg4 (by omega) (Ne.symm hne3)
            have hgg := grown_at hg3 hat3 hg4
            go_roundw
            case measure => simp [intOf]; omega
            case rel =>
              refine ⟨k + 1, by omega, by go_num, ?_, hgg, hrd4, hne4, by omega, hat4'⟩
              have he : l ++ 3 :: (v.s.data.toList.take (k + 1)).flatMap encT = N ++ [c] := by
                rw [← HN.out, List.take_add_one, HC.out]; simp [encT, H0.out]
              rw [he]
              exact own4
        · have hfin : v.s.data.toList.take k = v.s.data.toList := List.take_of_length_le (by rw [← Lib.size_eq]; omega)
          have HF := Lib.hid hfin
          clear hfin
          go_wp2_with (at_builtin; refine wpList_app (v := u0) rfl _ _ stB rfl rfl (hown3) rfl (by simp) rfl (by simp [Value.oneCell']) (by omega) (by omega) ?_; intro v4 w4 hown4 hg4 hat4; have own4 := own_more (m := [0, 0]) hown4 rfl rfl; have hz4 := hg4.size; clear hown4)
          go_ret
          refine ⟨_, rfl, ?_, grown_at hg3 hat3 hg4, ?_⟩
          · have he : l ++ encV v = N ++ [0, 0] := by
              rw [← HN.out, HF.out, encV, if_neg K1.out, if_pos K2.out]; simp
            rw [he]
            exact own4
          · rcases hat4 with e | e
            · show v4.ownBlock = o.ownBlock ∨ ∃ g, v4.ownBlock = some g ∧ w.heap.size ≤ g
              rw [e]; exact hat3
            · exact .inr ⟨_, e, by omega⟩
    · have K2 := Lib.hid k2
      have t2 : (v.k == 2) = false := by simpa using k2
      clear k2
      go_enter Tryd.func50, Tryd.ntmps50
      go_wp2_with (at_builtin; refine wpList_app (v := o) rfl _ _ stB rfl rfl (hown.alloc _) rfl (by simp) rfl (by simp [Value.oneCell']) (by omega) (by simp; omega) ?_; intro v' w2 hown' hg' hat')
      go_ret
      refine ⟨_, rfl, own_more hown' (by rw [encV, if_neg K1.out, if_neg K2.out]; rfl) (by rw [encV, if_neg K1.out, if_neg K2.out]; rfl), grown_alloc hg', ?_⟩
      rcases hat' with e | e
      · exact .inl e
      · exact .inr ⟨_, e, by simp; omega⟩
end Go.Proofs.YtjlhapbahecpoaaDoor
