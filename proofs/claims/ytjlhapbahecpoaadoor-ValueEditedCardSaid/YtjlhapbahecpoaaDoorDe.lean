/- Contract of the reference's EncodeRow: rows of at most a thousand values. -/
import Derived.Test.YtjlhapbahecpoaaDoorVk
import Derived.Test.YtjlhapbahecpoaaDoorTa
namespace Go.Proofs.YtjlhapbahecpoaaDoor
open Go.RowKit

def EncRel (w : World) (n : Nat) (vs : List V) (u i : Value) (wr : World) : Prop := ∃ k : Nat, k ≤ n ∧ i = .int .i64 k ∧ OwnB wr w.heap.size u (encRow (vs.take k)) ∧ Below w.heap.size w wr
theorem EncRel.next {w w2 : World} {n k : Nat} {vs : List V} {v : V} {u' i : Value} {N : List UInt8} (hk : k < n) (hv : vs[k]? = some v) (hN : encRow (vs.take k) = N) (hi : i = .int .i64 ((k + 1 : Nat) : Int)) (own2 : OwnB w2 w.heap.size u' (N ++ encV v.cl)) (hbel : Below w.heap.size w w2) : EncRel w n vs u' i w2 := by
  refine ⟨k + 1, by omega, hi, ?_, hbel⟩
  rw [encRow_take hv, hN]
  exact own2
/-- The inner loop: a text's bytes one by one; the cleaned value lies in block B. -/
def InRel (w : World) (B : Nat) (N : List UInt8) (s : ByteArray) (u i : Value) (wr : World) : Prop :=
  ∃ k : Nat, k ≤ s.size ∧ i = .int .i64 k ∧ OwnB wr w.heap.size u (N ++ 3 :: (s.data.toList.take k).flatMap encT) ∧ Below w.heap.size w wr ∧ B < wr.heap.size ∧ u.ownBlock ≠ some B ∧ wr.cell? ⟨B, 2, none⟩ = some (.string s)
theorem own_away {w : World} {u v' : Value} {B n W : Nat} {l : List UInt8} (h : OwnB w n u l) (hB : w.heap.size ≤ B) (hat : v'.ownBlock = u.ownBlock ∨ v'.ownBlock = some W) (hW : W ≠ B) : v'.ownBlock ≠ some B := by
  rcases hat with e | e <;> rw [e]
  · intro h2
    have := (World.ownsRow.lt h _ h2).2
    omega
  · intro h2
    injection h2 with h2
    exact hW h2
theorem away_step {u v' : Value} {B W : Nat} (h : u.ownBlock ≠ some B) (hat : v'.ownBlock = u.ownBlock ∨ v'.ownBlock = some W) (hW : B < W) : v'.ownBlock ≠ some B := by
  rcases hat with e | e <;> rw [e]
  · exact h
  · intro h2
    injection h2 with h2
    omega
theorem cell_grown {W w2 : World} {r : Option Nat} {B o : Nat} (hg : W.grownBy w2 r) (hB : B < W.heap.size) (hne : r ≠ some B) : w2.cell? ⟨B, o, none⟩ = W.cell? ⟨B, o, none⟩ := World.cell?_of_block (hg.block B hB (Ne.symm hne))
set_option maxRecDepth 100000 in
set_option maxHeartbeats 1000000 in
theorem rencodeRow (A : Option Addr) (n c : Nat) (vs : List V) (w : World) (hn : n ≤ 1000) (hr : Row w w.heap.size A n vs) :
    Calls Tryd.prog 34 #[.slice A n c] w fun e w' => e = .returned (.string ⟨(encRow vs).toArray⟩) ∧ Below w.heap.size w w' := by
  have HL := Lib.hid hr.len
  go_enter Tryd.func34, Tryd.ntmps34
  go_wp2_with fail
  go_loopw [3, 4] (fun u i wr => EncRel w n vs u i wr) (fun _ i _ => n - (intOf i).toNat)
  case atStart => exact ⟨0, Nat.zero_le _, rfl, OwnB.nil_ _ _, Below.refl _ _⟩
  case round =>
    obtain ⟨k, hk, rfl, hown, hbel⟩ := hrel
    have hzz := hbel.size
    have hlen := encRow_len (vs.take k)
    have hlt2 : (vs.take k).length ≤ k := List.length_take_le _ _
    generalize hN : encRow (vs.take k) = N at hown hlen
    have HN := Lib.hid hN
    have hL : N.length ≤ 100000 := by omega
    clear hN hlen hlt2
    by_cases hlt : k < n
    · obtain ⟨b, off, v, rfl, hb, hv, hc0, hc1, hc2⟩ := Row.at3 (hr.below hbel) hlt
      have HV := Lib.hid hv
      clear hv
      obtain ⟨l1, l2, l3⟩ := cl_lim v
      by_cases k1 : v.cl.k = 1
      · have t1 : (v.cl.k == 1) = true := by simpa using k1
        have K1 := Lib.hid (show encV v.cl = encI (v.cl.n + 4294967296) by rw [encV, if_pos k1])
        have e1 : IntKind.i64.wrap (v.cl.n + 4294967296) = v.cl.n + 4294967296 := IntWalk.i64_in _ (by omega)
        clear k1
        go_wp2_with (first
          | (go_at_call 21; refine (rclean v _).mono ?_; rintro e w1 ⟨rfl, hb1⟩; obtain ⟨hc1, hf1⟩ := bcell hb1; have hz1 := (hb1).size; (try simp at hz1); have own1 := (hown.below hb1).alloc (.cells #[.int .i64 v.cl.k, .int .i64 v.cl.n, .string v.cl.s] 23))
          | (at_builtin; refine wpList_app (v := u3) rfl _ _ stB rfl rfl (own1) rfl (by simp) rfl (by simp [Value.oneCell']) (by omega) (by simp; omega) ?_; intro v' w2 hown' hg' hat'))
        exact ⟨EncRel.next hlt HV.out HN.out (by go_num) (own_more hown' (by rw [K1.out, encI_cells _ (by omega) (by omega)]) (by rw [K1.out]; rfl)) (below_app (by (repeat (first | (with_reducible exact Below.refl _ _) | (with_reducible assumption) | (with_reducible refine Below.drew ?_) | (with_reducible refine below_drewN ?_ _) | ((with_reducible refine Below.setCell ?_ ?_ _); rotate_left; (focus (first | (simp; done) | (simp; omega) | omega))) | ((with_reducible refine Below.alloc ?_ ?_ _); rotate_left; (focus (first | (simp; done) | (simp; omega) | omega))) | ((with_reducible apply below_step1); (focus (with_reducible assumption)))))) own1 hg' (Nat.le_refl _) (by simp; omega)), by simp [intOf]; omega⟩
      · have t1 : (v.cl.k == 1) = false := by simpa using k1
        by_cases k2 : v.cl.k = 2
        · have t2 : (v.cl.k == 2) = true := by simpa using k2
          have K2 := Lib.hid (show encV v.cl = 3 :: v.cl.s.data.toList.flatMap encT ++ [0, 0] by rw [encV, if_neg k1, if_pos k2])
          clear k1 k2
          go_wp2_with (first
            | (go_at_call 21; refine (rclean v _).mono ?_; rintro e w1 ⟨rfl, hb1⟩; obtain ⟨hc1, hf1⟩ := bcell hb1; have hz1 := (hb1).size; (try simp at hz1); have own1 := (hown.below hb1).alloc (.cells #[.int .i64 v.cl.k, .int .i64 v.cl.n, .string v.cl.s] 23))
            | (at_builtin; refine wpList_app (v := u3) rfl _ _ stB rfl rfl (own1) rfl (by simp) rfl (by simp [Value.oneCell']) (by omega) (by simp; omega) ?_; intro v' w2 hown' hg' hat'))
          have own2 := own_more (m := [3]) hown' rfl rfl
          have hne2 : v'.ownBlock ≠ some w1.heap.size := own_away (hown.below hb1) (Nat.le_refl _) hat' (by simp; omega)
          have hne1 : u3.ownBlock ≠ some w1.heap.size := own_away (hown.below hb1) (Nat.le_refl _) (.inl rfl) (W := w1.heap.size + 1) (by simp)
          have hbel2 : Below w.heap.size w w2 := below_app (by (repeat (first | (with_reducible exact Below.refl _ _) | (with_reducible assumption) | (with_reducible refine Below.drew ?_) | (with_reducible refine below_drewN ?_ _) | ((with_reducible refine Below.setCell ?_ ?_ _); rotate_left; (focus (first | (simp; done) | (simp; omega) | omega))) | ((with_reducible refine Below.alloc ?_ ?_ _); rotate_left; (focus (first | (simp; done) | (simp; omega) | omega))) | ((with_reducible apply below_step1); (focus (with_reducible assumption)))))) own1 hg' (Nat.le_refl _) (by simp; omega)
          have hz2 := hg'.size
          simp at hz2
          have hcell : w2.cell? ⟨w1.heap.size, 2, none⟩ = some (.string v.cl.s) := (cell_grown hg' (by simp) hne1).trans (by simp [go_sem])
          clear hown' hg' hat' own1
          go_loopw [3, 7] (fun u i wr => InRel w w1.heap.size N v.cl.s u i wr) (fun _ i _ => v.cl.s.size - (intOf i).toNat)
          case atStart => exact ⟨0, Nat.zero_le _, rfl, by simpa using own2, hbel2, by omega, hne2, hcell⟩
          case round =>
            obtain ⟨j, hj, rfl, hown3, hbel3, hz3, hne3, hcell3⟩ := hrel
            have hzz3 := hbel3.size
            have hlen := encT_flat (v.cl.s.data.toList.take j)
            have hlt2 : (v.cl.s.data.toList.take j).length ≤ j := List.length_take_le _ _
            have hM' : (N ++ 3 :: (v.cl.s.data.toList.take j).flatMap encT).length ≤ 100100 := by simp only [List.length_append, List.length_cons]; omega
            generalize hM : N ++ 3 :: (v.cl.s.data.toList.take j).flatMap encT = M at hown3 hM'
            have HM := Lib.hid hM
            clear hM hlen hlt2
            by_cases hlt3 : j < v.cl.s.size
            · have hl : j < v.cl.s.data.toList.length := by rw [← Lib.size_eq]; exact hlt3
              obtain ⟨ch, hch⟩ : ∃ c, v.cl.s.data.toList[j]? = some c := ⟨_, List.getElem?_eq_getElem hl⟩
              have hix := run_idx hch
              have HC := Lib.hid hch
              clear hch hl
              by_cases q0 : ch = 0
              · have t3 : ((ch.toNat : Int) == 0) = true := by rw [q0]; rfl
                have Q0 := Lib.hid q0
                clear q0
                go_wp2_with (first
                  | (at_builtin; refine wpList_app (v := u3) rfl _ _ stB rfl rfl (hown3) rfl (by simp) rfl (by simp [Value.oneCell']) (by omega) (by omega) ?_; intro v4 w4 hown4 hg4 hat4; have own4 := own_more (m := [ch]) hown4 rfl rfl; have hz4 := hg4.size; have hL4 : (M ++ [ch]).length ≤ 100101 := (by simp only [List.length_append, List.length_cons, List.length_nil]; omega); have hne4 : v4.ownBlock ≠ some w1.heap.size := away_step hne3 hat4 (by omega); have hcell4 := (cell_grown (o := 2) hg4 hz3 hne3).trans hcell3; clear hown4)
                  | (at_builtin; refine wpList_app (v := v4) rfl _ _ stB rfl rfl (own4) rfl (by simp) rfl (by simp [Value.oneCell']) (by omega) (by omega) ?_; intro v5 w5 hown5 hg5 hat5))
                have own5 := own_more (m := [255]) hown5 rfl rfl
                have he : N ++ 3 :: (v.cl.s.data.toList.take (j + 1)).flatMap encT = (M ++ [ch]) ++ [255] := by
                  rw [← HM.out, List.take_add_one, HC.out, Q0.out]; simp [encT]
                have hb4 : Below w.heap.size w w4 := below_app hbel3 hown3 hg4 (Nat.le_refl _) hzz3
                have hz5 := hg5.size
                exact ⟨⟨j + 1, by omega, by go_num, by rw [he]; exact own5, below_app hb4 own4 hg5 (Nat.le_refl _) (by omega), by omega, away_step hne4 hat5 (by omega), (cell_grown (o := 2) hg5 (by omega) hne4).trans hcell4⟩, by simp [intOf]; omega⟩
              · have t3 : ((ch.toNat : Int) == 0) = false := by
                  rw [beq_eq_false_iff_ne]
                  intro h
                  apply q0
                  apply UInt8.toNat_inj.1
                  simpa using h
                have Q0 := Lib.hid q0
                clear q0
                go_wp2_with (at_builtin; refine wpList_app (v := u3) rfl _ _ stB rfl rfl (hown3) rfl (by simp) rfl (by simp [Value.oneCell']) (by omega) (by omega) ?_; intro v4 w4 hown4 hg4 hat4; have own4 := own_more (m := [ch]) hown4 rfl rfl; have hz4 := hg4.size; have hne4 : v4.ownBlock ≠ some w1.heap.size := away_step hne3 hat4 (by omega); have hcell4 := (cell_grown (o := 2) hg4 hz3 hne3).trans hcell3; clear hown4)
                have he : N ++ 3 :: (v.cl.s.data.toList.take (j + 1)).flatMap encT = M ++ [ch] := by
                  rw [← HM.out, List.take_add_one, HC.out]; simp [encT, Q0.out]
                exact ⟨⟨j + 1, by omega, by go_num, by rw [he]; exact own4, below_app hbel3 hown3 hg4 (Nat.le_refl _) hzz3, by omega, hne4, hcell4⟩, by simp [intOf]; omega⟩
            · have hfin : v.cl.s.data.toList.take j = v.cl.s.data.toList := List.take_of_length_le (by rw [← Lib.size_eq]; omega)
              have HF := Lib.hid hfin
              clear hfin
              go_wp2_with (at_builtin; refine wpList_app (v := u3) rfl _ _ stB rfl rfl (hown3) rfl (by simp) rfl (by simp [Value.oneCell']) (by omega) (by omega) ?_; intro v4 w4 hown4 hg4 hat4)
              have own4 := own_more (m := [0, 0]) hown4 rfl rfl
              have he : N ++ encV v.cl = M ++ [0, 0] := by rw [← HM.out, HF.out, K2.out]; simp
              exact ⟨EncRel.next hlt HV.out HN.out (by go_num) (by rw [he]; exact own4) (below_app hbel3 hown3 hg4 (Nat.le_refl _) hzz3), by simp [intOf]; omega⟩
        · have t2 : (v.cl.k == 2) = false := by simpa using k2
          have K3 := Lib.hid (show encV v.cl = [1] by rw [encV, if_neg k1, if_neg k2])
          clear k1 k2
          go_wp2_with (first
            | (go_at_call 21; refine (rclean v _).mono ?_; rintro e w1 ⟨rfl, hb1⟩; obtain ⟨hc1, hf1⟩ := bcell hb1; have hz1 := (hb1).size; (try simp at hz1); have own1 := (hown.below hb1).alloc (.cells #[.int .i64 v.cl.k, .int .i64 v.cl.n, .string v.cl.s] 23))
            | (at_builtin; refine wpList_app (v := u3) rfl _ _ stB rfl rfl (own1) rfl (by simp) rfl (by simp [Value.oneCell']) (by omega) (by simp; omega) ?_; intro v' w2 hown' hg' hat'))
          exact ⟨EncRel.next hlt HV.out HN.out (by go_num) (own_more hown' (by rw [K3.out]; rfl) (by rw [K3.out]; rfl)) (below_app (by (repeat (first | (with_reducible exact Below.refl _ _) | (with_reducible assumption) | (with_reducible refine Below.drew ?_) | (with_reducible refine below_drewN ?_ _) | ((with_reducible refine Below.setCell ?_ ?_ _); rotate_left; (focus (first | (simp; done) | (simp; omega) | omega))) | ((with_reducible refine Below.alloc ?_ ?_ _); rotate_left; (focus (first | (simp; done) | (simp; omega) | omega))) | ((with_reducible apply below_step1); (focus (with_reducible assumption)))))) own1 hg' (Nat.le_refl _) (by simp; omega)), by simp [intOf]; omega⟩
    · have hts := hown.str
      go_wp2_with fail
      go_ret
      refine ⟨?_, hbel⟩
      rw [← HN.out, List.take_of_length_le (by rw [HL.out]; omega)]
      rfl
end Go.Proofs.YtjlhapbahecpoaaDoor
