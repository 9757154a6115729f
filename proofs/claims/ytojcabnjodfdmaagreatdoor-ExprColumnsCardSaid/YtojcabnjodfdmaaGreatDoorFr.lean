/- Contract of the reference's Columns. -/
import Derived.Test.YtojcabnjodfdmaaGreatDoorFq
namespace Go.Proofs.YtojcabnjodfdmaaGreatDoor
open Go.RowKit

/-- A row of ints of the call's own, or none. -/
def IL (w wr : World) (v : Value) (L : List Int) : Prop := ∃ A c, v = .slice A L.length c ∧ L.length ≤ c ∧ c ≤ maxLen ∧ ((A = none ∧ L.length = 0 ∧ c = 0) ∨ 0 < L.length) ∧ RowI wr wr.heap.size A L.length L ∧ (L.length = 0 ∨ ∃ k off, A = some ⟨k, off, none⟩ ∧ w.heap.size ≤ k)
theorem IL.to {w wr w' : World} {v : Value} {L : List Int} (h : IL w wr v L) (hb : Below wr.heap.size wr w') : IL w w' v L := by
  obtain ⟨A, c, h1, h2, h3, h4, h5, h6⟩ := h
  exact ⟨A, c, h1, h2, h3, h4, h5.to hb, h6⟩
theorem IL.own {w w' : World} {B : Nat} {v : Value} {L : List Int} (h : w'.ownsRow B 3 1 v L.length (L.map (Value.int .i64))) (hB : w.heap.size ≤ B) (hL : 0 < L.length) : IL w w' v L := by
  have h0 := h
  obtain ⟨A, c, rfl, h1, h2⟩ := own_slice h
  refine ⟨A, c, rfl, h1, h2, .inr hL, rowI_own h0 rfl, .inr ?_⟩
  rcases h0.2 with ⟨e0, e1⟩ | ⟨g, cap, cur, e0, hg, _⟩
  · injection e0 with _ e0 _; omega
  · injection e0 with e0 _ _
    exact ⟨g, 0, e0, Nat.le_trans hB hg⟩
theorem IL.nil (w wr : World) : IL w wr (.slice none 0 0) [] := ⟨none, 0, rfl, Nat.le_refl _, by decide, .inl ⟨rfl, rfl, rfl⟩, RowOf.nil_, .inl rfl⟩
theorem addL_len (l : List Int) (x : Int) : 0 < (addL l x).length ∧ (addL l x).length ≤ l.length + 1 := by
  induction l with
  | nil => simp [addL]
  | cons a l ih =>
    unfold addL
    split
    · simp only [List.length_cons]; omega
    · split <;> simp
theorem foldl_len (e : List Int) : ∀ l : List Int, (e.foldl addL l).length ≤ l.length + e.length := by
  induction e with
  | nil => intro l; simp
  | cons a e ih =>
    intro l
    have h1 := ih (addL l a)
    have h2 := (addL_len l a).2
    rw [List.foldl_cons, List.length_cons]
    omega
theorem cols_next {es : List T} {k : Nat} {t : T} (h : es[k]? = some t) : (colsL (es.take (k + 1))).foldl addL [] = if t.op = 2 then addL ((colsL (es.take k)).foldl addL []) t.c else (colsL (es.take k)).foldl addL [] := by
  rw [colsL_take h]
  split
  · rw [List.foldl_append]; rfl
  · rw [List.append_nil]
set_option maxRecDepth 100000 in
set_option maxHeartbeats 4000000 in
theorem rcolumns (A : Option Addr) (n c : Nat) (es : List T) (w : World) (hn : n ≤ maxLen) (hr : RowT w w.heap.size A n es) : Calls Tryz.prog 19 #[.slice A n c] w (ClPost w (colsV es)) := by
  have hvd := fun w h => rvalidE A n c es w hn h
  have HN := Lib.hid hr.len
  cases hval : validE es
  · rw [hval] at hvd
    have HR := Lib.hid (show colsV es = [] by unfold colsV; rw [if_neg (by rw [hval]; decide)])
    clear hval
    go_enter Tryz.func19, Tryz.ntmps19
    go_wp2_with fail
    go_loopw [3, 4] (fun v3 v4 wr => v3 = .slice none 0 0 ∧ v4 = .int .i64 0 ∧ Below w.heap.size w wr) (fun _ _ _ => 0)
    case atStart => exact ⟨rfl, rfl, by (repeat (first | (with_reducible exact Below.refl _ _) | (with_reducible assumption) | (with_reducible refine Below.drew ?_) | (with_reducible refine below_drewN ?_ _) | ((with_reducible refine Below.setCell ?_ ?_ _); rotate_left; (focus (first | (simp; done) | (simp; omega) | omega))) | ((with_reducible refine Below.alloc ?_ ?_ _); rotate_left; (focus (first | (simp; done) | (simp; omega) | omega))) | ((with_reducible apply below_step1); (focus (with_reducible assumption)))))⟩
    case round =>
      obtain ⟨rfl, rfl, hbel⟩ := hrel
      have hzz := hbel.size
      by_cases h0 : 0 < n
      · have h1 : (0 : Int) < (n : Int) := by omega
        ((go_wp2_with fail); refine (hvd _ (by exact hr.to hbel)).mono ?_; rintro e w1 ⟨rfl, hb1⟩; have hz1 := hb1.size; (try simp at hz1))
        go_wp2_with fail
        go_ret
        rw [HR.out]
        exact ⟨none, 0, rfl, RowOf.nil_, .inl rfl, by (repeat (first | (with_reducible exact Below.refl _ _) | (with_reducible assumption) | (with_reducible refine Below.drew ?_) | (with_reducible refine below_drewN ?_ _) | ((with_reducible refine Below.setCell ?_ ?_ _); rotate_left; (focus (first | (simp; done) | (simp; omega) | omega))) | ((with_reducible refine Below.alloc ?_ ?_ _); rotate_left; (focus (first | (simp; done) | (simp; omega) | omega))) | ((with_reducible apply below_step1); (focus (with_reducible assumption)))))⟩
      · have h1 : ¬ (0 : Int) < (n : Int) := by omega
        go_wp2_with fail
        go_ret
        rw [HR.out]
        exact ⟨none, 0, rfl, RowOf.nil_, .inl rfl, by (repeat (first | (with_reducible exact Below.refl _ _) | (with_reducible assumption) | (with_reducible refine Below.drew ?_) | (with_reducible refine below_drewN ?_ _) | ((with_reducible refine Below.setCell ?_ ?_ _); rotate_left; (focus (first | (simp; done) | (simp; omega) | omega))) | ((with_reducible refine Below.alloc ?_ ?_ _); rotate_left; (focus (first | (simp; done) | (simp; omega) | omega))) | ((with_reducible apply below_step1); (focus (with_reducible assumption)))))⟩
  rw [hval] at hvd
  have HR := Lib.hid (show colsV es = (colsL es).foldl addL [] by unfold colsV; rw [if_pos hval]; rfl)
  have hn64 : n ≤ 64 := by have := validE_len hval; have := HN.out; omega
  clear hval
  go_enter Tryz.func19, Tryz.ntmps19
  go_wp2_with fail
  go_loopw [3, 4] (fun v3 v4 wr => ∃ k : Nat, v4 = .int .i64 (k : Int) ∧ k ≤ n ∧ IL w wr v3 ((colsL (es.take k)).foldl addL []) ∧ Below w.heap.size w wr) (fun _ v4 _ => n - (intOf v4).toNat)
  case atStart => exact ⟨0, rfl, by omega, IL.nil _ _, by (repeat (first | (with_reducible exact Below.refl _ _) | (with_reducible assumption) | (with_reducible refine Below.drew ?_) | (with_reducible refine below_drewN ?_ _) | ((with_reducible refine Below.setCell ?_ ?_ _); rotate_left; (focus (first | (simp; done) | (simp; omega) | omega))) | ((with_reducible refine Below.alloc ?_ ?_ _); rotate_left; (focus (first | (simp; done) | (simp; omega) | omega))) | ((with_reducible apply below_step1); (focus (with_reducible assumption)))))⟩
  case round =>
    obtain ⟨k, rfl, hk, hil, hbel⟩ := hrel
    have hzz := hbel.size
    have hll := foldl_len (colsL (es.take k)) []
    have hcl := colsL_le es k
    by_cases hlt : k < n
    · have h1 : (k : Int) < (n : Int) := by omega
      have h0 : (0 : Int) ≤ (k : Int) := by omega
      have hkw : IntKind.i64.wrap ((k : Int) + 1) = (k : Int) + 1 := IntWalk.i64_in _ (by omega)
      obtain ⟨b, off, t, rfl, hb, ht, c0, c1, c2, c3, c4⟩ := RowT.at5 (hr.to hbel) hlt
      have hS := cols_next ht
      clear ht
      generalize (colsL (es.take k)).foldl addL [] = L at hil hS hll
      have hL : L.length ≤ 64 := by simp at hll; omega
      obtain ⟨A3, c3', rfl, g1, g2, g3, g4, g5⟩ := hil
      ((go_wp2_with fail); refine (hvd _ (by exact hr.to hbel)).mono ?_; rintro e w1 ⟨rfl, hb1⟩; have hz1 := hb1.size; (try simp at hz1))
      by_cases h2 : t.op = 2
      · have t2 : (t.op == 2) = true := by simpa using h2
        rw [if_pos h2] at hS
        have HS := Lib.hid hS
        have d0 := (hb1.cell (p := ⟨b, off + k * 5, none⟩) hb).trans c0
        have d4 := (hb1.cell (p := ⟨b, off + k * 5 + 4, none⟩) hb).trans c4
        have hadd := radd A3 L.length c3' L t.c w1 (by omega) g1 g2 g3 (g4.to hb1)
        have hax := (addL_len L t.c).1
        have G5 := Lib.hid g5
        have G3 := Lib.hid g3
        have G4 := Lib.hid (g4.to hb1)
        clear hS h2 c0 c1 c2 c3 c4 g3 g4 g5
        go_wp2_with fail
        refine hadd.mono ?_
        rintro e w2 ⟨v2, rfl, hv2, hb2⟩
        have hz2 := hb2.size
        go_wp2_with fail
        go_roundw
        case rel =>
          refine ⟨k + 1, by go_num, by omega, ?_, by (repeat (first | (with_reducible exact Below.refl _ _) | (with_reducible assumption) | (with_reducible refine Below.drew ?_) | (with_reducible refine below_drewN ?_ _) | ((with_reducible refine Below.setCell ?_ ?_ _); rotate_left; (focus (first | (simp; done) | (simp; omega) | omega))) | ((with_reducible refine Below.alloc ?_ ?_ _); rotate_left; (focus (first | (simp; done) | (simp; omega) | omega))) | ((with_reducible apply below_step1); (focus (with_reducible assumption)))))⟩
          rw [HS.out]
          rcases hv2 with ⟨rfl, e2⟩ | ho
          · rw [e2]
            exact ⟨A3, c3', rfl, g1, g2, G3.out, G4.out.to hb2, G5.out⟩
          · exact IL.own ho (by omega) hax
        case measure => simp [intOf]; omega
      · have t2 : (t.op == 2) = false := by simpa using h2
        rw [if_neg h2] at hS
        have HS := Lib.hid hS
        have d0 := (hb1.cell (p := ⟨b, off + k * 5, none⟩) hb).trans c0
        have HIL : Hid (IL w w1 (.slice A3 L.length c3') L) := ⟨A3, c3', rfl, g1, g2, g3, g4.to hb1, g5⟩
        clear hS h2 c0 c1 c2 c3 c4 g3 g4 g5
        go_wp2_with fail
        go_roundw
        case rel =>
          refine ⟨k + 1, by go_num, by omega, ?_, by (repeat (first | (with_reducible exact Below.refl _ _) | (with_reducible assumption) | (with_reducible refine Below.drew ?_) | (with_reducible refine below_drewN ?_ _) | ((with_reducible refine Below.setCell ?_ ?_ _); rotate_left; (focus (first | (simp; done) | (simp; omega) | omega))) | ((with_reducible refine Below.alloc ?_ ?_ _); rotate_left; (focus (first | (simp; done) | (simp; omega) | omega))) | ((with_reducible apply below_step1); (focus (with_reducible assumption)))))⟩
          rw [HS.out]
          exact HIL.out
        case measure => simp [intOf]; omega
    · have h1 : ¬ (k : Int) < (n : Int) := by omega
      have hpe : es.take k = es := List.take_of_length_le (by rw [HN.out]; omega)
      rw [hpe, ← HR.out] at hil
      obtain ⟨A3, c3, rfl, g1, g2, g3, g4, g5⟩ := hil
      clear hll
      obtain ⟨L, hL⟩ : ∃ L, colsV es = L := ⟨_, rfl⟩
      rw [hL] at g1 g3 g4 g5
      rw [hL]
      have HL := Lib.hid hL
      clear hL
      go_wp2_with fail
      go_ret
      rw [HL.out]
      exact ⟨A3, c3, rfl, g4, g5, by (repeat (first | (with_reducible exact Below.refl _ _) | (with_reducible assumption) | (with_reducible refine Below.drew ?_) | (with_reducible refine below_drewN ?_ _) | ((with_reducible refine Below.setCell ?_ ?_ _); rotate_left; (focus (first | (simp; done) | (simp; omega) | omega))) | ((with_reducible refine Below.alloc ?_ ?_ _); rotate_left; (focus (first | (simp; done) | (simp; omega) | omega))) | ((with_reducible apply below_step1); (focus (with_reducible assumption)))))⟩
end Go.Proofs.YtojcabnjodfdmaaGreatDoor
