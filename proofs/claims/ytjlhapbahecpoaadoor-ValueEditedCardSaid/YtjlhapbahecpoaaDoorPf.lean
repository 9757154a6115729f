/- The walks of the laws ValueParse, ValueBack and ValueEdited, where the table of powers of ten is as it is laid and ErrRange can be read. -/
import Derived.Test.YtjlhapbahecpoaaDoorPe
import Derived.Test.YtjlhapbahecpoaaDoorPLaw
import Derived.Test.YtjlhapbahecpoaaDoorVn
import Derived.Test.YtjlhapbahecpoaaDoorDj
namespace Go.Proofs.YtjlhapbahecpoaaDoor
open Go.RowKit

set_option maxRecDepth 100000 in
set_option maxHeartbeats 1000000 in
theorem valueParse_w (s : ByteArray) (w : World) (hG : G w) (hE : GE w) :
    Calls Tryd.prog 11 #[.string s] w fun e w' => e = .returned (.bool true) ∧ Below w.heap.size w w' := by
  by_cases h : 300 < s.size
  · have h1 : (300 : Int) < (s.size : Int) := by omega
    go_enter Tryd.func11, Tryd.ntmps11
    go_wp2_with (go_at_call 14; refine (awake_c _ (by exact hG.below (by (repeat (first | (with_reducible exact Below.refl _ _) | (with_reducible assumption) | (with_reducible refine Below.drew ?_) | (with_reducible refine below_drewN ?_ _) | ((with_reducible refine Below.setCell ?_ ?_ _); rotate_left; (focus (first | (simp; done) | (simp; omega) | omega))) | ((with_reducible refine Below.alloc ?_ ?_ _); rotate_left; (focus (first | (simp; done) | (simp; omega) | omega))) | ((with_reducible apply below_step1); (focus (with_reducible assumption)))))))).mono ?_; rintro e w1 ⟨rfl, hb⟩)
    go_ret
    exact ⟨rfl, by (repeat (first | (with_reducible exact Below.refl _ _) | (with_reducible assumption) | (with_reducible refine Below.drew ?_) | (with_reducible refine below_drewN ?_ _) | ((with_reducible refine Below.setCell ?_ ?_ _); rotate_left; (focus (first | (simp; done) | (simp; omega) | omega))) | ((with_reducible refine Below.alloc ?_ ?_ _); rotate_left; (focus (first | (simp; done) | (simp; omega) | omega))) | ((with_reducible apply below_step1); (focus (with_reducible assumption)))))⟩
  · have h1 : ¬ (300 : Int) < (s.size : Int) := by omega
    have hP := fun w h => vparse s w (by omega) h
    have hQ := fun w => rparse s w (by omega)
    generalize parseO s.data.toList = x at hP hQ
    obtain ⟨v, ec⟩ := x
    have he : ∀ w, _ := fun w => (run_eqV v.k v.n v.s v.k v.n v.s w).trans (by rw [show eqB v.k v.n v.s v.k v.n v.s = true from (V.beq_iff v v).2 rfl])
    have hne : (ec == ec) = true := by simp
    go_enter Tryd.func11, Tryd.ntmps11
    go_wp2_with (first
      | (go_at_call 39; refine (hP _ (by exact hE.below (by (repeat (first | (with_reducible exact Below.refl _ _) | (with_reducible assumption) | (with_reducible refine Below.drew ?_) | (with_reducible refine below_drewN ?_ _) | ((with_reducible refine Below.setCell ?_ ?_ _); rotate_left; (focus (first | (simp; done) | (simp; omega) | omega))) | ((with_reducible refine Below.alloc ?_ ?_ _); rotate_left; (focus (first | (simp; done) | (simp; omega) | omega))) | ((with_reducible apply below_step1); (focus (with_reducible assumption)))))))).mono ?_; rintro e w1 ⟨rfl, hb1⟩; obtain ⟨hc1, hf1⟩ := bcell hb1; have hz1 := (hb1).size; (try simp at hz1))
      | (go_at_call 40; refine (hQ _).mono ?_; rintro e w2 ⟨rfl, hb2⟩; (obtain ⟨hc2, hf2⟩ := bcell hb2; have hz2 := (hb2).size; (try simp at hz2)); have hl2 : w1.heap.size < w2.heap.size := (by omega))
      | (go_at_call 14; refine (awake_c _ (by exact hG.below (by (repeat (first | (with_reducible exact Below.refl _ _) | (with_reducible assumption) | (with_reducible refine Below.drew ?_) | (with_reducible refine below_drewN ?_ _) | ((with_reducible refine Below.setCell ?_ ?_ _); rotate_left; (focus (first | (simp; done) | (simp; omega) | omega))) | ((with_reducible refine Below.alloc ?_ ?_ _); rotate_left; (focus (first | (simp; done) | (simp; omega) | omega))) | ((with_reducible apply below_step1); (focus (with_reducible assumption)))))))).mono ?_; rintro e w3 ⟨rfl, hb3⟩))
    go_ret
    exact ⟨rfl, by (repeat (first | (with_reducible exact Below.refl _ _) | (with_reducible assumption) | (with_reducible refine Below.drew ?_) | (with_reducible refine below_drewN ?_ _) | ((with_reducible refine Below.setCell ?_ ?_ _); rotate_left; (focus (first | (simp; done) | (simp; omega) | omega))) | ((with_reducible refine Below.alloc ?_ ?_ _); rotate_left; (focus (first | (simp; done) | (simp; omega) | omega))) | ((with_reducible apply below_step1); (focus (with_reducible assumption)))))⟩

theorem fmt_size (v : V) : (⟨(fmtV v).toArray⟩ : ByteArray).size ≤ 1000 := by
  obtain ⟨b1, b2, b3⟩ := cl_bounds v
  rw [Lib.size_eq]
  simp only
  unfold fmtV
  split
  · have := Lib.itoa_length_le v.cl.n (by omega) (by omega)
    omega
  · split
    · have := flat_len v.cl.s.data.toList
      rw [← Lib.size_eq] at this
      unfold quoteL
      simp only [List.length_append, List.length_cons, List.length_nil]
      omega
    · simp
set_option maxRecDepth 100000 in
set_option maxHeartbeats 1000000 in
theorem valueBack_w (v : V) (w : World) (hG : G w) (hE : GE w) :
    Calls Tryd.prog 13 #[.agg #[.int .i64 v.k, .int .i64 v.n, .string v.s]] w fun e w' => e = .returned (.bool true) ∧ Below w.heap.size w w' := by
  by_cases h : 200 < v.s.size
  · have h1 : (200 : Int) < (v.s.size : Int) := by omega
    go_enter Tryd.func13, Tryd.ntmps13
    go_wp2_with (go_at_call 14; refine (awake_c _ (by exact hG.below (by (repeat (first | (with_reducible exact Below.refl _ _) | (with_reducible assumption) | (with_reducible refine Below.drew ?_) | (with_reducible refine below_drewN ?_ _) | ((with_reducible refine Below.setCell ?_ ?_ _); rotate_left; (focus (first | (simp; done) | (simp; omega) | omega))) | ((with_reducible refine Below.alloc ?_ ?_ _); rotate_left; (focus (first | (simp; done) | (simp; omega) | omega))) | ((with_reducible apply below_step1); (focus (with_reducible assumption)))))))).mono ?_; rintro e w1 ⟨rfl, hb⟩)
    go_ret
    exact ⟨rfl, by (repeat (first | (with_reducible exact Below.refl _ _) | (with_reducible assumption) | (with_reducible refine Below.drew ?_) | (with_reducible refine below_drewN ?_ _) | ((with_reducible refine Below.setCell ?_ ?_ _); rotate_left; (focus (first | (simp; done) | (simp; omega) | omega))) | ((with_reducible refine Below.alloc ?_ ?_ _); rotate_left; (focus (first | (simp; done) | (simp; omega) | omega))) | ((with_reducible apply below_step1); (focus (with_reducible assumption)))))⟩
  · have h1 : ¬ (200 : Int) < (v.s.size : Int) := by omega
    have hF := vformat v
    have hP := fun w h => vparse ⟨(fmtV v).toArray⟩ w (by have := fmt_size v; omega) h
    rw [show (⟨(fmtV v).toArray⟩ : ByteArray).data.toList = fmtV v from rfl, parse_fmt] at hP
    generalize (⟨(fmtV v).toArray⟩ : ByteArray) = fs at hF hP
    have he : ∀ w, _ := fun w => (run_eqV v.cl.k v.cl.n v.cl.s v.cl.k v.cl.n v.cl.s w).trans (by rw [show eqB v.cl.k v.cl.n v.cl.s v.cl.k v.cl.n v.cl.s = true from (V.beq_iff v.cl v.cl).2 rfl])
    go_enter Tryd.func13, Tryd.ntmps13
    go_wp2_with (first
      | (go_at_call 15; refine (hF _ (by exact hG.below (by (repeat (first | (with_reducible exact Below.refl _ _) | (with_reducible assumption) | (with_reducible refine Below.drew ?_) | (with_reducible refine below_drewN ?_ _) | ((with_reducible refine Below.setCell ?_ ?_ _); rotate_left; (focus (first | (simp; done) | (simp; omega) | omega))) | ((with_reducible refine Below.alloc ?_ ?_ _); rotate_left; (focus (first | (simp; done) | (simp; omega) | omega))) | ((with_reducible apply below_step1); (focus (with_reducible assumption)))))))).mono ?_; rintro e w1 ⟨rfl, hb1⟩; (obtain ⟨hc1, hf1⟩ := bcell hb1; have hz1 := (hb1).size; (try simp at hz1)); have hl1 : w.heap.size < w1.heap.size := (by omega))
      | (go_at_call 39; refine (hP _ (by exact hE.below (by (repeat (first | (with_reducible exact Below.refl _ _) | (with_reducible assumption) | (with_reducible refine Below.drew ?_) | (with_reducible refine below_drewN ?_ _) | ((with_reducible refine Below.setCell ?_ ?_ _); rotate_left; (focus (first | (simp; done) | (simp; omega) | omega))) | ((with_reducible refine Below.alloc ?_ ?_ _); rotate_left; (focus (first | (simp; done) | (simp; omega) | omega))) | ((with_reducible apply below_step1); (focus (with_reducible assumption)))))))).mono ?_; rintro e w2 ⟨rfl, hb2⟩; (obtain ⟨hc2, hf2⟩ := bcell hb2; have hz2 := (hb2).size; (try simp at hz2)); have hl2 : w.heap.size < w2.heap.size := (by omega)))
    have hl3 : w.heap.size < w2.heap.size + 1 := by omega
    go_region_held3 (fun w' => Below (w2.alloc (.cells #[.int .i64 v.cl.k, .int .i64 v.cl.n, .string v.cl.s] 23)).heap.size (w2.alloc (.cells #[.int .i64 v.cl.k, .int .i64 v.cl.n, .string v.cl.s] 23)) w' ∧ ∀ b o, b < (w2.alloc (.cells #[.int .i64 v.cl.k, .int .i64 v.cl.n, .string v.cl.s] 23)).heap.size → w'.cell? ⟨b, o, none⟩ = (w2.alloc (.cells #[.int .i64 v.cl.k, .int .i64 v.cl.n, .string v.cl.s] 23)).cell? ⟨b, o, none⟩) ((first | (with_reducible assumption) | (with_reducible exact ext_refl _) | ((with_reducible apply ext_step) <;> (with_reducible assumption)) | ((with_reducible refine ext_drew ?_) <;> (with_reducible assumption)) | ((with_reducible refine ext_alloc ?_ _) <;> (with_reducible assumption))))
      (first
        | (go_at_call 20; refine (vclean v _).mono ?_; rintro e w3 ⟨rfl, hb3⟩)
        | (go_at_call 14; refine (awake_c _ (by exact hG.below (by (repeat (first | (with_reducible exact Below.refl _ _) | (with_reducible assumption) | (with_reducible refine Below.drew ?_) | (with_reducible refine below_drewN ?_ _) | ((with_reducible refine Below.setCell ?_ ?_ _); rotate_left; (focus (first | (simp; done) | (simp; omega) | omega))) | ((with_reducible refine Below.alloc ?_ ?_ _); rotate_left; (focus (first | (simp; done) | (simp; omega) | omega))) | ((with_reducible apply below_step1); (focus (with_reducible assumption)))))))).mono ?_; rintro e w4 ⟨rfl, hb4⟩))
    go_wp2_with fail
    go_ret
    exact ⟨rfl, by (repeat (first | (with_reducible exact Below.refl _ _) | (with_reducible assumption) | (with_reducible refine Below.drew ?_) | (with_reducible refine below_drewN ?_ _) | ((with_reducible refine Below.setCell ?_ ?_ _); rotate_left; (focus (first | (simp; done) | (simp; omega) | omega))) | ((with_reducible refine Below.alloc ?_ ?_ _); rotate_left; (focus (first | (simp; done) | (simp; omega) | omega))) | ((with_reducible apply below_step1); (focus (with_reducible assumption)))))⟩

def ERel4 (w : World) (b g : Nat) (i : Value) (wr : World) : Prop := ∃ k : Nat, k ≤ 4 ∧ i = .int .i64 k ∧ Below w.heap.size w wr ∧ Tp wr b g
set_option maxRecDepth 100000 in
set_option maxHeartbeats 2000000 in
theorem valueEdited_w (A : Option Addr) (n c : Nat) (zs : List Int) (w : World) (h : IntsR w A n c zs) (hG : G w) (hE : GE w) :
    Calls Tryd.prog 12 #[.slice A n c] w fun e w' => e = .returned (.bool true) ∧ Below w.heap.size w w' := by
  go_enter Tryd.func12, Tryd.ntmps12
  go_wp2_with fail
  refine (new_c A n c zs _ h).mono ?_
  rintro e w1 ⟨b, g, rfl, tp1, hb, hg, bel1⟩
  go_wp2_with fail
  go_loopw [4] (fun i wr => ERel4 w b g i wr) (fun i _ => 4 - (intOf i).toNat)
  case atStart => exact ⟨0, by omega, rfl, bel1, tp1⟩
  case round =>
    obtain ⟨k, hk, rfl, hbel, htp⟩ := hrel
    have hzz := hbel.size
    by_cases hlt : k < 4
    · have hk4 : (k : Int) < 4 := by omega
      go_wp2_with fail
      refine (tvalue b g _ htp).mono ?_
      rintro e w2 ⟨v, rfl, hv, ht2, hg2⟩
      have bel2 := below_tape hbel hg2 hb hzz
      have hF := rformat v
      have hfs := fmt_size v
      generalize (⟨(fmtV v).toArray⟩ : ByteArray) = fs at hF hfs
      go_wp2_with fail
      refine (hF _).mono ?_
      rintro e w3 ⟨rfl, hb3⟩
      have bel3 : Below w.heap.size w w3 := below_step hb3 bel2 (Nat.le_refl _)
      go_wp2_with fail
      refine (tedit b g fs _ (by omega) (ht2.step hb3)).mono ?_
      rintro e w4 ⟨s, rfl, hs4, ht4, hg4⟩
      have bel4 := below_tape bel3 hg4 hb bel3.size
      have hP := fun w h => vparse s w (by omega) h
      have hQ := fun w => rparse s w (by omega)
      generalize parseO s.data.toList = x at hP hQ
      obtain ⟨u, ec⟩ := x
      have he : ∀ w, _ := fun w => (run_neqV u.k u.n u.s u.k u.n u.s w).trans (by rw [show eqB u.k u.n u.s u.k u.n u.s = true from (V.beq_iff u u).2 rfl])
      have hne : (ec != ec) = false := by simp
      have hE4 : GE w4 := hE.below bel4
      have hz44 := bel4.size
      clear hF hfs hv ht2 hg2 hg4 hb3 bel2 bel3
      go_wp2_with (first
        | (go_at_call 39; refine (hP _ hE4).mono ?_; rintro e w5 ⟨rfl, hb5⟩; obtain ⟨hc5, hf5⟩ := bcell hb5; have hz5 := (hb5).size; (try simp at hz5))
        | (go_at_call 40; refine (hQ _).mono ?_; rintro e w6 ⟨rfl, hb6⟩; (obtain ⟨hc6, hf6⟩ := bcell hb6; have hz6 := (hb6).size; (try simp at hz6)); have hl6 : w5.heap.size < w6.heap.size := (by omega)))
      exact ⟨⟨k + 1, by omega, by go_num, by (repeat (first | (with_reducible exact Below.refl _ _) | (with_reducible assumption) | (with_reducible refine Below.drew ?_) | (with_reducible refine below_drewN ?_ _) | ((with_reducible refine Below.setCell ?_ ?_ _); rotate_left; (focus (first | (simp; done) | (simp; omega) | omega))) | ((with_reducible refine Below.alloc ?_ ?_ _); rotate_left; (focus (first | (simp; done) | (simp; omega) | omega))) | ((with_reducible apply below_step1); (focus (with_reducible assumption))))), by (repeat (first | (with_reducible assumption) | (with_reducible refine Tp.drew ?_) | (with_reducible refine Tp.drewN ?_ _) | (with_reducible refine Tp.alloc ?_ _) | ((with_reducible refine Tp.setFar ?_ ?_ ?_ _); rotate_left; (focus (first | (simp; done) | (simp; omega) | omega)); (focus (first | (simp; done) | (simp; omega) | omega))) | ((with_reducible apply Tp.step); (focus (with_reducible assumption)))))⟩, by simp [intOf]; omega⟩
    · have hk4 : ¬ (k : Int) < 4 := by omega
      go_wp2_with (go_at_call 14; refine (awake_c _ (by exact hG.below hbel)).mono ?_; rintro e w9 ⟨rfl, hb9⟩)
      go_ret
      exact ⟨rfl, by (repeat (first | (with_reducible exact Below.refl _ _) | (with_reducible assumption) | (with_reducible refine Below.drew ?_) | (with_reducible refine below_drewN ?_ _) | ((with_reducible refine Below.setCell ?_ ?_ _); rotate_left; (focus (first | (simp; done) | (simp; omega) | omega))) | ((with_reducible refine Below.alloc ?_ ?_ _); rotate_left; (focus (first | (simp; done) | (simp; omega) | omega))) | ((with_reducible apply below_step1); (focus (with_reducible assumption)))))⟩
end Go.Proofs.YtjlhapbahecpoaaDoor
