/- Contracts of Format, of the program and of the reference; the program's where the table of powers of ten is as it is laid. -/
import Derived.Test.YtmbegmhgiekofaaDoorVh
import Derived.Test.YtmbegmhgiekofaaDoorShelf
import Derived.Lib.LaidTab
import Derived.Lib.AppendIntMem
namespace Go.Proofs.YtmbegmhgiekofaaDoor
open Go.RowKit

/-- The library's table of powers of ten is as it is laid. -/
structure G (w : World) : Prop where
  tab : Lib.TabIs Tryd.prog w "internal/strconv.uint64pow10" .u64 Lib.pow10Tab
theorem G.below {w w' : World} (h : G w) (hb : Below w.heap.size w w') : G w' := ⟨Lib.tabBelow_of_tabIs h.tab w' hb⟩
theorem below_grow {w w' : World} (h : ∃ k os, w' = Sort.grow (w.drewN k) os) : Below w.heap.size w w' := by
  obtain ⟨k, os, rfl⟩ := h
  refine ⟨rfl, rfl, rfl, ?_, fun i hi => ?_⟩
  · show w.heap.size ≤ (w.heap ++ os).size
    simp
  · show (w.heap ++ os)[i]? = _
    rw [Array.getElem?_append_left hi]

def fmtV (v : V) : List UInt8 := if v.cl.k = 1 then Lib.itoa v.cl.n else if v.cl.k = 2 then quoteL v.cl.s.data.toList else [110, 117, 108, 108]
theorem cl_bounds (v : V) : -4294967296 ≤ v.cl.n ∧ v.cl.n ≤ 4294967296 ∧ v.cl.s.size ≤ 32 := by
  have h := V.ok_cases v.cl_ok
  rw [Lib.size_eq]
  rcases h with ⟨_, h2, h3⟩ | ⟨_, h2, h2', h3⟩ | ⟨_, h2, h3⟩
  · rw [h3]; simp; omega
  · rw [h3]; simp; omega
  · omega

set_option maxRecDepth 100000 in
set_option maxHeartbeats 1000000 in
theorem vformat (v : V) (w : World) (hG : G w) : Calls Tryd.prog 54 #[.agg #[.int .i64 v.k, .int .i64 v.n, .string v.s]] w fun e w' => e = .returned (.string ⟨(fmtV v).toArray⟩) ∧ Below w.heap.size w w' := by
  obtain ⟨b1, b2, b3⟩ := cl_bounds v
  by_cases h1 : v.cl.k = 1
  · have H1 := Lib.hid h1
    have t1 : (v.cl.k == 1) = true := by simpa using h1
    clear h1
    go_enter Tryd.func54, Tryd.ntmps54
    go_wp2_with (first
      | (go_at_call 66; refine (vclean v _).mono ?_; rintro e w1 ⟨rfl, hb1⟩; obtain ⟨hc1, hf1⟩ := bcell hb1; have hz1 := (hb1).size; try simp at hz1; have hl10 : w.heap.size < w1.heap.size := (by omega))
      | (go_at_call 53; refine (Tryd.strconv_FormatInt_10 _ (by omega) (by omega) _ (by exact (hG.below (by (repeat (first | (with_reducible exact Below.refl _ _) | (with_reducible assumption) | (with_reducible refine Below.drew ?_) | (with_reducible refine below_drewN ?_ _) | ((with_reducible refine Below.setCell ?_ ?_ _); rotate_left; (focus (first | (simp; done) | (simp; omega) | omega))) | ((with_reducible refine Below.alloc ?_ ?_ _); rotate_left; (focus (first | (simp; done) | (simp; omega) | omega))) | ((with_reducible apply below_step1); (focus (with_reducible assumption))))))).tab)).mono ?_; rintro e w2 ⟨rfl, hb2'⟩; have hb2 := below_grow hb2'; clear hb2'))
    go_ret
    exact ⟨by rw [fmtV, if_pos H1.out]; rfl, by (repeat (first | (with_reducible exact Below.refl _ _) | (with_reducible assumption) | (with_reducible refine Below.drew ?_) | (with_reducible refine below_drewN ?_ _) | ((with_reducible refine Below.setCell ?_ ?_ _); rotate_left; (focus (first | (simp; done) | (simp; omega) | omega))) | ((with_reducible refine Below.alloc ?_ ?_ _); rotate_left; (focus (first | (simp; done) | (simp; omega) | omega))) | ((with_reducible apply below_step1); (focus (with_reducible assumption)))))⟩
  · have H1 := Lib.hid h1
    have t1 : (v.cl.k == 1) = false := by simpa using h1
    clear h1
    by_cases h2 : v.cl.k = 2
    · have H2 := Lib.hid h2
      have t2 : (v.cl.k == 2) = true := by simpa using h2
      clear h2
      go_enter Tryd.func54, Tryd.ntmps54
      go_wp2_with (first
        | (go_at_call 66; refine (vclean v _).mono ?_; rintro e w1 ⟨rfl, hb1⟩; obtain ⟨hc1, hf1⟩ := bcell hb1; have hz1 := (hb1).size; try simp at hz1; have hl10 : w.heap.size < w1.heap.size := (by omega))
        | (go_at_call 67; refine (quote_c _ _ (by omega)).mono ?_; rintro e w2 ⟨rfl, hb2⟩))
      go_ret
      exact ⟨by rw [fmtV, if_neg H1.out, if_pos H2.out]; rfl, by (repeat (first | (with_reducible exact Below.refl _ _) | (with_reducible assumption) | (with_reducible refine Below.drew ?_) | (with_reducible refine below_drewN ?_ _) | ((with_reducible refine Below.setCell ?_ ?_ _); rotate_left; (focus (first | (simp; done) | (simp; omega) | omega))) | ((with_reducible refine Below.alloc ?_ ?_ _); rotate_left; (focus (first | (simp; done) | (simp; omega) | omega))) | ((with_reducible apply below_step1); (focus (with_reducible assumption)))))⟩
    · have H2 := Lib.hid h2
      have t2 : (v.cl.k == 2) = false := by simpa using h2
      clear h2
      go_enter Tryd.func54, Tryd.ntmps54
      go_wp2_with (first
        | (go_at_call 66; refine (vclean v _).mono ?_; rintro e w1 ⟨rfl, hb1⟩; obtain ⟨hc1, hf1⟩ := bcell hb1; have hz1 := (hb1).size; try simp at hz1; have hl10 : w.heap.size < w1.heap.size := (by omega)))
      go_ret
      exact ⟨by rw [fmtV, if_neg H1.out, if_neg H2.out]; rfl, by (repeat (first | (with_reducible exact Below.refl _ _) | (with_reducible assumption) | (with_reducible refine Below.drew ?_) | (with_reducible refine below_drewN ?_ _) | ((with_reducible refine Below.setCell ?_ ?_ _); rotate_left; (focus (first | (simp; done) | (simp; omega) | omega))) | ((with_reducible refine Below.alloc ?_ ?_ _); rotate_left; (focus (first | (simp; done) | (simp; omega) | omega))) | ((with_reducible apply below_step1); (focus (with_reducible assumption)))))⟩

set_option maxRecDepth 100000 in
set_option maxHeartbeats 1000000 in
theorem rformat (v : V) (w : World) : Calls Tryd.prog 24 #[.agg #[.int .i64 v.k, .int .i64 v.n, .string v.s]] w fun e w' => e = .returned (.string ⟨(fmtV v).toArray⟩) ∧ Below w.heap.size w w' := by
  obtain ⟨b1, b2, b3⟩ := cl_bounds v
  by_cases h1 : v.cl.k = 1
  · have H1 := Lib.hid h1
    have t1 : (v.cl.k == 1) = true := by simpa using h1
    clear h1
    go_enter Tryd.func24, Tryd.ntmps24
    go_wp2_with (first
      | (go_at_call 37; refine (rclean v _).mono ?_; rintro e w1 ⟨rfl, hb1⟩; obtain ⟨hc1, hf1⟩ := bcell hb1; have hz1 := (hb1).size; try simp at hz1; have hl10 : w.heap.size < w1.heap.size := (by omega))
      | (go_at_call 38; refine (digits_c _ _ (by omega) (by omega)).mono ?_; rintro e w2 ⟨rfl, hb2⟩))
    go_ret
    exact ⟨by rw [fmtV, if_pos H1.out]; rfl, by (repeat (first | (with_reducible exact Below.refl _ _) | (with_reducible assumption) | (with_reducible refine Below.drew ?_) | (with_reducible refine below_drewN ?_ _) | ((with_reducible refine Below.setCell ?_ ?_ _); rotate_left; (focus (first | (simp; done) | (simp; omega) | omega))) | ((with_reducible refine Below.alloc ?_ ?_ _); rotate_left; (focus (first | (simp; done) | (simp; omega) | omega))) | ((with_reducible apply below_step1); (focus (with_reducible assumption)))))⟩
  · have H1 := Lib.hid h1
    have t1 : (v.cl.k == 1) = false := by simpa using h1
    clear h1
    by_cases h2 : v.cl.k = 2
    · have H2 := Lib.hid h2
      have t2 : (v.cl.k == 2) = true := by simpa using h2
      clear h2
      go_enter Tryd.func24, Tryd.ntmps24
      go_wp2_with (first
        | (go_at_call 37; refine (rclean v _).mono ?_; rintro e w1 ⟨rfl, hb1⟩; obtain ⟨hc1, hf1⟩ := bcell hb1; have hz1 := (hb1).size; try simp at hz1; have hl10 : w.heap.size < w1.heap.size := (by omega))
        | (go_at_call 39; refine (rquote_c _ _ (by omega)).mono ?_; rintro e w2 ⟨rfl, hb2⟩))
      go_ret
      exact ⟨by rw [fmtV, if_neg H1.out, if_pos H2.out]; rfl, by (repeat (first | (with_reducible exact Below.refl _ _) | (with_reducible assumption) | (with_reducible refine Below.drew ?_) | (with_reducible refine below_drewN ?_ _) | ((with_reducible refine Below.setCell ?_ ?_ _); rotate_left; (focus (first | (simp; done) | (simp; omega) | omega))) | ((with_reducible refine Below.alloc ?_ ?_ _); rotate_left; (focus (first | (simp; done) | (simp; omega) | omega))) | ((with_reducible apply below_step1); (focus (with_reducible assumption)))))⟩
    · have H2 := Lib.hid h2
      have t2 : (v.cl.k == 2) = false := by simpa using h2
      clear h2
      go_enter Tryd.func24, Tryd.ntmps24
      go_wp2_with (first
        | (go_at_call 37; refine (rclean v _).mono ?_; rintro e w1 ⟨rfl, hb1⟩; obtain ⟨hc1, hf1⟩ := bcell hb1; have hz1 := (hb1).size; try simp at hz1; have hl10 : w.heap.size < w1.heap.size := (by omega)))
      go_ret
      exact ⟨by rw [fmtV, if_neg H1.out, if_neg H2.out]; rfl, by (repeat (first | (with_reducible exact Below.refl _ _) | (with_reducible assumption) | (with_reducible refine Below.drew ?_) | (with_reducible refine below_drewN ?_ _) | ((with_reducible refine Below.setCell ?_ ?_ _); rotate_left; (focus (first | (simp; done) | (simp; omega) | omega))) | ((with_reducible refine Below.alloc ?_ ?_ _); rotate_left; (focus (first | (simp; done) | (simp; omega) | omega))) | ((with_reducible apply below_step1); (focus (with_reducible assumption)))))⟩

end Go.Proofs.YtmbegmhgiekofaaDoor
