/- Contract of the laws' sanity check awake, where the table of powers of ten is as it is laid. -/
import Derived.Test.YtjlhapbahecpoaaDoorVk
import Derived.Test.YtjlhapbahecpoaaDoorVi
namespace Go.Proofs.YtjlhapbahecpoaaDoor
open Go.RowKit

theorem row_new (w : World) (cs : Array Value) (t : TypeId) (n : Nat) (vs : List V) (hn : vs.length = n) (hc : cs.toList = vs.flatMap V.cells) : Row (w.alloc (.cells cs t)) (w.heap.size + 1) (some ⟨w.heap.size, 0, none⟩) n vs := by
  refine ⟨hn, fun _ => ⟨w.heap.size, 0, rfl, by omega, fun j u hu => ?_⟩⟩
  rw [← hc] at hu
  have := new_cells w cs t j u hu
  have h8 : (⟨w.heap.size, 0, none⟩ : Addr).add j = ⟨w.heap.size, 0 + j, none⟩ := by
    unfold Addr.add
    split
    · subst_vars; rfl
    · simp
  rwa [h8] at this
def tAwake : V := ⟨2, 0, ⟨#[97, 34, 10]⟩⟩
def tA : V := ⟨2, 0, ⟨#[97]⟩⟩
theorem tAwake_ok : tAwake.ok = true := by decide
theorem tAwake_fmt : fmtV tAwake = [34, 97, 92, 50, 50, 92, 48, 97, 34] := by decide
theorem tA_enc : encRow [V.null, tA] = [1, 3, 97, 0, 0] := by decide

set_option maxRecDepth 100000 in
set_option maxHeartbeats 1000000 in
theorem awake_c (w : World) (hG : G w) : Calls Tryd.prog 14 #[] w fun e w' => e = .returned (.bool true) ∧ Below w.heap.size w w' := by
  go_enter Tryd.func14, Tryd.ntmps14
  go_wp2_with (first
    | (go_at_call 18; refine (vvalid tAwake _).mono ?_; rintro e w1 ⟨rfl, hb1⟩; rw [tAwake_ok]; obtain ⟨hc1, hf1⟩ := bcell hb1; have hz1 := (hb1).size; try simp at hz1)
    | (go_at_call 15; refine (vformat tAwake _ (by exact hG.below (by (repeat (first | (with_reducible exact Below.refl _ _) | (with_reducible assumption) | (with_reducible refine Below.drew ?_) | (with_reducible refine below_drewN ?_ _) | ((with_reducible refine Below.setCell ?_ ?_ _); rotate_left; (focus (first | (simp; done) | (simp; omega) | omega))) | ((with_reducible refine Below.alloc ?_ ?_ _); rotate_left; (focus (first | (simp; done) | (simp; omega) | omega))) | ((with_reducible apply below_step1); (focus (with_reducible assumption)))))))).mono ?_; rintro e w2 ⟨rfl, hb2⟩; rw [tAwake_fmt]; have hz2 := hb2.size)
    | (go_at_call 33; refine (vencodeRow _ 2 _ [V.null, tA] _ (by omega) (by exact (row_new w2 _ _ 2 [V.null, tA] rfl rfl).more (by simp))).mono ?_; rintro e w3 ⟨rfl, hb3⟩; rw [tA_enc]; have hz3 := hb3.size))
  go_ret
  exact ⟨rfl, by (repeat (first | (with_reducible exact Below.refl _ _) | (with_reducible assumption) | (with_reducible refine Below.drew ?_) | (with_reducible refine below_drewN ?_ _) | ((with_reducible refine Below.setCell ?_ ?_ _); rotate_left; (focus (first | (simp; done) | (simp; omega) | omega))) | ((with_reducible refine Below.alloc ?_ ?_ _); rotate_left; (focus (first | (simp; done) | (simp; omega) | omega))) | ((with_reducible apply below_step1); (focus (with_reducible assumption)))))⟩
end Go.Proofs.YtjlhapbahecpoaaDoor
