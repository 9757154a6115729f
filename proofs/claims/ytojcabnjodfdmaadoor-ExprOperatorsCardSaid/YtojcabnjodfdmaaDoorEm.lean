/- Contracts of the laws' plus and awake; the table of powers of ten is as it is laid. -/
import Derived.Test.YtojcabnjodfdmaaDoorEl
import Derived.Test.YtojcabnjodfdmaaDoorTb
import Derived.Test.YtojcabnjodfdmaaDoorOpenT
namespace Go.Proofs.YtojcabnjodfdmaaDoor
open Go.RowKit

def tAdd : T := ⟨4, V.null, 0⟩
def tCol (c : Int) : T := ⟨2, V.null, c⟩
def tCst (v : V) : T := ⟨1, v, 0⟩
def int1 : V := ⟨1, 1, ⟨#[]⟩⟩
def int4 : V := ⟨1, 4, ⟨#[]⟩⟩
def int5 : V := ⟨1, 5, ⟨#[]⟩⟩
def plusT : List T := [tAdd, tCol 0, tCst int1]
def plusX : X := .node tAdd [.node (tCol 0) [], .node (tCst int1) []]
theorem plus_flat : plusX.flat = plusT := by simp [plusX, plusT, X.flat, flats]
theorem plus_wf : plusX.wf = true := by
  simp only [plusX, X.wf, wfs, List.length_cons, List.length_nil]
  decide
theorem plus_tree : treeE plusT = some plusX := by
  rw [← plus_flat]
  exact treeE_flat (by rw [plus_flat]; decide) plus_wf (by simp [plusX, X.depth, deepest])
theorem plus_valid : validE plusT = true := (validE_iff _).2 ⟨by decide, plusX, plus_flat.symm, plus_wf, by simp [plusX, X.depth, deepest]⟩
theorem plus_ev4 : evalE plusT [int4] = int5 := by
  unfold evalE
  rw [plus_tree]
  simp only [plusX, X.ev, evs, termV]
  rfl
theorem plus_ev0 : evalE plusT [V.null] = V.null := by
  unfold evalE
  rw [plus_tree]
  simp only [plusX, X.ev, evs, termV]
  rfl
theorem plus_fmt : formatE plusT [⟨#[110]⟩] = [97, 100, 100, 40, 110, 44, 32, 49, 41] := by
  unfold formatE
  rw [plus_tree]
  simp only [plusX, X.fmt, fmts, termF]
  decide +kernel
theorem rowOf_new {α : Type} {cells : α → List Value} (w : World) (cs : Array Value) (t : TypeId) (n : Nat) (vs : List α) (hn : vs.length = n) (hc : cs.toList = vs.flatMap cells) : RowOf cells (w.alloc (.cells cs t)) (w.alloc (.cells cs t)).heap.size (some ⟨w.heap.size, 0, none⟩) n vs := by
  refine ⟨hn, fun _ => ⟨w.heap.size, 0, rfl, by simp, fun j u hu => ?_⟩⟩
  rw [← hc] at hu
  have := new_cells w cs t j u hu
  have h8 : (⟨w.heap.size, 0, none⟩ : Addr).add j = ⟨w.heap.size, 0 + j, none⟩ := by
    unfold Addr.add
    split
    · subst_vars; rfl
    · simp
  rwa [h8] at this
theorem RowOf.to {α : Type} {cells : α → List Value} {w w' : World} {A : Option Addr} {n : Nat} {xs : List α} (h : RowOf cells w w.heap.size A n xs) (hb : Below w.heap.size w w') : RowOf cells w' w'.heap.size A n xs := (h.below hb).more hb.size
def PlPost (w : World) (e : Ending) (w' : World) : Prop := ∃ b, e = .returned (.slice (some ⟨b, 0, none⟩) 3 3) ∧ Below w.heap.size w w' ∧ RowT w' w'.heap.size (some ⟨b, 0, none⟩) 3 plusT
set_option maxRecDepth 100000 in
set_option maxHeartbeats 1000000 in
theorem plus_c (w : World) : Calls Tryd.prog 44 #[] w (PlPost w) := by
  go_enter Tryd.func44, Tryd.ntmps44
  go_wp2_with (go_at_call 22; refine (rint 1 _).mono ?_; rintro e w1 ⟨rfl, hb1⟩; have hz1 := hb1.size; (try simp at hz1); rw [show (V.mk 1 1 ⟨#[]⟩).cl = int1 from rfl])
  go_ret
  exact ⟨w1.heap.size, rfl, by (repeat (first | (with_reducible exact Below.refl _ _) | (with_reducible assumption) | (with_reducible refine Below.drew ?_) | (with_reducible refine below_drewN ?_ _) | ((with_reducible refine Below.setCell ?_ ?_ _); rotate_left; (focus (first | (simp; done) | (simp; omega) | omega))) | ((with_reducible refine Below.alloc ?_ ?_ _); rotate_left; (focus (first | (simp; done) | (simp; omega) | omega))) | ((with_reducible apply below_step1); (focus (with_reducible assumption))))), rowOf_new w1 _ _ 3 plusT rfl rfl⟩
set_option maxRecDepth 100000 in
set_option maxHeartbeats 2000000 in
theorem awake_c (w : World) (hG : G w) : Calls Tryd.prog 20 #[] w fun e w' => e = .returned (.bool true) ∧ Below w.heap.size w w' := by
  have q5 : ∀ w, (binOp .eql 34 (.agg #[.int .i64 int5.k, .int .i64 int5.n, .string int5.s]) (.agg #[.int .i64 int5.k, .int .i64 int5.n, .string int5.s])).run Tryd.prog w = .ok (.bool true) w := fun w => run_eqV _ _ _ _ _ _ w
  have q0 : ∀ w, (binOp .eql 34 (.agg #[.int .i64 V.null.k, .int .i64 V.null.n, .string V.null.s]) (.agg #[.int .i64 0, .int .i64 0, .string ⟨#[]⟩])).run Tryd.prog w = .ok (.bool true) w := fun w => run_eqV _ _ _ _ _ _ w
  go_enter Tryd.func20, Tryd.ntmps20
  go_wp2_with (first
    | (go_at_call 44; refine (plus_c w).mono ?_; rintro e w1 ⟨b1, rfl, hb1, hr1⟩; have hz1 := hb1.size; (try simp at hz1))
    | (go_at_call 18; refine (xvalidE _ _ _ _ _ (by decide) hr1).mono ?_; rintro e w2 ⟨rfl, hb2⟩; have hz2 := hb2.size; (try simp at hz2); rw [plus_valid])
    | (go_at_call 44; refine (plus_c w2).mono ?_; rintro e w3 ⟨b3, rfl, hb3, hr3⟩; have hz3 := hb3.size; (try simp at hz3))
    | (go_at_call 22; refine (rint 4 _).mono ?_; rintro e w4 ⟨rfl, hb4⟩; have hz4 := hb4.size; (try simp at hz4); rw [show (V.mk 1 4 ⟨#[]⟩).cl = int4 from rfl])
    | (go_at_call 24; refine (xeval _ _ _ _ _ _ plusT [int4] _ (by decide) (by decide) (by exact hr3.to (by (repeat (first | (with_reducible exact Below.refl _ _) | (with_reducible assumption) | (with_reducible refine Below.drew ?_) | (with_reducible refine below_drewN ?_ _) | ((with_reducible refine Below.setCell ?_ ?_ _); rotate_left; (focus (first | (simp; done) | (simp; omega) | omega))) | ((with_reducible refine Below.alloc ?_ ?_ _); rotate_left; (focus (first | (simp; done) | (simp; omega) | omega))) | ((with_reducible apply below_step1); (focus (with_reducible assumption))))))) (by exact rowOf_new w4 _ _ 1 [int4] rfl rfl)).mono ?_; rintro e w5 ⟨rfl, hb5⟩; have hz5 := hb5.size; (try simp at hz5); rw [plus_ev4])
    | (go_at_call 22; refine (rint 5 _).mono ?_; rintro e w6 ⟨rfl, hb6⟩; have hz6 := hb6.size; (try simp at hz6); rw [show (V.mk 1 5 ⟨#[]⟩).cl = int5 from rfl])
    | (go_at_call 44; refine (plus_c w6).mono ?_; rintro e w7 ⟨b7, rfl, hb7, hr7⟩; have hz7 := hb7.size; (try simp at hz7))
    | (go_at_call 24; refine (xeval _ _ _ _ _ _ plusT [V.null] _ (by decide) (by decide) (by exact hr7.to (by (repeat (first | (with_reducible exact Below.refl _ _) | (with_reducible assumption) | (with_reducible refine Below.drew ?_) | (with_reducible refine below_drewN ?_ _) | ((with_reducible refine Below.setCell ?_ ?_ _); rotate_left; (focus (first | (simp; done) | (simp; omega) | omega))) | ((with_reducible refine Below.alloc ?_ ?_ _); rotate_left; (focus (first | (simp; done) | (simp; omega) | omega))) | ((with_reducible apply below_step1); (focus (with_reducible assumption))))))) (by exact rowOf_new w7 _ _ 1 [V.null] rfl rfl)).mono ?_; rintro e w8 ⟨rfl, hb8⟩; have hz8 := hb8.size; (try simp at hz8); rw [plus_ev0])
    | (go_at_call 44; refine (plus_c w8).mono ?_; rintro e w9 ⟨b9, rfl, hb9, hr9⟩; have hz9 := hb9.size; (try simp at hz9))
    | (go_at_call 26; refine (xformat _ _ _ _ _ _ plusT [⟨#[110]⟩] _ (by decide) (by decide) (by intro s hs; simp at hs; subst hs; decide) (by exact hG.below (by (repeat (first | (with_reducible exact Below.refl _ _) | (with_reducible assumption) | (with_reducible refine Below.drew ?_) | (with_reducible refine below_drewN ?_ _) | ((with_reducible refine Below.setCell ?_ ?_ _); rotate_left; (focus (first | (simp; done) | (simp; omega) | omega))) | ((with_reducible refine Below.alloc ?_ ?_ _); rotate_left; (focus (first | (simp; done) | (simp; omega) | omega))) | ((with_reducible apply below_step1); (focus (with_reducible assumption))))))) (by exact hr9.to (by (repeat (first | (with_reducible exact Below.refl _ _) | (with_reducible assumption) | (with_reducible refine Below.drew ?_) | (with_reducible refine below_drewN ?_ _) | ((with_reducible refine Below.setCell ?_ ?_ _); rotate_left; (focus (first | (simp; done) | (simp; omega) | omega))) | ((with_reducible refine Below.alloc ?_ ?_ _); rotate_left; (focus (first | (simp; done) | (simp; omega) | omega))) | ((with_reducible apply below_step1); (focus (with_reducible assumption))))))) (by exact rowOf_new (cells := fun s => [Value.string s]) w9 _ _ 1 [(⟨#[110]⟩ : ByteArray)] rfl rfl)).mono ?_; rintro e w10 ⟨rfl, hb10⟩; have hz10 := hb10.size; (try simp at hz10); rw [plus_fmt]))
  go_ret
  exact ⟨rfl, by (repeat (first | (with_reducible exact Below.refl _ _) | (with_reducible assumption) | (with_reducible refine Below.drew ?_) | (with_reducible refine below_drewN ?_ _) | ((with_reducible refine Below.setCell ?_ ?_ _); rotate_left; (focus (first | (simp; done) | (simp; omega) | omega))) | ((with_reducible refine Below.alloc ?_ ?_ _); rotate_left; (focus (first | (simp; done) | (simp; omega) | omega))) | ((with_reducible apply below_step1); (focus (with_reducible assumption)))))⟩
end Go.Proofs.YtojcabnjodfdmaaDoor
