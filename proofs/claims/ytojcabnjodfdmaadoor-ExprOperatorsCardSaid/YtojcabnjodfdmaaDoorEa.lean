/- Contracts of Arity and of the validity of a term, of the program and of the reference. No condition. -/
import Derived.Test.YtojcabnjodfdmaaDoorXSpec
import Derived.Test.YtojcabnjodfdmaaDoorVeq
namespace Go.Proofs.YtojcabnjodfdmaaDoor
open Go.RowKit

abbrev RowT := @RowOf T T.cells
theorem RowT.at5 {w : World} {B n : Nat} {A : Option Addr} {ts : List T} (h : RowT w B A n ts) {k : Nat} (hk : k < n) :
   ∃ b off t, A = some ⟨b, off, none⟩ ∧ b < B ∧ ts[k]? = some t ∧ w.cell? ⟨b, off + k * 5, none⟩ = some (.int .i64 t.op) ∧ w.cell? ⟨b, off + k * 5 + 1, none⟩ = some (.int .i64 t.v.k) ∧ w.cell? ⟨b, off + k * 5 + 2, none⟩ = some (.int .i64 t.v.n) ∧ w.cell? ⟨b, off + k * 5 + 3, none⟩ = some (.string t.v.s) ∧ w.cell? ⟨b, off + k * 5 + 4, none⟩ = some (.int .i64 t.c) := by
  obtain ⟨b, off, t, h1, h2, h3, h4⟩ := h.at_ 5 (fun _ => rfl) (by omega) hk
  exact ⟨b, off, t, h1, h2, h3, h4 0 _ rfl, h4 1 _ rfl, h4 2 _ rfl, h4 3 _ rfl, h4 4 _ rfl⟩
theorem stT : SliceTy Tryd.prog 23 36 5 48 := SliceTy.mk' Tryd.underlying23 (z := .agg #[.int .i64 0, .int .i64 0, .int .i64 0, .string ⟨#[]⟩, .int .i64 0]) (by kernel_rfl) rfl (by decide) (by decide)

set_option maxHeartbeats 400000 in
theorem xarity (op : Int) (w : World) : Calls Tryd.prog 16 #[.int .i64 op] w fun e w' => e = .returned (.int .i64 (arity op)) ∧ w = w' := by
  go_enter Tryd.func16, Tryd.ntmps16
  go_wp2
  all_goals go_ret
  all_goals refine ⟨ret_int ?_, rfl⟩
  all_goals simp_all [arity]
  all_goals (first | done | omega)
set_option maxHeartbeats 400000 in
theorem rarity (op : Int) (w : World) : Calls Tryd.prog 17 #[.int .i64 op] w fun e w' => e = .returned (.int .i64 (arity op)) ∧ w = w' := by
  go_enter Tryd.func17, Tryd.ntmps17
  go_wp2
  all_goals go_ret
  all_goals refine ⟨ret_int ?_, rfl⟩
  all_goals simp_all [arity]
  all_goals (first | done | omega)
end Go.Proofs.YtojcabnjodfdmaaDoor
