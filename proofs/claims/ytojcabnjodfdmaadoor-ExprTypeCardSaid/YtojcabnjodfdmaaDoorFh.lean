/- Contracts of the reference's typed. -/
import Derived.Test.YtojcabnjodfdmaaDoorFg
import Derived.Test.YtojcabnjodfdmaaDoorBd
namespace Go.Proofs.YtojcabnjodfdmaaDoor
open Go.RowKit

/-- The type of an operator; 0 if the operands' types do not fit. -/
def tyd (op a b c : Int) : Int := match opT op a b c with
  | .ok k => k
  | .error _ => 0
def TdPost (w : World) (v : Int) (e : Ending) (w' : World) : Prop := e = .returned (.int .i64 v) ∧ Below w.heap.size w w'
theorem td_end {w w' : World} {k v : Int} (h : k = v) (hb : Below w.heap.size w w') : TdPost w v (.returned (.int .i64 k)) w' := ⟨by rw [h], hb⟩
set_option maxRecDepth 100000 in
set_option maxHeartbeats 4000000 in
theorem typed1 (op a : Int) (b off c : Nat) (w : World) (hop : op = 3 ∨ op = 9 ∨ op = 13 ∨ op = 16) (c0 : w.cell? ⟨b, off, none⟩ = some (.int .i64 a)) : Calls Tryd.prog 77 #[.int .i64 op, .slice (some ⟨b, off, none⟩) 1 c] w (TdPost w (tyd op a 0 0)) := by
  obtain rfl | rfl | rfl | rfl := hop
  all_goals go_enter Tryd.func77, Tryd.ntmps77
  all_goals go_wp2_with fail
  all_goals go_ret
  all_goals refine td_end ?_ (by (repeat (first | (with_reducible exact Below.refl _ _) | (with_reducible assumption) | (with_reducible refine Below.drew ?_) | (with_reducible refine below_drewN ?_ _) | ((with_reducible refine Below.setCell ?_ ?_ _); rotate_left; (focus (first | (simp; done) | (simp; omega) | omega))) | ((with_reducible refine Below.alloc ?_ ?_ _); rotate_left; (focus (first | (simp; done) | (simp; omega) | omega))) | ((with_reducible apply below_step1); (focus (with_reducible assumption))))))
  all_goals simp_all [tyd, opT]
set_option maxRecDepth 100000 in
set_option maxHeartbeats 4000000 in
theorem typed2 (op a z : Int) (b off c : Nat) (w : World) (hop : op = 4 ∨ op = 5 ∨ op = 6 ∨ op = 7 ∨ op = 8 ∨ op = 10 ∨ op = 14 ∨ op = 15) (c0 : w.cell? ⟨b, off, none⟩ = some (.int .i64 a)) (c1 : w.cell? ⟨b, off + 1, none⟩ = some (.int .i64 z)) : Calls Tryd.prog 77 #[.int .i64 op, .slice (some ⟨b, off, none⟩) 2 c] w (TdPost w (tyd op a z 0)) := by
  obtain rfl | rfl | rfl | rfl | rfl | rfl | rfl | rfl := hop
  all_goals go_enter Tryd.func77, Tryd.ntmps77
  all_goals go_wp2_with fail
  all_goals go_ret
  all_goals refine td_end ?_ (by (repeat (first | (with_reducible exact Below.refl _ _) | (with_reducible assumption) | (with_reducible refine Below.drew ?_) | (with_reducible refine below_drewN ?_ _) | ((with_reducible refine Below.setCell ?_ ?_ _); rotate_left; (focus (first | (simp; done) | (simp; omega) | omega))) | ((with_reducible refine Below.alloc ?_ ?_ _); rotate_left; (focus (first | (simp; done) | (simp; omega) | omega))) | ((with_reducible apply below_step1); (focus (with_reducible assumption))))))
  all_goals simp_all [tyd, opT]
set_option maxRecDepth 100000 in
set_option maxHeartbeats 4000000 in
theorem typed3 (op a z : Int) (b off c : Nat) (w : World) (hop : op = 11 ∨ op = 12 ∨ op = 17) (c0 : w.cell? ⟨b, off, none⟩ = some (.int .i64 a)) (c1 : w.cell? ⟨b, off + 1, none⟩ = some (.int .i64 z)) : Calls Tryd.prog 77 #[.int .i64 op, .slice (some ⟨b, off, none⟩) 2 c] w (TdPost w (tyd op a z 0)) := by
  by_cases h : a = z
  · have t : (a == z) = true := by simpa using h
    have HE := Lib.hid h
    clear h
    obtain rfl | rfl | rfl := hop
    all_goals go_enter Tryd.func77, Tryd.ntmps77
    all_goals go_wp2_with fail
    all_goals go_quiet (fail)
    all_goals go_wp2_with fail
    all_goals go_ret
    all_goals refine td_end ?_ (by (repeat (first | (with_reducible exact Below.refl _ _) | (with_reducible assumption) | (with_reducible refine Below.drew ?_) | (with_reducible refine below_drewN ?_ _) | ((with_reducible refine Below.setCell ?_ ?_ _); rotate_left; (focus (first | (simp; done) | (simp; omega) | omega))) | ((with_reducible refine Below.alloc ?_ ?_ _); rotate_left; (focus (first | (simp; done) | (simp; omega) | omega))) | ((with_reducible apply below_step1); (focus (with_reducible assumption))))))
    all_goals have := HE.out
    all_goals simp [tyd, opT, this]
  · have t : (a == z) = false := by simpa using h
    have HE := Lib.hid h
    clear h
    obtain rfl | rfl | rfl := hop
    all_goals go_enter Tryd.func77, Tryd.ntmps77
    all_goals go_wp2_with fail
    all_goals go_quiet (fail)
    all_goals go_wp2_with fail
    all_goals go_ret
    all_goals refine td_end ?_ (by (repeat (first | (with_reducible exact Below.refl _ _) | (with_reducible assumption) | (with_reducible refine Below.drew ?_) | (with_reducible refine below_drewN ?_ _) | ((with_reducible refine Below.setCell ?_ ?_ _); rotate_left; (focus (first | (simp; done) | (simp; omega) | omega))) | ((with_reducible refine Below.alloc ?_ ?_ _); rotate_left; (focus (first | (simp; done) | (simp; omega) | omega))) | ((with_reducible apply below_step1); (focus (with_reducible assumption))))))
    all_goals have := HE.out
    all_goals simp [tyd, opT, this]
set_option maxRecDepth 100000 in
set_option maxHeartbeats 4000000 in
theorem typed4 (a z y : Int) (b off c : Nat) (w : World) (c0 : w.cell? ⟨b, off, none⟩ = some (.int .i64 a)) (c1 : w.cell? ⟨b, off + 1, none⟩ = some (.int .i64 z)) (c2 : w.cell? ⟨b, off + 2, none⟩ = some (.int .i64 y)) : Calls Tryd.prog 77 #[.int .i64 18, .slice (some ⟨b, off, none⟩) 3 c] w (TdPost w (tyd 18 a z y)) := by
  by_cases h : a = 1
  · have t : (a == 1) = true := by simpa using h
    have HE := Lib.hid h
    clear h
    by_cases h2 : z = y
    · have t2 : (z == y) = true := by simpa using h2
      have HE2 := Lib.hid h2
      clear h2
      go_enter Tryd.func77, Tryd.ntmps77
      go_wp2_with fail
      go_quiet (fail)
      go_wp2_with fail
      go_ret
      refine td_end ?_ (by (repeat (first | (with_reducible exact Below.refl _ _) | (with_reducible assumption) | (with_reducible refine Below.drew ?_) | (with_reducible refine below_drewN ?_ _) | ((with_reducible refine Below.setCell ?_ ?_ _); rotate_left; (focus (first | (simp; done) | (simp; omega) | omega))) | ((with_reducible refine Below.alloc ?_ ?_ _); rotate_left; (focus (first | (simp; done) | (simp; omega) | omega))) | ((with_reducible apply below_step1); (focus (with_reducible assumption))))))
      have := HE.out
      have := HE2.out
      simp_all [tyd, opT]
    · have t2 : (z == y) = false := by simpa using h2
      have HE2 := Lib.hid h2
      clear h2
      go_enter Tryd.func77, Tryd.ntmps77
      go_wp2_with fail
      go_quiet (fail)
      go_wp2_with fail
      go_ret
      refine td_end ?_ (by (repeat (first | (with_reducible exact Below.refl _ _) | (with_reducible assumption) | (with_reducible refine Below.drew ?_) | (with_reducible refine below_drewN ?_ _) | ((with_reducible refine Below.setCell ?_ ?_ _); rotate_left; (focus (first | (simp; done) | (simp; omega) | omega))) | ((with_reducible refine Below.alloc ?_ ?_ _); rotate_left; (focus (first | (simp; done) | (simp; omega) | omega))) | ((with_reducible apply below_step1); (focus (with_reducible assumption))))))
      have := HE.out
      have := HE2.out
      simp_all [tyd, opT]
  · have t : (a == 1) = false := by simpa using h
    have HE := Lib.hid h
    clear h
    go_enter Tryd.func77, Tryd.ntmps77
    go_wp2_with fail
    go_quiet (fail)
    go_wp2_with fail
    go_ret
    refine td_end ?_ (by (repeat (first | (with_reducible exact Below.refl _ _) | (with_reducible assumption) | (with_reducible refine Below.drew ?_) | (with_reducible refine below_drewN ?_ _) | ((with_reducible refine Below.setCell ?_ ?_ _); rotate_left; (focus (first | (simp; done) | (simp; omega) | omega))) | ((with_reducible refine Below.alloc ?_ ?_ _); rotate_left; (focus (first | (simp; done) | (simp; omega) | omega))) | ((with_reducible apply below_step1); (focus (with_reducible assumption))))))
    have := HE.out
    simp_all [tyd, opT]
theorem rtyped (op : Int) (A : Option Addr) (n c : Nat) (zs : List Int) (w : World) (hop : 3 ≤ op ∧ op ≤ 18) (hl : zs.length = ar op) (hr : RowI w w.heap.size A n zs) : Calls Tryd.prog 77 #[.int .i64 op, .slice A n c] w (TdPost w (tyd op (zs.getD 0 0) (zs.getD 1 0) (zs.getD 2 0))) := by
  have hn := hr.len
  have hat : ∀ b off, A = some ⟨b, off, none⟩ → ∀ (k : Nat) z, zs[k]? = some z → w.cell? ⟨b, off + k, none⟩ = some (.int .i64 z) := by
    intro b off hA k z hk
    have hkn : k < n := by have := (List.getElem?_eq_some_iff.1 hk).1; omega
    obtain ⟨b', off', z', e1, _, e2, e3⟩ := RowI.at1 hr hkn
    rw [hA] at e1
    injection e1 with e1
    injection e1 with e11 e12
    subst e11 e12
    obtain rfl := Option.some.inj (e2.symm.trans hk)
    exact e3
  have hA : 0 < n → ∃ b off, A = some ⟨b, off, none⟩ := by
    intro h0
    obtain ⟨b', off', z', e1, _⟩ := RowI.at1 hr h0
    exact ⟨b', off', e1⟩
  match zs, hl, hn, hat with
  | [], hl, _, _ =>
    exfalso
    simp only [List.length_nil] at hl
    unfold ar arity at hl
    split at hl
    · omega
    · split at hl
      · simp at hl
      · split at hl
        · simp at hl
        · split at hl
          · simp at hl
          · omega
  | [a], hl, hn, hat =>
    simp only [List.length_cons, List.length_nil] at hl hn
    subst hn
    obtain ⟨b, off, rfl⟩ := hA (by omega)
    exact typed1 op a b off c w (ar_one hl.symm) (hat b off rfl 0 a rfl)
  | [a, z], hl, hn, hat =>
    simp only [List.length_cons, List.length_nil] at hl hn
    subst hn
    obtain ⟨b, off, rfl⟩ := hA (by omega)
    have h0 := hat b off rfl 0 a rfl
    have h1 := hat b off rfl 1 z rfl
    rcases ar_two hl.symm with h | h | h | h | h | h | h | h | h | h | h
    · exact typed2 op a z b off c w (by omega) h0 h1
    · exact typed2 op a z b off c w (by omega) h0 h1
    · exact typed2 op a z b off c w (by omega) h0 h1
    · exact typed2 op a z b off c w (by omega) h0 h1
    · exact typed2 op a z b off c w (by omega) h0 h1
    · exact typed2 op a z b off c w (by omega) h0 h1
    · exact typed3 op a z b off c w (by omega) h0 h1
    · exact typed3 op a z b off c w (by omega) h0 h1
    · exact typed2 op a z b off c w (by omega) h0 h1
    · exact typed2 op a z b off c w (by omega) h0 h1
    · exact typed3 op a z b off c w (by omega) h0 h1
  | [a, z, y], hl, hn, hat =>
    simp only [List.length_cons, List.length_nil] at hl hn
    subst hn
    obtain ⟨b, off, rfl⟩ := hA (by omega)
    obtain rfl := ar_three hl.symm
    exact typed4 a z y b off c w (hat b off rfl 0 a rfl) (hat b off rfl 1 z rfl) (hat b off rfl 2 y rfl)
  | a :: z :: y :: u :: r, hl, _, _ => have := ar_le op; simp at hl; omega
end Go.Proofs.YtojcabnjodfdmaaDoor
