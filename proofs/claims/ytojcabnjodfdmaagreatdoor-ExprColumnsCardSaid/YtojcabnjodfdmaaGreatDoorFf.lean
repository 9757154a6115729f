/- Contract of the program's resultType. -/
import Derived.Test.YtojcabnjodfdmaaGreatDoorBc
namespace Go.Proofs.YtojcabnjodfdmaaGreatDoor
open Go.RowKit

abbrev RowI := @RowOf Int (fun z => [Value.int .i64 z])
theorem RowI.at1 {w : World} {B n : Nat} {A : Option Addr} {zs : List Int} (h : RowI w B A n zs) {k : Nat} (hk : k < n) :
   ∃ b off z, A = some ⟨b, off, none⟩ ∧ b < B ∧ zs[k]? = some z ∧ w.cell? ⟨b, off + k, none⟩ = some (.int .i64 z) := by
  obtain ⟨b, off, s, h1, h2, h3, h4⟩ := h.at_ 1 (fun _ => rfl) (by omega) hk
  have := h4 0 _ rfl
  rw [Nat.mul_one] at this
  exact ⟨b, off, s, h1, h2, h3, this⟩
def RtPost (w : World) (types : List Int) (t : T) (a b c : Int) (e : Ending) (w' : World) : Prop := ∃ (k : Int) (ok : Bool), e = .returned (.tuple #[.int .i64 k, .bool ok]) ∧ termT types t [a, b, c] = (if ok = true then .ok k else .error 5) ∧ Below w.heap.size w w'
theorem rt_end {w w' : World} {types : List Int} {t : T} {a b c k : Int} {ok : Bool} (h : termT types t [a, b, c] = (if ok = true then .ok k else .error 5)) (hb : Below w.heap.size w w') : RtPost w types t a b c (.returned (.tuple #[.int .i64 k, .bool ok])) w' := ⟨k, ok, rfl, h, hb⟩
set_option maxRecDepth 100000 in
set_option maxHeartbeats 4000000 in
theorem resultType_c (A : Option Addr) (n d : Nat) (types : List Int) (t : T) (a b c : Int) (w : World) (hn : n ≤ maxLen) (hop : 1 ≤ t.op ∧ t.op ≤ 18) (hc : t.op = 2 → 0 ≤ t.c ∧ t.c < (n : Int)) (hr : RowI w w.heap.size A n types) : Calls Tryz.prog 47 #[.agg #[.int .i64 t.op, .int .i64 t.v.k, .int .i64 t.v.n, .string t.v.s, .int .i64 t.c], .agg #[.int .i64 a, .int .i64 b, .int .i64 c], .slice A n d] w (RtPost w types t a b c) := by
  unfold maxLen at hn
  have hlen := hr.len
  obtain ⟨op, v, col⟩ := t
  simp only at hop hc ⊢
  by_cases h2 : op = 2
  · subst h2
    obtain ⟨c0, c1⟩ := hc rfl
    obtain ⟨i, rfl⟩ := Int.eq_ofNat_of_zero_le c0
    obtain ⟨b', off, z, rfl, hb, hz, hcell⟩ := RowI.at1 hr (show i < n by omega)
    have HR := Lib.hid (show termT types ⟨2, v, (i : Int)⟩ [a, b, c] = (if true = true then .ok z else .error 5) by
      unfold termT
      rw [if_neg (by simp; omega), if_neg (by simp), if_pos rfl]
      simp [List.getD_eq_getElem?_getD, hz])
    clear hz hlen hop hc
    go_enter Tryz.func47, Tryz.ntmps47
    go_wp2_with fail
    go_quiet (fail)
    go_wp2_with fail
    refine bodyPost_ret (by simp [results, Tryz.results47, go_sem]; rfl) rfl ?_
    exact rt_end HR.out (by (repeat (first | (with_reducible exact Below.refl _ _) | (with_reducible assumption) | (with_reducible refine Below.drew ?_) | (with_reducible refine below_drewN ?_ _) | ((with_reducible refine Below.setCell ?_ ?_ _); rotate_left; (focus (first | (simp; done) | (simp; omega) | omega))) | ((with_reducible refine Below.alloc ?_ ?_ _); rotate_left; (focus (first | (simp; done) | (simp; omega) | omega))) | ((with_reducible apply below_step1); (focus (with_reducible assumption))))))
  have HR := Lib.hid (show termT types ⟨op, v, col⟩ [a, b, c] = if op = 1 then .ok v.k else opT op a b c by
    unfold termT
    rw [if_neg (fun h => h2 h.1)]
    simp only [if_neg h2]
    rfl)
  clear hc hr hlen
  obtain rfl | rfl | rfl | rfl | rfl | rfl | rfl | rfl | rfl | rfl | rfl | rfl | rfl | rfl | rfl | rfl | rfl : op = 1 ∨ op = 3 ∨ op = 4 ∨ op = 5 ∨ op = 6 ∨ op = 7 ∨ op = 8 ∨ op = 9 ∨ op = 10 ∨ op = 11 ∨ op = 12 ∨ op = 13 ∨ op = 14 ∨ op = 15 ∨ op = 16 ∨ op = 17 ∨ op = 18 := by omega
  all_goals go_enter Tryz.func47, Tryz.ntmps47
  all_goals go_wp2_with fail
  all_goals go_quiet (fail)
  all_goals go_wp2_with fail
  all_goals refine bodyPost_ret (by simp [results, Tryz.results47, go_sem]; rfl) rfl ?_
  all_goals refine rt_end ?_ (by (repeat (first | (with_reducible exact Below.refl _ _) | (with_reducible assumption) | (with_reducible refine Below.drew ?_) | (with_reducible refine below_drewN ?_ _) | ((with_reducible refine Below.setCell ?_ ?_ _); rotate_left; (focus (first | (simp; done) | (simp; omega) | omega))) | ((with_reducible refine Below.alloc ?_ ?_ _); rotate_left; (focus (first | (simp; done) | (simp; omega) | omega))) | ((with_reducible apply below_step1); (focus (with_reducible assumption))))))
  all_goals rw [HR.out]
  all_goals simp_all [opT]
end Go.Proofs.YtojcabnjodfdmaaGreatDoor
