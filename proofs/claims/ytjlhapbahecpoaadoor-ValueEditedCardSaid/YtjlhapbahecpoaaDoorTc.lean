/- Contracts of the tape's New and Row. The tape has fewer than 2^44 numbers, rows fewer than a thousand values. -/
import Derived.Test.YtjlhapbahecpoaaDoorTb
import Derived.Test.YtjlhapbahecpoaaDoorAppAny
namespace Go.Proofs.YtjlhapbahecpoaaDoor
open Go.RowKit

theorem stI : SliceTy Tryd.prog 35 3 1 8 := SliceTy.mk' Tryd.underlying35 (z := .int .i64 0) (by kernel_rfl) rfl (by decide) (by decide)
def icells (l : List Int) : List Value := l.map fun n => .int .i64 n
theorem icells_one (l : List Int) : ∀ u ∈ icells l, u.oneCell' = true := by
  intro u hu
  obtain ⟨c, _, rfl⟩ := List.mem_map.1 hu
  rfl
/-- A slice of ints that came in. -/
structure IntsR (w : World) (A : Option Addr) (n c : Nat) (zs : List Int) : Prop where
  len : zs.length = n
  none_ : A = none → n = 0 ∧ c = 0
  size : n ≤ 17592186044416
  rd : Rd w w.heap.size A (icells zs)

def NewPost (w : World) (e : Ending) (w' : World) : Prop := ∃ b g, e = .returned (.pointer (some ⟨b, 0, none⟩)) ∧ Tp w' b g ∧ w.heap.size ≤ b ∧ w.heap.size ≤ g ∧ Below w.heap.size w w'
set_option maxRecDepth 100000 in
set_option maxHeartbeats 1000000 in
theorem new_c (A : Option Addr) (n c : Nat) (zs : List Int) (w : World) (h : IntsR w A n c zs) :
    Calls Tryd.prog 28 #[.slice A n c] w (NewPost w) := by
  obtain ⟨h1, h2, h3, h4⟩ := h
  have H2 := Lib.hid (fun e => (h2 e).2)
  clear h2
  go_enter Tryd.func28, Tryd.ntmps28
  go_wp2_with (at_builtin; refine wpList_appAny (v := .slice (some ⟨w.heap.size, 0, none⟩) 0 0) rfl _ _ stI rfl rfl (own_new w #[] 3 1 0 (by decide) rfl) rfl (news := icells zs) (by simp [icells, h1]) (h4.keep fun p hp => World.cell?_alloc_lt w _ p hp) H2.out (icells_one _) (by omega) (by simp) ?_; intro v2 w2 own2 hg2 hat2; obtain ⟨A2, c2, hv2, _, _⟩ := own_slice own2; rw [hv2] at own2 ⊢)
  go_ret
  have hz2 := hg2.size
  simp at hz2
  have hb : Below w.heap.size w w2 := ⟨hg2.os, hg2.tape, hg2.output, by omega, fun k hk => (hg2.block k (by simp; omega) (by simp [Value.ownBlock]; omega)).trans (Below.heap_alloc w _ k hk)⟩
  have tp : ∃ g, w.heap.size ≤ g ∧ Tp (w2.alloc (.cells #[.slice A2 (0 + n) c2, .int .i64 0] 59)) w2.heap.size g := by
    rcases own2.2 with ⟨e1, e2⟩ | ⟨g, cap, cur, e1, e2, e3, _⟩
    · refine ⟨w.heap.size, Nat.le_refl _, by omega, by simp, by simp; omega, A2, 0 + n, c2, 0, 0, heap_alloc_new _ _, by omega, by omega, fun h0 => absurd e2 (by omega)⟩
    · injection e1 with e1 _ _
      subst e1
      have hgl : g < w2.heap.size := by
        rcases Nat.lt_or_ge g w2.heap.size with hl | hl
        · exact hl
        · rw [Array.getElem?_eq_none hl] at e3; cases e3
      refine ⟨g, e2, by omega, by simp, by simp; omega, _, 0 + n, c2, 0, 0, heap_alloc_new _ _, by omega, by omega, fun h0 => ⟨rfl, fun j hj => ?_⟩⟩
      have hjl : j < zs.length := by omega
      have hc := own2.cells (g := g) (by simp [Value.ownBlock]) j (.int .i64 zs[j]) (by simp [icells, hjl])
      rw [addr_add0] at hc
      exact ⟨zs[j], (World.cell?_alloc_lt w2 _ ⟨g, 0 + j, none⟩ hgl).trans hc⟩
  obtain ⟨g, hg, tp⟩ := tp
  rw [Nat.zero_add] at tp
  exact ⟨w2.heap.size, g, rfl, tp, by omega, hg, hb.alloc (by omega) _⟩

/-- What Row leaves: a new row of at most n valid values. -/
def RowPost (w : World) (b g n : Nat) (e : Ending) (w' : World) : Prop :=
  ∃ (o : Value) (vs : List V), e = .returned o ∧ w'.ownsRow w.heap.size 23 3 o vs.length (vs.flatMap V.cells) ∧ (∀ v ∈ vs, v.ok = true) ∧ vs.length ≤ n ∧ Tp w' b g ∧ w.grownBy w' (some b)
set_option maxRecDepth 100000 in
set_option maxHeartbeats 1000000 in
theorem trow (b g n : Nat) (w : World) (hn : n ≤ 1000) (h : Tp w b g) : Calls Tryd.prog 29 #[.pointer (some ⟨b, 0, none⟩), .int .i64 (n : Int)] w (RowPost w b g n) := by
  have hlt := h.lt
  have hltg := h.ltg
  go_enter Tryd.func29, Tryd.ntmps29
  go_wp2_with (go_at_call 31; refine (next_c b g _ _ (by omega) h).mono ?_; rintro e w1 ⟨r, rfl, hr, ht1, hg1, hz1⟩)
  go_loopw [5, 6] (fun u i wr => ∃ (k : Nat) (vs : List V), i = .int .i64 k ∧ vs.length + k ≤ n ∧ wr.ownsRow w.heap.size 23 3 u vs.length (vs.flatMap V.cells) ∧ (∀ v ∈ vs, v.ok = true) ∧ Tp wr b g ∧ w.grownBy wr (some b)) (fun _ i _ => (intOf i).toNat)
  case atStart => exact ⟨r, [], rfl, by simp; omega, World.ownsRow_nil _ _ _ _, by simp, ht1, hg1⟩
  case round =>
    obtain ⟨k, vs, rfl, hk, hown, hok, htr, hgr⟩ := hrel
    have hzz := hgr.size
    have HO := Lib.hid hok
    clear hok
    by_cases hk0 : 0 < k
    · have hk1 : (0 : Int) < (k : Int) := by omega
      have hne : u5.ownBlock ≠ some b := fun e => by have := (hown.lt _ e).1; omega
      go_wp2_with (first
        | (go_at_call 32; refine (tvalue b g _ htr).mono ?_; rintro e w2 ⟨v, rfl, hv, ht2, hg2⟩; have hz2 := hg2.size; have own2 := hown.kept hg2 (.inr hne))
        | (at_builtin; refine wpList_app (v := u5) rfl _ _ stV rfl rfl (own2) rfl (by simp) rfl (by simp [Value.oneCell']) (by omega) (by omega) ?_; intro v' w3 own3 hg3 hat3))
      have ht3 : Tp w3 b g := ht2.grown hg3 hne (fun e => by have := (hown.lt _ e).1; omega)
      have hg3' : w.grownBy w3 (some b) := by
        refine ⟨hg3.os.trans (hg2.os.trans hgr.os), hg3.tape.trans (hg2.tape.trans hgr.tape), hg3.output.trans (hg2.output.trans hgr.output), by have := hg3.size; omega, fun i hi hib => ?_⟩
        refine (hg3.block i (by omega) (fun e => ?_)).trans ((hg2.block i (by omega) hib).trans (hgr.block i hi hib))
        have := (hown.lt i e.symm).1
        omega
      go_roundw
      case rel =>
        refine ⟨k - 1, vs ++ [v], by go_num, by simp; omega, by simpa [V.cells] using own3, ?_, ht3, hg3'⟩
        intro x hx
        rcases List.mem_append.1 hx with h' | h'
        · exact HO.out x h'
        · simp at h'; subst h'; exact hv
      case measure => simp [intOf]; omega
    · obtain rfl : k = 0 := by omega
      go_wp2
      go_ret
      exact ⟨_, vs, rfl, hown, HO.out, by omega, htr, hgr⟩
end Go.Proofs.YtjlhapbahecpoaaDoor
