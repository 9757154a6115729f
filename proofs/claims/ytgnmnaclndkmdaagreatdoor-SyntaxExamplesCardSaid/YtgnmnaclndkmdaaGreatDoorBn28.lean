/- The parser of declarations only goes forward: lists, tables, views and the rest. Plain Lean, no condition. Contract of declaration. The numbers of the tokens are from 0 to 2^32. Written by a small program. -/
import Derived.Test.YtgnmnaclndkmdaaGreatDoorBn20
import Derived.Test.YtgnmnaclndkmdaaGreatDoorBn25
import Derived.Test.YtgnmnaclndkmdaaGreatDoorBn27
namespace Go.Proofs.YtgnmnaclndkmdaaGreatDoor

section
variable {e : Src} {s s1 s2 : Ps}
theorem fwd_more {α : Type} {el : Ps → α × Ps} (hel : ∀ s, Fwd e s (el s).2) : ∀ (f : Nat) (s : Ps), Fwd e s (moreP e el f s).2
  | 0, s => Fwd.refl
  | f + 1, s => by
    unfold moreP
    split
    · rename_i h
      exact (fwd_next h).trans ((hel _).trans (fwd_more hel f _))
    · exact Fwd.refl
theorem fwd_list {α : Type} {el : Ps → α × Ps} (hel : ∀ s, Fwd e s (el s).2) (s : Ps) : Fwd e s (listP e el s).2 := (hel s).trans (fwd_more hel _ _)
theorem fwd_table : Fwd e s (tableP e s).2 :=
  ((fwd_name.trans (fwd_expect _)).trans ((fwd_list (fun _ => fwd_column) _).trans (fwd_expect _))).trans ((fwd_opt (p := fun s => ((1 : Int), (expectP e s [[114, 111, 119]]).2)) _ _ fun _ => fwd_expect _).trans (fwd_opt _ _ fun _ => fwd_num))
theorem fwd_join : Fwd e s (joinP e s).2 := (fwd_take 1).trans (fwd_opt _ _ fun _ => fwd_list (fun _ => fwd_pair) _)
theorem fwd_inputs : Fwd e s (inputsP e s).2 := ((fwd_expect _).trans (fwd_take 1)).trans ((fwd_opt _ _ fun _ => fwd_join).trans (fwd_opt _ _ fun _ => fwd_whole))
theorem fwd_view : Fwd e s (viewP e s).2 := by
  unfold viewP
  dsimp only
  refine (fwd_name.trans (fwd_expect [wSelect, wGroup, wUnion])).trans ?_
  split
  · refine Fwd.trans ?_ ((fwd_list (fun _ => fwd_item) _).trans fwd_inputs)
    split
    · exact fwd_accept _
    · exact Fwd.refl
  · split
    · refine Fwd.trans ?_ ((fwd_expect _).trans ((fwd_list (fun _ => fwd_agg) _).trans fwd_inputs))
      split
      · exact fwd_list (fun _ => fwd_item) _
      · exact Fwd.refl
    · split
      · exact (fwd_take 1).trans (fwd_take 1)
      · exact Fwd.refl
theorem fwd_place : Fwd e s (placeP e s).2 := ((fwd_take 1).trans (fwd_expect _)).trans (fwd_take 1)
theorem fwd_index : Fwd e s (indexP e s).2 := (fwd_name.trans (fwd_expect _)).trans fwd_place
theorem fwd_sketch : Fwd e s (sketchP e s).2 := ((fwd_name.trans (fwd_expect _)).trans (fwd_num.trans fwd_num)).trans ((fwd_expect _).trans fwd_place)
theorem fwd_cache : Fwd e s (cacheP e s).2 := ((fwd_name.trans (fwd_expect _)).trans fwd_place).trans ((fwd_expect _).trans fwd_num)
theorem fwd_release : Fwd e s (releaseP e s).2 := ((fwd_name.trans (fwd_expect _)).trans fwd_name).trans ((fwd_expect _).trans fwd_num)
theorem fwd_stream : Fwd e s (streamP e s).2 := (fwd_name.trans (fwd_expect _)).trans fwd_name
theorem fwd_backup : Fwd e s (backupP e s).2 := ((fwd_name.trans (fwd_expect _)).trans (fwd_list (fun _ => fwd_name) _)).trans ((fwd_expect _).trans fwd_num)
end
end Go.Proofs.YtgnmnaclndkmdaaGreatDoor
namespace Go.Proofs.YtgnmnaclndkmdaaGreatDoor
open Go.RowKit

theorem stInt : SliceTy Tryz.prog 50 3 1 8 := SliceTy.mk' Tryz.underlying50 (z := .int .i64 0) (by kernel_rfl) rfl (by decide) (by decide)
/-- A parser that stands where p stands, with what has been read. -/
def DInv (p : Pp) (l : List HA) (w : World) (s : Ps) (d : Dc) : Prop :=
  ∃ (p' : Pp) (m : Dm) (pool : Pool), p'.pb = p.pb ∧ p'.e = p.e ∧ m.dc = d ∧ m.ok pool ∧ (∀ i, i < 21 → m.ns i ≤ s.pos) ∧ HS w (mA p' s m pool l)
theorem Dm.ok.more {m : Dm} {pool pool' : Pool} (h : m.ok pool) (hp : ∀ x ∈ pool, x ∈ pool') : m.ok pool' :=
  ⟨h.t, fun x hx => let o := h.v x hx; ⟨o.i, o.a, o.w, o.c, o.cp, fun y hy => (o.pi y hy).imp_right (hp _), fun y hy => (o.pa y hy).imp_right (hp _), o.pw.imp_right (hp _)⟩⟩
section
variable {p : Pp} {w w' : World} {s s' : Ps} {pool pool' : Pool} {l : List HA} {m : Dm}
theorem start_le {k : Nat} {x : Int} {j : Nat} (hk : k < 8) (h : ∀ i, i < 21 → m.ns i ≤ j) : ∀ i, i < 21 → (m.start k x).ns i ≤ j + 1 := fun i hi => by
  rw [← (Dm.start_rows (m := m) hk x i hi).1]
  unfold pushN
  split
  · rename_i e
    subst e
    have := h _ hi
    omega
  · have := h i hi
    omega
theorem le_of_rows {m m' : Dm} {j : Nat} (h : ∀ i, i < 21 → m.ns i ≤ j) (hm : ∀ i, i < 21 → m'.ns i ≤ m.ns i + 1) : ∀ i, i < 21 → m'.ns i ≤ j + 1 := fun i hi => by
  have := h i hi
  have := hm i hi
  omega
theorem both_table {x : Int} {y : Tab × List (List Tk) × Tq} {j : Nat} (h : ∀ i, i < 21 → m.ns i ≤ j) : ∀ i, i < 21 → ((m.start 0 x).addT y).ns i ≤ j + 1 :=
  le_of_rows h (by apply all21; simp [Dm.ns, Dm.start, Dm.addT])
theorem both_view {x : Int} {y : Viw × Vn × Vq} {j : Nat} (h : ∀ i, i < 21 → m.ns i ≤ j) : ∀ i, i < 21 → ((m.start 1 x).addV y).ns i ≤ j + 1 :=
  le_of_rows h (by apply all21; simp [Dm.ns, Dm.start, Dm.addV])
theorem both_index {x : Int} {y : Idx × (Tk × Tk)} {j : Nat} (h : ∀ i, i < 21 → m.ns i ≤ j) : ∀ i, i < 21 → ((m.start 2 x).addI y).ns i ≤ j + 1 :=
  le_of_rows h (by apply all21; simp [Dm.ns, Dm.start, Dm.addI])
theorem both_sketch {x : Int} {y : Skt × (Tk × Tk)} {j : Nat} (h : ∀ i, i < 21 → m.ns i ≤ j) : ∀ i, i < 21 → ((m.start 3 x).addS y).ns i ≤ j + 1 :=
  le_of_rows h (by apply all21; simp [Dm.ns, Dm.start, Dm.addS])
theorem both_cache {x : Int} {y : Cch × (Tk × Tk)} {j : Nat} (h : ∀ i, i < 21 → m.ns i ≤ j) : ∀ i, i < 21 → ((m.start 4 x).addC y).ns i ≤ j + 1 :=
  le_of_rows h (by apply all21; simp [Dm.ns, Dm.start, Dm.addC])
theorem both_release {x : Int} {y : Rls} {j : Nat} (h : ∀ i, i < 21 → m.ns i ≤ j) : ∀ i, i < 21 → ((m.start 5 x).addR y).ns i ≤ j + 1 :=
  le_of_rows h (by apply all21; simp [Dm.ns, Dm.start, Dm.addR])
theorem both_stream {x : Int} {y : Stm} {j : Nat} (h : ∀ i, i < 21 → m.ns i ≤ j) : ∀ i, i < 21 → ((m.start 6 x).addM y).ns i ≤ j + 1 :=
  le_of_rows h (by apply all21; simp [Dm.ns, Dm.start, Dm.addM])
theorem both_backup {x : Int} {y : Bkp × Value} {j : Nat} (h : ∀ i, i < 21 → m.ns i ≤ j) : ∀ i, i < 21 → ((m.start 7 x).addB y).ns i ≤ j + 1 :=
  le_of_rows h (by apply all21; simp [Dm.ns, Dm.start, Dm.addB])
end
end Go.Proofs.YtgnmnaclndkmdaaGreatDoor
