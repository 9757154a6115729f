/- The scope of names: what lies in memory, add and find. At most 1000000 stores. The scope of names: find. At most 1000000 stores. -/
import Derived.Test.YtgnmnaclndkmdaaGreatDoorBn30
namespace Go.Proofs.YtgnmnaclndkmdaaGreatDoor
open Go.RowKit

/-- Rows of names that nobody writes any more; two may be one. -/
def namesA (q : List (Value × List Bs)) : HA where
  holds w S := (∀ x ∈ q, ∃ A c, x.1 = .slice A x.2.length c ∧ (x.2 ≠ [] → ∃ b off, A = some ⟨b, off, none⟩ ∧ S b ∧ ∀ j u, (x.2.map strV)[j]? = some u → w.cell? ⟨b, off + j, none⟩ = some u)) ∧ ∀ k, S k → k < w.heap.size
  keep := by
    rintro w w' S ⟨h, h2⟩ g
    refine ⟨fun x hx => ?_, fun k hk => Nat.lt_of_lt_of_le (h2 k hk) g.size⟩
    obtain ⟨A, c, e, h3⟩ := h x hx
    refine ⟨A, c, e, fun hn => ?_⟩
    obtain ⟨b, off, e2, hs, h4⟩ := h3 hn
    exact ⟨b, off, e2, hs, fun j u hu => (World.cell?_of_block (a := ⟨b, off + j, none⟩) (g.block b hs)).trans (h4 j u hu)⟩
  lt := by
    rintro w S ⟨h, h2⟩
    exact h2
section
variable {w w' : World} {l l' : List HA} {q : List (Value × List Bs)}
theorem HS.namesNil (H : HS w l) : HS w (namesA [] :: l) := H.new (Below.refl _ _) (S' := fun _ => False) ⟨(fun x hx => (by cases hx)), fun k (hk : False) => hk.elim⟩ fun k e => e.elim
/-- A row is finished. -/
theorem HS.namesAdd {v : Value} {names : List Bs} {n : Nat} (hn : names.length = n) (H : HS w (rowA 9 1 v n (names.map strV) :: namesA q :: l)) : HS w (namesA (q ++ [(v, names)]) :: l) := by
  obtain ⟨S, S1, S2, ⟨h1, h1b⟩, ⟨T1, T2, ⟨g1, g2⟩, g3, g4, g5⟩, h3, h4⟩ := H
  subst h1b
  refine ⟨S, fun k => v.ownBlock = some k ∨ T1 k, T2, ⟨fun x hx => ?_, ?_⟩, g3, fun k a b => ?_, fun k => ?_⟩
  · rcases List.mem_append.1 hx with hx | hx
    · obtain ⟨A, c, e, h5⟩ := g1 x hx
      refine ⟨A, c, e, fun hne => ?_⟩
      obtain ⟨b, off, e2, hs, h6⟩ := h5 hne
      exact ⟨b, off, e2, .inr hs, h6⟩
    · rw [List.mem_singleton] at hx
      subst hx
      obtain ⟨A, c, e, -, -⟩ := own_slice h1
      subst e
      refine ⟨A, c, by rw [hn], fun hne => ?_⟩
      have h5 := Rd.of_own h1
      obtain ⟨b, off, e2, hb, h6⟩ := h5 (by simpa using hne)
      exact ⟨b, off, e2, .inl (by rw [e2]; rfl), h6⟩
  · rintro k (hk | hk)
    · exact (h1.lt k hk).2
    · exact g2 k hk
  · rcases a with a | a
    · exact h3 k a ((g5 k).2 (.inr b))
    · exact g4 k a b
  · rw [h4, g5, or_assoc]
end
theorem stSS : SliceTy Tryz.prog 135 26 1 24 := SliceTy.mk' Tryz.underlying135 (z := .slice none 0 0) (by kernel_rfl) rfl (by decide) (by decide)
def AddPost (zs : Nat) (n m : Nat) (xs ys : List Value) (name : Bs) (v : Value) (l : List HA) (e : Ending) (w' : World) : Prop :=
  e = .returned (.tuple #[]) ∧ ∃ sv cv, HS w' (boxA zs #[sv, cv] 137 :: rowA 9 1 sv (n + 1) (xs ++ [strV name]) :: rowA 26 1 cv (m + 1) (ys ++ [v]) :: l)
set_option maxRecDepth 100000 in
set_option maxHeartbeats 4000000 in
theorem scopeAdd_s {w : World} {l : List HA} {zs n m : Nat} {sv cv : Value} {xs ys : List Value} (name : Bs) (A : Option Addr) (k c : Nat) (hn : n ≤ 1000000) (hm : m ≤ 1000000) (H : HS w (boxA zs #[sv, cv] 137 :: rowA 9 1 sv n xs :: rowA 26 1 cv m ys :: l)) :
    Calls Tryz.prog 113 #[.pointer (some ⟨zs, 0, none⟩), .string ⟨name.toArray⟩, .slice A k c] w (AddPost zs n m xs ys name (.slice A k c) l) := by
  obtain ⟨As, cs, rfl⟩ := H.slice (v := sv) (by with_reducible repeat constructor)
  obtain ⟨Ac, cc, rfl⟩ := H.slice (v := cv) (by with_reducible repeat constructor)
  have dB := HS.box (z := zs) H (by with_reducible repeat constructor); have dL := Box.lt dB; obtain ⟨hcB, hfB⟩ := Box.cells dB; have d0 := hcB 0; have df0 := hfB 0; have d1 := hcB 1; have df1 := hfB 1; clear hcB hfB
  have Hd := H.drew
  have hz1 : ∀ o, (w.drew.alloc o).heap.size = w.heap.size + 1 := fun o => by simp
  go_enter Tryz.func113, Tryz.ntmps113
  (refine wp_region_T (fun i => i != 1 && decide (i < 18)) (fun w' => w'.cell? ⟨zs, 0, none⟩ = some (.slice As n cs) ∧ w'.cell? ⟨zs, 1, none⟩ = some (.slice Ac m cc)) (by kernel_rfl) ?_ (fun hHeld => ?_); (focus (try dsimp only); go_keep))
  (refine TT.takeW 1 (v := ?_) rfl (by kernel_rfl) rfl (by kernel_rfl) (by kernel_rfl) (fun _ _ _ h => h) (by rfl) ?_ ?_; rotate_left; (focus (intro w; go_simp; (try with_reducible rfl))); (try simp only [Act.put, qqa]))
  (refine TT.take 0 (v := ?_) rfl (by kernel_rfl) (by kernel_rfl) (by kernel_rfl) (fun _ _ _ h => h) (by rfl) (by assumption) ?_ ?_; rotate_left; (focus (intro w hSw; (try dsimp only at hSw); go_simp; (try with_reducible rfl))); (try simp only [Act.put]); refine TT.take 2 (v := ?_) rfl (by kernel_rfl) (by kernel_rfl) (by kernel_rfl) (fun _ _ _ h => h) (by rfl) (by assumption) ?_ ?_; rotate_left; (focus (intro w hSw; (try dsimp only at hSw); go_simp; (try with_reducible rfl))); (try simp only [Act.put]); refine TT.take 3 (v := ?_) rfl (by kernel_rfl) (by kernel_rfl) (by kernel_rfl) (fun _ _ _ h => h) (by rfl) (by assumption) ?_ ?_; rotate_left; (focus (intro w hSw; (try dsimp only at hSw); go_simp; (try with_reducible rfl))); (try simp only [Act.put]); refine TT.take 4 (v := ?_) rfl (by kernel_rfl) (by kernel_rfl) (by kernel_rfl) (fun _ _ _ h => h) (by rfl) (by assumption) ?_ ?_; rotate_left; (focus (intro w hSw; (try dsimp only at hSw); go_simp; (try with_reducible rfl))); (try simp only [Act.put]); refine TT.take 5 (v := ?_) rfl (by kernel_rfl) (by kernel_rfl) (by kernel_rfl) (fun _ _ _ h => h) (by rfl) (by assumption) ?_ ?_; rotate_left; (focus (intro w hSw; (try dsimp only at hSw); go_simp; (try with_reducible rfl))); (try simp only [Act.put]); refine TT.take 6 (v := ?_) rfl (by kernel_rfl) (by kernel_rfl) (by kernel_rfl) (fun _ _ _ h => h) (by rfl) (by assumption) ?_ ?_; rotate_left; (focus (intro w hSw; (try dsimp only at hSw); go_simp; (try with_reducible rfl))); (try simp only [Act.put]); refine TT.take 9 (v := ?_) rfl (by kernel_rfl) (by kernel_rfl) (by kernel_rfl) (fun _ _ _ h => h) (by rfl) (by assumption) ?_ ?_; rotate_left; (focus (intro w hSw; (try dsimp only at hSw); go_simp; (try with_reducible rfl))); (try simp only [Act.put]); refine TT.take 10 (v := ?_) rfl (by kernel_rfl) (by kernel_rfl) (by kernel_rfl) (fun _ _ _ h => h) (by rfl) (by assumption) ?_ ?_; rotate_left; (focus (intro w hSw; (try dsimp only at hSw); go_simp; (try with_reducible rfl))); (try simp only [Act.put]); refine TT.take 11 (v := ?_) rfl (by kernel_rfl) (by kernel_rfl) (by kernel_rfl) (fun _ _ _ h => h) (by rfl) (by assumption) ?_ ?_; rotate_left; (focus (intro w hSw; (try dsimp only at hSw); go_simp; (try with_reducible rfl))); (try simp only [Act.put]); refine TT.take 12 (v := ?_) rfl (by kernel_rfl) (by kernel_rfl) (by kernel_rfl) (fun _ _ _ h => h) (by rfl) (by assumption) ?_ ?_; rotate_left; (focus (intro w hSw; (try dsimp only at hSw); go_simp; (try with_reducible rfl))); (try simp only [Act.put]); refine TT.take 13 (v := ?_) rfl (by kernel_rfl) (by kernel_rfl) (by kernel_rfl) (fun _ _ _ h => h) (by rfl) (by assumption) ?_ ?_; rotate_left; (focus (intro w hSw; (try dsimp only at hSw); go_simp; (try with_reducible rfl))); (try simp only [Act.put]))
  (refine TT.two 7 14 (by kernel_rfl) ⟨rfl, rfl⟩ rfl rfl (fun K hK => ?_) (fun K hK => ?_))
  · (go_simp; refine hK.out _ _ ?_ (fun hHeld => ?_); (focus (try dsimp only); go_keep); clear hK K; (try simp only [Act.put, qqa, qqb, qqc]))
    have Ha := Hd.alloc #[.string ⟨name.toArray⟩] 9
    (refine TT.two 8 14 (by kernel_rfl) ⟨rfl, rfl⟩ rfl rfl (fun K hK => ?_) (fun K hK => ?_))
    · have own7 := Ha.row (v := .slice As n cs) (by with_reducible repeat constructor)
      ((refine step_app3 (v := .slice As n cs) (by rfl) _ _ stS (by rfl) (by rfl) own7 (by rfl) (news := [.string ⟨name.toArray⟩]) (by rfl) (litRd (heap_alloc_new _ _)) (fun h => by cases h) (by intro u hu; simp at hu; (repeat' (rcases hu with rfl | hu)); all_goals (first | rfl | (subst hu; rfl))) (by omega) (by first | exact Nat.zero_le _ | omega | (simp; omega)) ?_; intro vA wA ownA gA atA; have HA := Ha.app (v := .slice As n cs) (by with_reducible repeat constructor) ownA gA atA; have eB := HS.box (z := zs) HA (by with_reducible repeat constructor); have eL := Box.lt eB; obtain ⟨hcB, hfB⟩ := Box.cells eB; have e0 := hcB 0; have ef0 := hfB 0; have e1 := hcB 1; have ef1 := hfB 1; clear hcB hfB; obtain ⟨AB, cB, rfl, -, -⟩ := own_slice ownA; clear ownA gA atA); refine hK.out _ _ ?_ (fun hHeld => ?_); (focus (try dsimp only); go_keep); clear hK K; (try simp only [Act.put, qqa]))
      have HA2 := HA.alloc #[.slice A k c] 26
      have own8 := HA2.row (v := .slice Ac m cc) (by with_reducible repeat constructor)
      (refine TT.one 14 (by kernel_rfl) rfl rfl (fun K hK => ?_); go_simp; refine hK.out _ _ ?_ (fun hHeld => ?_); (focus (try dsimp only); go_keep); clear hK K; (try simp only [Act.put, qqa, qqb, qqc]))
      (refine TT.one 15 (by kernel_rfl) rfl rfl (fun K hK => ?_); (refine step_app3 (v := .slice Ac m cc) (by rfl) _ _ stSS (by rfl) (by rfl) own8 (by rfl) (news := [.slice A k c]) (by rfl) (litRd (heap_alloc_new _ _)) (fun h => by cases h) (by intro u hu; simp at hu; (repeat' (rcases hu with rfl | hu)); all_goals (first | rfl | (subst hu; rfl))) (by omega) (by first | exact Nat.zero_le _ | omega | (simp; omega)) ?_; intro vA wA ownA gA atA; have HB := HA2.app (v := .slice Ac m cc) (by with_reducible repeat constructor) ownA gA atA; have fB := HS.box (z := zs) HB (by with_reducible repeat constructor); have fL := Box.lt fB; obtain ⟨hcB, hfB⟩ := Box.cells fB; have f0 := hcB 0; have ff0 := hfB 0; have f1 := hcB 1; have ff1 := hfB 1; clear hcB hfB; obtain ⟨AC, cC, rfl, -, -⟩ := own_slice ownA); refine hK.out _ _ ?_ (fun hHeld => ?_); (focus (try dsimp only); go_keep); clear hK K; (try simp only [Act.put, qqa]))
      (refine TT.take 16 (v := ?_) rfl (by kernel_rfl) (by kernel_rfl) (by kernel_rfl) (fun _ _ _ h => h) (by rfl) (by assumption) ?_ ?_; rotate_left; (focus (intro w hSw; (try dsimp only at hSw); go_simp; (try with_reducible rfl))); (try simp only [Act.put]); refine TT.take 17 (v := ?_) rfl (by kernel_rfl) (by kernel_rfl) (by kernel_rfl) (fun _ _ _ h => h) (by rfl) (by assumption) ?_ ?_; rotate_left; (focus (intro w hSw; (try dsimp only at hSw); go_simp; (try with_reducible rfl))); (try simp only [Act.put]))
      (refine TT.out 18 (by kernel_rfl) rfl rfl (fun K hK => ?_); go_simp; refine hK.out _ _ ?_; clear hK K; (try simp only [Act.put, qqa, qqb, qqc]))
      (refine TT.takeW 19 (v := ?_) rfl (by kernel_rfl) rfl (by kernel_rfl) (by kernel_rfl) (fun _ _ _ h => h) (by rfl) ?_ ?_; rotate_left; (focus (intro w; go_simp; (try with_reducible rfl))); (try simp only [Act.put, qqa]); refine TT.takeW 20 (v := ?_) rfl (by kernel_rfl) rfl (by kernel_rfl) (by kernel_rfl) (fun _ _ _ h => h) (by rfl) ?_ ?_; rotate_left; (focus (intro w; go_simp; (try with_reducible rfl))); (try simp only [Act.put]))
      (refine TT.out 21 (by kernel_rfl) rfl rfl (fun K hK => ?_); go_simp; refine hK.out _ _ ?_; clear hK K; (try simp only [Act.put, qqa, qqb, qqc]))
      (refine TT.done (by kernel_rfl) ?_)
      go_end0
      refine ⟨rfl, .slice AB (n + 1) cB, .slice AC (m + 1) cC, ?_⟩
      rw [show strV name = .string ⟨name.toArray⟩ from rfl]
      exact ((HB.store (z := zs) (by with_reducible repeat constructor) 0 (.slice AB (n + 1) cB)).storeTo (z := zs) (by with_reducible repeat constructor) 1 _ #[.slice AB (n + 1) cB, .slice AC (m + 1) cC] rfl).sub (by with_reducible repeat constructor)
    · (go_simp; refine hK.out _ _ ?_ (fun hHeld => ?_); (focus (try dsimp only); go_keep); clear hK K; (try simp only [Act.put, qqa, qqb, qqc]))
      have Hb := Ha.alloc #[.slice A k c] 26
      have own7 := Hb.row (v := .slice As n cs) (by with_reducible repeat constructor)
      have lit1 := Hb.box (z := w.drew.heap.size) (by with_reducible repeat constructor)
      (refine TT.one 8 (by kernel_rfl) rfl rfl (fun K hK => ?_); (refine step_app3 (v := .slice As n cs) (by rfl) _ _ stS (by rfl) (by rfl) own7 (by rfl) (news := [.string ⟨name.toArray⟩]) (by rfl) (litRd lit1) (fun h => by cases h) (by intro u hu; simp at hu; (repeat' (rcases hu with rfl | hu)); all_goals (first | rfl | (subst hu; rfl))) (by omega) (by first | exact Nat.zero_le _ | omega | (simp; omega)) ?_; intro vA wA ownA gA atA; have HA := Hb.app (v := .slice As n cs) (by with_reducible repeat constructor) ownA gA atA; have eB := HS.box (z := zs) HA (by with_reducible repeat constructor); have eL := Box.lt eB; obtain ⟨hcB, hfB⟩ := Box.cells eB; have e0 := hcB 0; have ef0 := hfB 0; have e1 := hcB 1; have ef1 := hfB 1; clear hcB hfB; obtain ⟨AB, cB, rfl, -, -⟩ := own_slice ownA; clear ownA gA atA); refine hK.out _ _ ?_ (fun hHeld => ?_); (focus (try dsimp only); go_keep); clear hK K; (try simp only [Act.put, qqa]))
      have own8 := HA.row (v := .slice Ac m cc) (by with_reducible repeat constructor)
      have lit2 := HA.box (z := (w.drew.alloc (.cells #[.string ⟨name.toArray⟩] 9)).heap.size) (by with_reducible repeat constructor)
      rw [hz1] at lit2
      (refine TT.one 15 (by kernel_rfl) rfl rfl (fun K hK => ?_); (refine step_app3 (v := .slice Ac m cc) (by rfl) _ _ stSS (by rfl) (by rfl) own8 (by rfl) (news := [.slice A k c]) (by rfl) (litRd lit2) (fun h => by cases h) (by intro u hu; simp at hu; (repeat' (rcases hu with rfl | hu)); all_goals (first | rfl | (subst hu; rfl))) (by omega) (by first | exact Nat.zero_le _ | omega | (simp; omega)) ?_; intro vA wA ownA gA atA; have HB := HA.app (v := .slice Ac m cc) (by with_reducible repeat constructor) ownA gA atA; have fB := HS.box (z := zs) HB (by with_reducible repeat constructor); have fL := Box.lt fB; obtain ⟨hcB, hfB⟩ := Box.cells fB; have f0 := hcB 0; have ff0 := hfB 0; have f1 := hcB 1; have ff1 := hfB 1; clear hcB hfB; obtain ⟨AC, cC, rfl, -, -⟩ := own_slice ownA); refine hK.out _ _ ?_ (fun hHeld => ?_); (focus (try dsimp only); go_keep); clear hK K; (try simp only [Act.put]))
      (refine TT.take 16 (v := ?_) rfl (by kernel_rfl) (by kernel_rfl) (by kernel_rfl) (fun _ _ _ h => h) (by rfl) (by assumption) ?_ ?_; rotate_left; (focus (intro w hSw; (try dsimp only at hSw); go_simp; (try with_reducible rfl))); (try simp only [Act.put]); refine TT.take 17 (v := ?_) rfl (by kernel_rfl) (by kernel_rfl) (by kernel_rfl) (fun _ _ _ h => h) (by rfl) (by assumption) ?_ ?_; rotate_left; (focus (intro w hSw; (try dsimp only at hSw); go_simp; (try with_reducible rfl))); (try simp only [Act.put]))
      (refine TT.out 18 (by kernel_rfl) rfl rfl (fun K hK => ?_); go_simp; refine hK.out _ _ ?_; clear hK K; (try simp only [Act.put, qqa, qqb, qqc]))
      (refine TT.takeW 19 (v := ?_) rfl (by kernel_rfl) rfl (by kernel_rfl) (by kernel_rfl) (fun _ _ _ h => h) (by rfl) ?_ ?_; rotate_left; (focus (intro w; go_simp; (try with_reducible rfl))); (try simp only [Act.put, qqa]); refine TT.takeW 20 (v := ?_) rfl (by kernel_rfl) rfl (by kernel_rfl) (by kernel_rfl) (fun _ _ _ h => h) (by rfl) ?_ ?_; rotate_left; (focus (intro w; go_simp; (try with_reducible rfl))); (try simp only [Act.put]))
      (refine TT.out 21 (by kernel_rfl) rfl rfl (fun K hK => ?_); go_simp; refine hK.out _ _ ?_; clear hK K; (try simp only [Act.put, qqa, qqb, qqc]))
      (refine TT.done (by kernel_rfl) ?_)
      go_end0
      refine ⟨rfl, .slice AB (n + 1) cB, .slice AC (m + 1) cC, ?_⟩
      rw [show strV name = .string ⟨name.toArray⟩ from rfl]
      exact ((HB.store (z := zs) (by with_reducible repeat constructor) 0 (.slice AB (n + 1) cB)).storeTo (z := zs) (by with_reducible repeat constructor) 1 _ #[.slice AB (n + 1) cB, .slice AC (m + 1) cC] rfl).sub (by with_reducible repeat constructor)
  · (go_simp; refine hK.out _ _ ?_ (fun hHeld => ?_); (focus (try dsimp only); go_keep); clear hK K; (try simp only [Act.put, qqa, qqb, qqc]))
    have Hc := Hd.alloc #[.slice A k c] 26
    have Hb := Hc.alloc #[.string ⟨name.toArray⟩] 9
    have own7 := Hb.row (v := .slice As n cs) (by with_reducible repeat constructor)
    have lit1 := Hb.box (z := (w.drew.alloc (.cells #[.slice A k c] 26)).heap.size) (by with_reducible repeat constructor)
    rw [hz1] at lit1
    (refine TT.one 7 (by kernel_rfl) rfl rfl (fun K hK => ?_); go_simp; refine hK.out _ _ ?_ (fun hHeld => ?_); (focus (try dsimp only); go_keep); clear hK K; (try simp only [Act.put, qqa, qqb, qqc]))
    (refine TT.one 8 (by kernel_rfl) rfl rfl (fun K hK => ?_); (refine step_app3 (v := .slice As n cs) (by rfl) _ _ stS (by rfl) (by rfl) own7 (by rfl) (news := [.string ⟨name.toArray⟩]) (by rfl) (litRd lit1) (fun h => by cases h) (by intro u hu; simp at hu; (repeat' (rcases hu with rfl | hu)); all_goals (first | rfl | (subst hu; rfl))) (by omega) (by first | exact Nat.zero_le _ | omega | (simp; omega)) ?_; intro vA wA ownA gA atA; have HA := Hb.app (v := .slice As n cs) (by with_reducible repeat constructor) ownA gA atA; have eB := HS.box (z := zs) HA (by with_reducible repeat constructor); have eL := Box.lt eB; obtain ⟨hcB, hfB⟩ := Box.cells eB; have e0 := hcB 0; have ef0 := hfB 0; have e1 := hcB 1; have ef1 := hfB 1; clear hcB hfB; obtain ⟨AB, cB, rfl, -, -⟩ := own_slice ownA; clear ownA gA atA); refine hK.out _ _ ?_ (fun hHeld => ?_); (focus (try dsimp only); go_keep); clear hK K; (try simp only [Act.put, qqa]))
    have own8 := HA.row (v := .slice Ac m cc) (by with_reducible repeat constructor)
    have lit2 := HA.box (z := w.drew.heap.size) (by with_reducible repeat constructor)
    (refine TT.one 15 (by kernel_rfl) rfl rfl (fun K hK => ?_); (refine step_app3 (v := .slice Ac m cc) (by rfl) _ _ stSS (by rfl) (by rfl) own8 (by rfl) (news := [.slice A k c]) (by rfl) (litRd lit2) (fun h => by cases h) (by intro u hu; simp at hu; (repeat' (rcases hu with rfl | hu)); all_goals (first | rfl | (subst hu; rfl))) (by omega) (by first | exact Nat.zero_le _ | omega | (simp; omega)) ?_; intro vA wA ownA gA atA; have HB := HA.app (v := .slice Ac m cc) (by with_reducible repeat constructor) ownA gA atA; have fB := HS.box (z := zs) HB (by with_reducible repeat constructor); have fL := Box.lt fB; obtain ⟨hcB, hfB⟩ := Box.cells fB; have f0 := hcB 0; have ff0 := hfB 0; have f1 := hcB 1; have ff1 := hfB 1; clear hcB hfB; obtain ⟨AC, cC, rfl, -, -⟩ := own_slice ownA); refine hK.out _ _ ?_ (fun hHeld => ?_); (focus (try dsimp only); go_keep); clear hK K; (try simp only [Act.put]))
    (refine TT.take 16 (v := ?_) rfl (by kernel_rfl) (by kernel_rfl) (by kernel_rfl) (fun _ _ _ h => h) (by rfl) (by assumption) ?_ ?_; rotate_left; (focus (intro w hSw; (try dsimp only at hSw); go_simp; (try with_reducible rfl))); (try simp only [Act.put]); refine TT.take 17 (v := ?_) rfl (by kernel_rfl) (by kernel_rfl) (by kernel_rfl) (fun _ _ _ h => h) (by rfl) (by assumption) ?_ ?_; rotate_left; (focus (intro w hSw; (try dsimp only at hSw); go_simp; (try with_reducible rfl))); (try simp only [Act.put]))
    (refine TT.out 18 (by kernel_rfl) rfl rfl (fun K hK => ?_); go_simp; refine hK.out _ _ ?_; clear hK K; (try simp only [Act.put, qqa, qqb, qqc]))
    (refine TT.takeW 19 (v := ?_) rfl (by kernel_rfl) rfl (by kernel_rfl) (by kernel_rfl) (fun _ _ _ h => h) (by rfl) ?_ ?_; rotate_left; (focus (intro w; go_simp; (try with_reducible rfl))); (try simp only [Act.put, qqa]); refine TT.takeW 20 (v := ?_) rfl (by kernel_rfl) rfl (by kernel_rfl) (by kernel_rfl) (fun _ _ _ h => h) (by rfl) ?_ ?_; rotate_left; (focus (intro w; go_simp; (try with_reducible rfl))); (try simp only [Act.put]))
    (refine TT.out 21 (by kernel_rfl) rfl rfl (fun K hK => ?_); go_simp; refine hK.out _ _ ?_; clear hK K; (try simp only [Act.put, qqa, qqb, qqc]))
    (refine TT.done (by kernel_rfl) ?_)
    go_end0
    refine ⟨rfl, .slice AB (n + 1) cB, .slice AC (m + 1) cC, ?_⟩
    rw [show strV name = .string ⟨name.toArray⟩ from rfl]
    exact ((HB.store (z := zs) (by with_reducible repeat constructor) 0 (.slice AB (n + 1) cB)).storeTo (z := zs) (by with_reducible repeat constructor) 1 _ #[.slice AB (n + 1) cB, .slice AC (m + 1) cC] rfl).sub (by with_reducible repeat constructor)
end Go.Proofs.YtgnmnaclndkmdaaGreatDoor
namespace Go.Proofs.YtgnmnaclndkmdaaGreatDoor
open Go.RowKit

/-- A scope: the stores, each with its slice of names and what this reads as. -/
abbrev Sq := List (Bs × Value × List Bs)
def fdR (sc : Sq) (t : Tk) : Value × Int × Int := match findP (sc.map Prod.fst) t.text with
  | some k => ((sc.map fun x => x.2.1).getD k (.slice none 0 0), 0, 0)
  | none => (.slice none 0 0, t.pos, 7)
def FindPost (w : World) (r : Value × Int × Int) (e : Ending) (w' : World) : Prop := e = .returned (.tuple #[r.1, .int .i64 r.2.1, .int .i64 r.2.2]) ∧ Below w.heap.size w w'
set_option maxRecDepth 100000 in
set_option maxHeartbeats 4000000 in
theorem find_c {w : World} {l : List HA} {zs : Nat} {sv cv : Value} {sc : Sq} (t : Tk) (hn : sc.length ≤ 1000000) (H : HS w (boxA zs #[sv, cv] 137 :: rowA 9 1 sv sc.length (sc.map fun x => strV x.1) :: rowA 26 1 cv sc.length (sc.map fun x => x.2.1) :: l)) :
    Calls Tryz.prog 114 #[.pointer (some ⟨zs, 0, none⟩), .agg #[.int .i64 t.kind, .string ⟨t.text.toArray⟩, .int .i64 t.int, .int .i64 t.pos]] w (FindPost w (fdR sc t)) := by
  obtain ⟨As, cs, rfl⟩ := H.slice (v := sv) (by with_reducible repeat constructor)
  obtain ⟨Ac, cc, rfl⟩ := H.slice (v := cv) (by with_reducible repeat constructor)
  have H0 := H.alloc (tkC t) 83
  have o1 := H0.row (v := .slice As sc.length cs) (by with_reducible repeat constructor)
  have o2 := H0.row (v := .slice Ac sc.length cc) (by with_reducible repeat constructor)
  have hr : RowB (w.alloc (.cells (tkC t) 83)) (w.alloc (.cells (tkC t) 83)).heap.size As sc.length (sc.map Prod.fst) := RowOf.of_own (by rw [flat_str, List.map_map]; exact o1) (by simp)
  have hb : Below w.heap.size w (w.alloc (.cells (tkC t) 83)) := by (repeat (first | (with_reducible exact Below.refl _ _) | (with_reducible assumption) | (with_reducible refine Below.drew ?_) | (with_reducible refine below_drewN ?_ _) | ((with_reducible refine Below.setCell ?_ ?_ _); rotate_left; (focus (first | (simp; done) | (simp; omega) | omega))) | ((with_reducible refine Below.alloc ?_ ?_ _); rotate_left; (focus (first | (simp; done) | (simp; omega) | omega))) | ((with_reducible apply below_step1); (focus (with_reducible assumption)))))
  have hI := sIndex_c (c := cs) t.text hr.drew (by unfold maxLen; omega)
  unfold tkC at H0 hI hb o2
  cases hf : findP (sc.map Prod.fst) t.text with
  | none =>
    rw [show fdR sc t = (.slice none 0 0, t.pos, 7) by unfold fdR; rw [hf]]
    rw [show idxI (sc.map Prod.fst) t.text = -1 by unfold idxI; rw [hf]] at hI
    clear hf hr o1 o2 H
    go_enter Tryz.func114, Tryz.ntmps114
    go_upto_region 1 with fail
    generalize hw : w.alloc _ = w1 at hI H0 hb ⊢
    clear hw
    have dB := HS.box (z := zs) H0 (by with_reducible repeat constructor); have dL := Box.lt dB; obtain ⟨hcB, hfB⟩ := Box.cells dB; have d0 := hcB 0; have df0 := hfB 0; have d1 := hcB 1; have df1 := hfB 1; clear hcB hfB
    have kB := HS.box (z := w.heap.size) H0 (by with_reducible repeat constructor); have kL := Box.lt kB; obtain ⟨hcB, hfB⟩ := Box.cells kB; have k0 := hcB 0; have kf0 := hfB 0; have k1 := hcB 1; have kf1 := hfB 1; have k2 := hcB 2; have kf2 := hfB 2; have k3 := hcB 3; have kf3 := hfB 3; clear hcB hfB
    (refine wp_region_G 7 (fun w' => w'.cell? ⟨zs, 0, none⟩ = some (.slice As sc.length cs) ∧ w'.cell? ⟨w.heap.size, 1, none⟩ = some (.string ⟨t.text.toArray⟩)) (by kernel_rfl) ?_ (fun hHeld => ?_); (focus (try dsimp only); go_keep))
    (refine GG.tk 0 (v := ?_) rfl (by kernel_rfl) (fun _ _ _ h => h) (by rfl) (by assumption) ?_ ?_; rotate_left; (focus (intro w h; (try dsimp only at h); go_simp; (try with_reducible rfl))); (try simp only [Act.put, qqa]); refine GG.tk 1 (v := ?_) rfl (by kernel_rfl) (fun _ _ _ h => h) (by rfl) (by assumption) ?_ ?_; rotate_left; (focus (intro w h; (try dsimp only at h); go_simp; (try with_reducible rfl))); (try simp only [Act.put]); refine GG.tk 2 (v := ?_) rfl (by kernel_rfl) (fun _ _ _ h => h) (by rfl) (by assumption) ?_ ?_; rotate_left; (focus (intro w h; (try dsimp only at h); go_simp; (try with_reducible rfl))); (try simp only [Act.put]); refine GG.tk 3 (v := ?_) rfl (by kernel_rfl) (fun _ _ _ h => h) (by rfl) (by assumption) ?_ ?_; rotate_left; (focus (intro w h; (try dsimp only at h); go_simp; (try with_reducible rfl))); (try simp only [Act.put]); refine GG.tk 4 (v := ?_) rfl (by kernel_rfl) (fun _ _ _ h => h) (by rfl) (by assumption) ?_ ?_; rotate_left; (focus (intro w h; (try dsimp only at h); go_simp; (try with_reducible rfl))); (try simp only [Act.put]); refine GG.tk 5 (v := ?_) rfl (by kernel_rfl) (fun _ _ _ h => h) (by rfl) (by assumption) ?_ ?_; rotate_left; (focus (intro w h; (try dsimp only at h); go_simp; (try with_reducible rfl))); (try simp only [Act.put]))
    (refine GG.one 6 (by kernel_rfl) (by decide) rfl (fun K hK => ?_); (go_simp; go_at_call 28; (with_reducible refine hI.mono ?_); rintro e w2 ⟨rfl, rfl⟩); refine hK.out _ _ ?_ (fun hHeld => ?_); (focus (try dsimp only); go_keep); clear hK K; (try simp only [Act.put, qqa, qqb, qqc]))
    (refine GG.last (by kernel_rfl) (by kernel_rfl) rfl (fun K hK => ?_); go_simp; refine hK.out _ _ ?_; clear hK K)
    go_upto_region 3 with fail
    go_quiet (fail)
    go_wp2_with fail
    go_ret3
    exact ⟨rfl, by (repeat (first | (with_reducible exact Below.refl _ _) | (with_reducible assumption) | (with_reducible refine Below.drew ?_) | (with_reducible refine below_drewN ?_ _) | ((with_reducible refine Below.setCell ?_ ?_ _); rotate_left; (focus (first | (simp; done) | (simp; omega) | omega))) | ((with_reducible refine Below.alloc ?_ ?_ _); rotate_left; (focus (first | (simp; done) | (simp; omega) | omega))) | ((with_reducible apply below_step1); (focus (with_reducible assumption)))))⟩
  | some k =>
    have hk := findP_lt hf
    rw [List.length_map] at hk
    obtain ⟨x, hx⟩ : ∃ x, sc[k]? = some x := ⟨sc[k], List.getElem?_eq_getElem hk⟩
    rw [show fdR sc t = (x.2.1, 0, 0) by unfold fdR; rw [hf]; simp [hx]]
    rw [show idxI (sc.map Prod.fst) t.text = (k : Int) by unfold idxI; rw [hf]] at hI
    have h2 := Rd.of_own o2 (by intro e; have := congrArg List.length e; simp at this; rw [this] at hk; simp at hk)
    obtain ⟨b, off, e2, hb2, h3⟩ := h2
    have h4 := h3 k x.2.1 (by simp [hx])
    have hi0 : (0 : Int) ≤ (k : Int) := by omega
    have hi1 : (k : Int) < (sc.length : Int) := by omega
    rw [e2] at H0
    clear hf hr o1 o2 H h3 hx
    go_enter Tryz.func114, Tryz.ntmps114
    go_upto_region 1 with fail
    generalize hw : w.alloc _ = w1 at hI H0 hb h4 hb2 ⊢
    clear hw
    have dB := HS.box (z := zs) H0 (by with_reducible repeat constructor); have dL := Box.lt dB; obtain ⟨hcB, hfB⟩ := Box.cells dB; have d0 := hcB 0; have df0 := hfB 0; have d1 := hcB 1; have df1 := hfB 1; clear hcB hfB
    have gB := HS.box (z := w.heap.size) H0 (by with_reducible repeat constructor); have gL := Box.lt gB; obtain ⟨hcB, hfB⟩ := Box.cells gB; have g0 := hcB 0; have gf0 := hfB 0; have g1 := hcB 1; have gf1 := hfB 1; have g2 := hcB 2; have gf2 := hfB 2; have g3 := hcB 3; have gf3 := hfB 3; clear hcB hfB
    (refine wp_region_G 7 (fun w' => w'.cell? ⟨zs, 0, none⟩ = some (.slice As sc.length cs) ∧ w'.cell? ⟨w.heap.size, 1, none⟩ = some (.string ⟨t.text.toArray⟩)) (by kernel_rfl) ?_ (fun hHeld => ?_); (focus (try dsimp only); go_keep))
    (refine GG.tk 0 (v := ?_) rfl (by kernel_rfl) (fun _ _ _ h => h) (by rfl) (by assumption) ?_ ?_; rotate_left; (focus (intro w h; (try dsimp only at h); go_simp; (try with_reducible rfl))); (try simp only [Act.put, qqa]); refine GG.tk 1 (v := ?_) rfl (by kernel_rfl) (fun _ _ _ h => h) (by rfl) (by assumption) ?_ ?_; rotate_left; (focus (intro w h; (try dsimp only at h); go_simp; (try with_reducible rfl))); (try simp only [Act.put]); refine GG.tk 2 (v := ?_) rfl (by kernel_rfl) (fun _ _ _ h => h) (by rfl) (by assumption) ?_ ?_; rotate_left; (focus (intro w h; (try dsimp only at h); go_simp; (try with_reducible rfl))); (try simp only [Act.put]); refine GG.tk 3 (v := ?_) rfl (by kernel_rfl) (fun _ _ _ h => h) (by rfl) (by assumption) ?_ ?_; rotate_left; (focus (intro w h; (try dsimp only at h); go_simp; (try with_reducible rfl))); (try simp only [Act.put]); refine GG.tk 4 (v := ?_) rfl (by kernel_rfl) (fun _ _ _ h => h) (by rfl) (by assumption) ?_ ?_; rotate_left; (focus (intro w h; (try dsimp only at h); go_simp; (try with_reducible rfl))); (try simp only [Act.put]); refine GG.tk 5 (v := ?_) rfl (by kernel_rfl) (fun _ _ _ h => h) (by rfl) (by assumption) ?_ ?_; rotate_left; (focus (intro w h; (try dsimp only at h); go_simp; (try with_reducible rfl))); (try simp only [Act.put]))
    (refine GG.one 6 (by kernel_rfl) (by decide) rfl (fun K hK => ?_); (go_simp; go_at_call 28; (with_reducible refine hI.mono ?_); rintro e w2 ⟨rfl, rfl⟩); refine hK.out _ _ ?_ (fun hHeld => ?_); (focus (try dsimp only); go_keep); clear hK K; (try simp only [Act.put, qqa, qqb, qqc]))
    (refine GG.last (by kernel_rfl) (by kernel_rfl) rfl (fun K hK => ?_); go_simp; refine hK.out _ _ ?_; clear hK K)
    go_wp2_with fail
    go_ret3
    exact ⟨rfl, by (repeat (first | (with_reducible exact Below.refl _ _) | (with_reducible assumption) | (with_reducible refine Below.drew ?_) | (with_reducible refine below_drewN ?_ _) | ((with_reducible refine Below.setCell ?_ ?_ _); rotate_left; (focus (first | (simp; done) | (simp; omega) | omega))) | ((with_reducible refine Below.alloc ?_ ?_ _); rotate_left; (focus (first | (simp; done) | (simp; omega) | omega))) | ((with_reducible apply below_step1); (focus (with_reducible assumption)))))⟩
end Go.Proofs.YtgnmnaclndkmdaaGreatDoor
