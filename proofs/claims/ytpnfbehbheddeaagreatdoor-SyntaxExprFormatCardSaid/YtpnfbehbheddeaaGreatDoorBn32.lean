/- The scope of names: what lies in memory, add and find. At most 1000000 stores. The scope of names: find. At most 1000000 stores. A parser that has read all, as its block, its rows and the finished references. No condition. The check of catalogues of layer 4, as the program does it: a mirror in plain Lean. No program in sight, no condition. The offset of a declaration by its number: start. The rows of offsets have at most 100000 elements. What Sort and Compact give is what inserting one by one gives. Plain Lean, no condition. -/
import Derived.Test.YtpnfbehbheddeaaGreatDoorBn31
import Derived.Test.YtpnfbehbheddeaaGreatDoorBn19
import Derived.Test.YtpnfbehbheddeaaGreatDoorBn09
import Derived.Lib.SlicesCompact
namespace Go.Proofs.YtpnfbehbheddeaaGreatDoor
set_option maxRecDepth 100000
set_option maxHeartbeats 8000000
set_option linter.unusedVariables false
set_option linter.unusedSimpArgs false
open Go.RowKit
def namesA (q : List (Value × List Bs)) : HA where
  holds w S := (∀ x ∈ q, ∃ A c, x.1 = .slice A x.2.length c ∧ (x.2 ≠ [] → ∃ b off, A = some ⟨b, off, none⟩ ∧ S b ∧ ∀ j u, (x.2.map strV)[j]? = some u → w.cell? ⟨b, off + j, none⟩ = some u)) ∧ ∀ k, S k → k < w.heap.size
  keep := by
    rintro w w' S ⟨h, h2⟩ g
    refine ⟨fun x hx => ?_, fun k hk => Nat.lt_of_lt_of_le (h2 k hk) g.size⟩
    obtain ⟨A, c, e, h3⟩ := h x hx
    refine ⟨A, c, e, fun hn => ?_⟩
    obtain ⟨b, off, e2, hs, h4⟩ := h3 hn
    exact ⟨b, off, e2, hs, fun j u hu => (World.cell?_of_block (a := ⟨b, off + j, none⟩) (g.block b hs)).trans (h4 j u hu)⟩
  lt := by
    rintro w S ⟨h, h2⟩
    exact h2
section
variable {w w' : World} {l l' : List HA} {q : List (Value × List Bs)}
theorem HS.namesNil (H : HS w l) : HS w (namesA [] :: l) := H.new (Below.refl _ _) (S' := fun _ => False) ⟨(fun x hx => (by cases hx)), fun k (hk : False) => hk.elim⟩ fun k e => e.elim
theorem HS.namesAdd {v : Value} {names : List Bs} {n : Nat} (hn : names.length = n) (H : HS w (rowA 9 1 v n (names.map strV) :: namesA q :: l)) : HS w (namesA (q ++ [(v, names)]) :: l) := by
  obtain ⟨S, S1, S2, ⟨h1, h1b⟩, ⟨T1, T2, ⟨g1, g2⟩, g3, g4, g5⟩, h3, h4⟩ := H
  subst h1b
  refine ⟨S, fun k => v.ownBlock = some k ∨ T1 k, T2, ⟨fun x hx => ?_, ?_⟩, g3, fun k a b => ?_, fun k => ?_⟩
  · rcases List.mem_append.1 hx with hx | hx
    · obtain ⟨A, c, e, h5⟩ := g1 x hx
      refine ⟨A, c, e, fun hne => ?_⟩
      obtain ⟨b, off, e2, hs, h6⟩ := h5 hne
      exact ⟨b, off, e2, .inr hs, h6⟩
    · rw [List.mem_singleton] at hx
      subst hx
      obtain ⟨A, c, e, -, -⟩ := own_slice h1
      subst e
      refine ⟨A, c, by rw [hn], fun hne => ?_⟩
      have h5 := Rd.of_own h1
      obtain ⟨b, off, e2, hb, h6⟩ := h5 (by simpa using hne)
      exact ⟨b, off, e2, .inl (by rw [e2]; rfl), h6⟩
  · rintro k (hk | hk)
    · exact (h1.lt k hk).2
    · exact g2 k hk
  · rcases a with a | a
    · exact h3 k a ((g5 k).2 (.inr b))
    · exact g4 k a b
  · rw [h4, g5, or_assoc]
end
theorem stSS : SliceTy Tryz.prog 141 25 1 24 := SliceTy.mk' Tryz.underlying141 (z := .slice none 0 0) (by kernel_rfl) rfl (by decide) (by decide)
def AddPost (zs : Nat) (n m : Nat) (xs ys : List Value) (name : Bs) (v : Value) (l : List HA) (e : Ending) (w' : World) : Prop :=
  e = .returned (.tuple #[]) ∧ ∃ sv cv, HS w' (boxA zs #[sv, cv] 143 :: rowA 9 1 sv (n + 1) (xs ++ [strV name]) :: rowA 25 1 cv (m + 1) (ys ++ [v]) :: l)
theorem scopeAdd_s {w : World} {l : List HA} {zs n m : Nat} {sv cv : Value} {xs ys : List Value} (name : Bs) (A : Option Addr) (k c : Nat) (hn : n ≤ 1000000) (hm : m ≤ 1000000) (H : HS w (boxA zs #[sv, cv] 143 :: rowA 9 1 sv n xs :: rowA 25 1 cv m ys :: l)) :
    Calls Tryz.prog 144 #[.pointer (some ⟨zs, 0, none⟩), .string ⟨name.toArray⟩, .slice A k c] w (AddPost zs n m xs ys name (.slice A k c) l) := by
  obtain ⟨As, cs, rfl⟩ := H.slice (v := sv) pkQ
  obtain ⟨Ac, cc, rfl⟩ := H.slice (v := cv) pkQ
  obtain ⟨dB, dL, hcB⟩ := HS.get (z := zs) H; obtain ⟨d0, df0⟩ := hcB 0; obtain ⟨d1, df1⟩ := hcB 1; clear hcB
  have Hd := H.drew
  have hz1 : ∀ o, (w.drew.alloc o).heap.size = w.heap.size + 1 := fun o => by simp
  go_enter Tryz.func144, Tryz.ntmps144
  (refine wp_region_T (fun i => i != 1 && decide (i < 18)) (fun w' => w'.cell? ⟨zs, 0, none⟩ = some (.slice As n cs) ∧ w'.cell? ⟨zs, 1, none⟩ = some (.slice Ac m cc)) (by kernel_rfl) ?_ (fun hHeld => ?_); (focus (try dsimp only); go_keep))
  (refine TT.takeW 1 (v := ?_) rfl (by kernel_rfl) rfl (by kernel_rfl) (by kernel_rfl) (fun _ _ _ h => h) (by rfl) ?_ ?_; rotate_left; (focus (intro w; go_simp; (try with_reducible rfl))); (try simp only [Act.put, qqa]))
  (refine TT.take 0 (v := ?_) rfl (by kernel_rfl) (by kernel_rfl) (by kernel_rfl) (fun _ _ _ h => h) (by rfl) (by assumption) ?_ ?_; rotate_left; (focus (intro w hSw; (try dsimp only at hSw); go_simp; (try with_reducible rfl))); (try simp only [Act.put]); refine TT.take 2 (v := ?_) rfl (by kernel_rfl) (by kernel_rfl) (by kernel_rfl) (fun _ _ _ h => h) (by rfl) (by assumption) ?_ ?_; rotate_left; (focus (intro w hSw; (try dsimp only at hSw); go_simp; (try with_reducible rfl))); (try simp only [Act.put]); refine TT.take 3 (v := ?_) rfl (by kernel_rfl) (by kernel_rfl) (by kernel_rfl) (fun _ _ _ h => h) (by rfl) (by assumption) ?_ ?_; rotate_left; (focus (intro w hSw; (try dsimp only at hSw); go_simp; (try with_reducible rfl))); (try simp only [Act.put]); refine TT.take 4 (v := ?_) rfl (by kernel_rfl) (by kernel_rfl) (by kernel_rfl) (fun _ _ _ h => h) (by rfl) (by assumption) ?_ ?_; rotate_left; (focus (intro w hSw; (try dsimp only at hSw); go_simp; (try with_reducible rfl))); (try simp only [Act.put]); refine TT.take 5 (v := ?_) rfl (by kernel_rfl) (by kernel_rfl) (by kernel_rfl) (fun _ _ _ h => h) (by rfl) (by assumption) ?_ ?_; rotate_left; (focus (intro w hSw; (try dsimp only at hSw); go_simp; (try with_reducible rfl))); (try simp only [Act.put]); refine TT.take 6 (v := ?_) rfl (by kernel_rfl) (by kernel_rfl) (by kernel_rfl) (fun _ _ _ h => h) (by rfl) (by assumption) ?_ ?_; rotate_left; (focus (intro w hSw; (try dsimp only at hSw); go_simp; (try with_reducible rfl))); (try simp only [Act.put]); refine TT.take 9 (v := ?_) rfl (by kernel_rfl) (by kernel_rfl) (by kernel_rfl) (fun _ _ _ h => h) (by rfl) (by assumption) ?_ ?_; rotate_left; (focus (intro w hSw; (try dsimp only at hSw); go_simp; (try with_reducible rfl))); (try simp only [Act.put]); refine TT.take 10 (v := ?_) rfl (by kernel_rfl) (by kernel_rfl) (by kernel_rfl) (fun _ _ _ h => h) (by rfl) (by assumption) ?_ ?_; rotate_left; (focus (intro w hSw; (try dsimp only at hSw); go_simp; (try with_reducible rfl))); (try simp only [Act.put]); refine TT.take 11 (v := ?_) rfl (by kernel_rfl) (by kernel_rfl) (by kernel_rfl) (fun _ _ _ h => h) (by rfl) (by assumption) ?_ ?_; rotate_left; (focus (intro w hSw; (try dsimp only at hSw); go_simp; (try with_reducible rfl))); (try simp only [Act.put]); refine TT.take 12 (v := ?_) rfl (by kernel_rfl) (by kernel_rfl) (by kernel_rfl) (fun _ _ _ h => h) (by rfl) (by assumption) ?_ ?_; rotate_left; (focus (intro w hSw; (try dsimp only at hSw); go_simp; (try with_reducible rfl))); (try simp only [Act.put]); refine TT.take 13 (v := ?_) rfl (by kernel_rfl) (by kernel_rfl) (by kernel_rfl) (fun _ _ _ h => h) (by rfl) (by assumption) ?_ ?_; rotate_left; (focus (intro w hSw; (try dsimp only at hSw); go_simp; (try with_reducible rfl))); (try simp only [Act.put]))
  (refine TT.two 7 14 (by kernel_rfl) ⟨rfl, rfl⟩ rfl rfl (fun K hK => ?_) (fun K hK => ?_))
  · (go_simp; refine hK.out _ _ ?_ (fun hHeld => ?_); (focus (try dsimp only); go_keep); clear hK K; (try simp only [Act.put, qqa, qqb, qqc]))
    have Ha := Hd.alloc #[.string ⟨name.toArray⟩] 9
    (refine TT.two 8 14 (by kernel_rfl) ⟨rfl, rfl⟩ rfl rfl (fun K hK => ?_) (fun K hK => ?_))
    · have own7 := Ha.row (v := .slice As n cs) pkQ
      ((refine step_app3 (v := .slice As n cs) (by rfl) _ _ stS (by rfl) (by rfl) own7 (by rfl) (news := [.string ⟨name.toArray⟩]) (by rfl) (litRd (heap_alloc_new _ _)) (fun h => by cases h) (by intro u hu; simp at hu; (repeat' (rcases hu with rfl | hu)); all_goals (first | rfl | (subst hu; rfl))) (by omega) (by first | exact Nat.zero_le _ | omega | (simp; omega)) ?_; intro vA wA ownA gA atA; have HA := Ha.app (v := .slice As n cs) pkQ ownA gA atA; obtain ⟨eB, eL, hcB⟩ := HS.get (z := zs) HA; obtain ⟨e0, ef0⟩ := hcB 0; obtain ⟨e1, ef1⟩ := hcB 1; clear hcB; obtain ⟨AB, cB, rfl, -, -⟩ := own_slice ownA; clear ownA gA atA); refine hK.out _ _ ?_ (fun hHeld => ?_); (focus (try dsimp only); go_keep); clear hK K; (try simp only [Act.put, qqa, qqb, qqc]))
      have HA2 := HA.alloc #[.slice A k c] 25
      have own8 := HA2.row (v := .slice Ac m cc) pkQ
      (refine TT.one 14 (by kernel_rfl) rfl rfl (fun K hK => ?_); go_simp; refine hK.out _ _ ?_ (fun hHeld => ?_); (focus (try dsimp only); go_keep); clear hK K; (try simp only [Act.put, qqa, qqb, qqc]))
      (refine TT.one 15 (by kernel_rfl) rfl rfl (fun K hK => ?_); (refine step_app3 (v := .slice Ac m cc) (by rfl) _ _ stSS (by rfl) (by rfl) own8 (by rfl) (news := [.slice A k c]) (by rfl) (litRd (heap_alloc_new _ _)) (fun h => by cases h) (by intro u hu; simp at hu; (repeat' (rcases hu with rfl | hu)); all_goals (first | rfl | (subst hu; rfl))) (by omega) (by first | exact Nat.zero_le _ | omega | (simp; omega)) ?_; intro vA wA ownA gA atA; have HB := HA2.app (v := .slice Ac m cc) pkQ ownA gA atA; obtain ⟨fB, fL, hcB⟩ := HS.get (z := zs) HB; obtain ⟨f0, ff0⟩ := hcB 0; obtain ⟨f1, ff1⟩ := hcB 1; clear hcB; obtain ⟨AC, cC, rfl, -, -⟩ := own_slice ownA); refine hK.out _ _ ?_ (fun hHeld => ?_); (focus (try dsimp only); go_keep); clear hK K; (try simp only [Act.put, qqa, qqb, qqc]))
      (refine TT.take 16 (v := ?_) rfl (by kernel_rfl) (by kernel_rfl) (by kernel_rfl) (fun _ _ _ h => h) (by rfl) (by assumption) ?_ ?_; rotate_left; (focus (intro w hSw; (try dsimp only at hSw); go_simp; (try with_reducible rfl))); (try simp only [Act.put]); refine TT.take 17 (v := ?_) rfl (by kernel_rfl) (by kernel_rfl) (by kernel_rfl) (fun _ _ _ h => h) (by rfl) (by assumption) ?_ ?_; rotate_left; (focus (intro w hSw; (try dsimp only at hSw); go_simp; (try with_reducible rfl))); (try simp only [Act.put]))
      (refine TT.out 18 (by kernel_rfl) rfl rfl (fun K hK => ?_); go_simp; refine hK.out _ _ ?_; clear hK K; (try simp only [Act.put, qqa, qqb, qqc]))
      (refine TT.takeW 19 (v := ?_) rfl (by kernel_rfl) rfl (by kernel_rfl) (by kernel_rfl) (fun _ _ _ h => h) (by rfl) ?_ ?_; rotate_left; (focus (intro w; go_simp; (try with_reducible rfl))); (try simp only [Act.put, qqa]); refine TT.takeW 20 (v := ?_) rfl (by kernel_rfl) rfl (by kernel_rfl) (by kernel_rfl) (fun _ _ _ h => h) (by rfl) ?_ ?_; rotate_left; (focus (intro w; go_simp; (try with_reducible rfl))); (try simp only [Act.put]))
      (refine TT.out 21 (by kernel_rfl) rfl rfl (fun K hK => ?_); go_simp; refine hK.out _ _ ?_; clear hK K; (try simp only [Act.put, qqa, qqb, qqc]))
      (refine TT.done (by kernel_rfl) ?_)
      go_end0
      refine ⟨rfl, .slice AB (n + 1) cB, .slice AC (m + 1) cC, ?_⟩
      rw [show strV name = .string ⟨name.toArray⟩ from rfl]
      exact ((HB.store (z := zs) pkQ 0 (.slice AB (n + 1) cB)).storeTo (z := zs) pkQ 1 _ #[.slice AB (n + 1) cB, .slice AC (m + 1) cC] rfl).sub pkQ
    · (go_simp; refine hK.out _ _ ?_ (fun hHeld => ?_); (focus (try dsimp only); go_keep); clear hK K; (try simp only [Act.put, qqa, qqb, qqc]))
      have Hb := Ha.alloc #[.slice A k c] 25
      have own7 := Hb.row (v := .slice As n cs) pkQ
      have lit1 := Hb.box (z := w.drew.heap.size) pkQ
      (refine TT.one 8 (by kernel_rfl) rfl rfl (fun K hK => ?_); (refine step_app3 (v := .slice As n cs) (by rfl) _ _ stS (by rfl) (by rfl) own7 (by rfl) (news := [.string ⟨name.toArray⟩]) (by rfl) (litRd lit1) (fun h => by cases h) (by intro u hu; simp at hu; (repeat' (rcases hu with rfl | hu)); all_goals (first | rfl | (subst hu; rfl))) (by omega) (by first | exact Nat.zero_le _ | omega | (simp; omega)) ?_; intro vA wA ownA gA atA; have HA := Hb.app (v := .slice As n cs) pkQ ownA gA atA; obtain ⟨eB, eL, hcB⟩ := HS.get (z := zs) HA; obtain ⟨e0, ef0⟩ := hcB 0; obtain ⟨e1, ef1⟩ := hcB 1; clear hcB; obtain ⟨AB, cB, rfl, -, -⟩ := own_slice ownA; clear ownA gA atA); refine hK.out _ _ ?_ (fun hHeld => ?_); (focus (try dsimp only); go_keep); clear hK K; (try simp only [Act.put, qqa, qqb, qqc]))
      have own8 := HA.row (v := .slice Ac m cc) pkQ
      have lit2 := HA.box (z := (w.drew.alloc (.cells #[.string ⟨name.toArray⟩] 9)).heap.size) pkQ
      rw [hz1] at lit2
      (refine TT.one 15 (by kernel_rfl) rfl rfl (fun K hK => ?_); (refine step_app3 (v := .slice Ac m cc) (by rfl) _ _ stSS (by rfl) (by rfl) own8 (by rfl) (news := [.slice A k c]) (by rfl) (litRd lit2) (fun h => by cases h) (by intro u hu; simp at hu; (repeat' (rcases hu with rfl | hu)); all_goals (first | rfl | (subst hu; rfl))) (by omega) (by first | exact Nat.zero_le _ | omega | (simp; omega)) ?_; intro vA wA ownA gA atA; have HB := HA.app (v := .slice Ac m cc) pkQ ownA gA atA; obtain ⟨fB, fL, hcB⟩ := HS.get (z := zs) HB; obtain ⟨f0, ff0⟩ := hcB 0; obtain ⟨f1, ff1⟩ := hcB 1; clear hcB; obtain ⟨AC, cC, rfl, -, -⟩ := own_slice ownA); refine hK.out _ _ ?_ (fun hHeld => ?_); (focus (try dsimp only); go_keep); clear hK K; (try simp only [Act.put, qqa, qqb, qqc]))
      (refine TT.take 16 (v := ?_) rfl (by kernel_rfl) (by kernel_rfl) (by kernel_rfl) (fun _ _ _ h => h) (by rfl) (by assumption) ?_ ?_; rotate_left; (focus (intro w hSw; (try dsimp only at hSw); go_simp; (try with_reducible rfl))); (try simp only [Act.put]); refine TT.take 17 (v := ?_) rfl (by kernel_rfl) (by kernel_rfl) (by kernel_rfl) (fun _ _ _ h => h) (by rfl) (by assumption) ?_ ?_; rotate_left; (focus (intro w hSw; (try dsimp only at hSw); go_simp; (try with_reducible rfl))); (try simp only [Act.put]))
      (refine TT.out 18 (by kernel_rfl) rfl rfl (fun K hK => ?_); go_simp; refine hK.out _ _ ?_; clear hK K; (try simp only [Act.put, qqa, qqb, qqc]))
      (refine TT.takeW 19 (v := ?_) rfl (by kernel_rfl) rfl (by kernel_rfl) (by kernel_rfl) (fun _ _ _ h => h) (by rfl) ?_ ?_; rotate_left; (focus (intro w; go_simp; (try with_reducible rfl))); (try simp only [Act.put, qqa]); refine TT.takeW 20 (v := ?_) rfl (by kernel_rfl) rfl (by kernel_rfl) (by kernel_rfl) (fun _ _ _ h => h) (by rfl) ?_ ?_; rotate_left; (focus (intro w; go_simp; (try with_reducible rfl))); (try simp only [Act.put]))
      (refine TT.out 21 (by kernel_rfl) rfl rfl (fun K hK => ?_); go_simp; refine hK.out _ _ ?_; clear hK K; (try simp only [Act.put, qqa, qqb, qqc]))
      (refine TT.done (by kernel_rfl) ?_)
      go_end0
      refine ⟨rfl, .slice AB (n + 1) cB, .slice AC (m + 1) cC, ?_⟩
      rw [show strV name = .string ⟨name.toArray⟩ from rfl]
      exact ((HB.store (z := zs) pkQ 0 (.slice AB (n + 1) cB)).storeTo (z := zs) pkQ 1 _ #[.slice AB (n + 1) cB, .slice AC (m + 1) cC] rfl).sub pkQ
  · (go_simp; refine hK.out _ _ ?_ (fun hHeld => ?_); (focus (try dsimp only); go_keep); clear hK K; (try simp only [Act.put, qqa, qqb, qqc]))
    have Hc := Hd.alloc #[.slice A k c] 25
    have Hb := Hc.alloc #[.string ⟨name.toArray⟩] 9
    have own7 := Hb.row (v := .slice As n cs) pkQ
    have lit1 := Hb.box (z := (w.drew.alloc (.cells #[.slice A k c] 25)).heap.size) pkQ
    rw [hz1] at lit1
    (refine TT.one 7 (by kernel_rfl) rfl rfl (fun K hK => ?_); go_simp; refine hK.out _ _ ?_ (fun hHeld => ?_); (focus (try dsimp only); go_keep); clear hK K; (try simp only [Act.put, qqa, qqb, qqc]))
    (refine TT.one 8 (by kernel_rfl) rfl rfl (fun K hK => ?_); (refine step_app3 (v := .slice As n cs) (by rfl) _ _ stS (by rfl) (by rfl) own7 (by rfl) (news := [.string ⟨name.toArray⟩]) (by rfl) (litRd lit1) (fun h => by cases h) (by intro u hu; simp at hu; (repeat' (rcases hu with rfl | hu)); all_goals (first | rfl | (subst hu; rfl))) (by omega) (by first | exact Nat.zero_le _ | omega | (simp; omega)) ?_; intro vA wA ownA gA atA; have HA := Hb.app (v := .slice As n cs) pkQ ownA gA atA; obtain ⟨eB, eL, hcB⟩ := HS.get (z := zs) HA; obtain ⟨e0, ef0⟩ := hcB 0; obtain ⟨e1, ef1⟩ := hcB 1; clear hcB; obtain ⟨AB, cB, rfl, -, -⟩ := own_slice ownA; clear ownA gA atA); refine hK.out _ _ ?_ (fun hHeld => ?_); (focus (try dsimp only); go_keep); clear hK K; (try simp only [Act.put, qqa, qqb, qqc]))
    have own8 := HA.row (v := .slice Ac m cc) pkQ
    have lit2 := HA.box (z := w.drew.heap.size) pkQ
    (refine TT.one 15 (by kernel_rfl) rfl rfl (fun K hK => ?_); (refine step_app3 (v := .slice Ac m cc) (by rfl) _ _ stSS (by rfl) (by rfl) own8 (by rfl) (news := [.slice A k c]) (by rfl) (litRd lit2) (fun h => by cases h) (by intro u hu; simp at hu; (repeat' (rcases hu with rfl | hu)); all_goals (first | rfl | (subst hu; rfl))) (by omega) (by first | exact Nat.zero_le _ | omega | (simp; omega)) ?_; intro vA wA ownA gA atA; have HB := HA.app (v := .slice Ac m cc) pkQ ownA gA atA; obtain ⟨fB, fL, hcB⟩ := HS.get (z := zs) HB; obtain ⟨f0, ff0⟩ := hcB 0; obtain ⟨f1, ff1⟩ := hcB 1; clear hcB; obtain ⟨AC, cC, rfl, -, -⟩ := own_slice ownA); refine hK.out _ _ ?_ (fun hHeld => ?_); (focus (try dsimp only); go_keep); clear hK K; (try simp only [Act.put, qqa, qqb, qqc]))
    (refine TT.take 16 (v := ?_) rfl (by kernel_rfl) (by kernel_rfl) (by kernel_rfl) (fun _ _ _ h => h) (by rfl) (by assumption) ?_ ?_; rotate_left; (focus (intro w hSw; (try dsimp only at hSw); go_simp; (try with_reducible rfl))); (try simp only [Act.put]); refine TT.take 17 (v := ?_) rfl (by kernel_rfl) (by kernel_rfl) (by kernel_rfl) (fun _ _ _ h => h) (by rfl) (by assumption) ?_ ?_; rotate_left; (focus (intro w hSw; (try dsimp only at hSw); go_simp; (try with_reducible rfl))); (try simp only [Act.put]))
    (refine TT.out 18 (by kernel_rfl) rfl rfl (fun K hK => ?_); go_simp; refine hK.out _ _ ?_; clear hK K; (try simp only [Act.put, qqa, qqb, qqc]))
    (refine TT.takeW 19 (v := ?_) rfl (by kernel_rfl) rfl (by kernel_rfl) (by kernel_rfl) (fun _ _ _ h => h) (by rfl) ?_ ?_; rotate_left; (focus (intro w; go_simp; (try with_reducible rfl))); (try simp only [Act.put, qqa]); refine TT.takeW 20 (v := ?_) rfl (by kernel_rfl) rfl (by kernel_rfl) (by kernel_rfl) (fun _ _ _ h => h) (by rfl) ?_ ?_; rotate_left; (focus (intro w; go_simp; (try with_reducible rfl))); (try simp only [Act.put]))
    (refine TT.out 21 (by kernel_rfl) rfl rfl (fun K hK => ?_); go_simp; refine hK.out _ _ ?_; clear hK K; (try simp only [Act.put, qqa, qqb, qqc]))
    (refine TT.done (by kernel_rfl) ?_)
    go_end0
    refine ⟨rfl, .slice AB (n + 1) cB, .slice AC (m + 1) cC, ?_⟩
    rw [show strV name = .string ⟨name.toArray⟩ from rfl]
    exact ((HB.store (z := zs) pkQ 0 (.slice AB (n + 1) cB)).storeTo (z := zs) pkQ 1 _ #[.slice AB (n + 1) cB, .slice AC (m + 1) cC] rfl).sub pkQ
abbrev Sq := List (Bs × Value × List Bs)
def fdR (sc : Sq) (t : Tk) : Value × Int × Int := match findP (sc.map Prod.fst) t.text with
  | some k => ((sc.map fun x => x.2.1).getD k (.slice none 0 0), 0, 0)
  | none => (.slice none 0 0, t.pos, 7)
def FindPost (w : World) (r : Value × Int × Int) (e : Ending) (w' : World) : Prop := e = .returned (.tuple #[r.1, .int .i64 r.2.1, .int .i64 r.2.2]) ∧ Below w.heap.size w w'
theorem find_c {w : World} {l : List HA} {zs : Nat} {sv cv : Value} {sc : Sq} (t : Tk) (hn : sc.length ≤ 1000000) (H : HS w (boxA zs #[sv, cv] 143 :: rowA 9 1 sv sc.length (sc.map fun x => strV x.1) :: rowA 25 1 cv sc.length (sc.map fun x => x.2.1) :: l)) :
    Calls Tryz.prog 145 #[.pointer (some ⟨zs, 0, none⟩), .agg #[.int .i64 t.kind, .string ⟨t.text.toArray⟩, .int .i64 t.int, .int .i64 t.pos]] w (FindPost w (fdR sc t)) := by
  obtain ⟨As, cs, rfl⟩ := H.slice (v := sv) pkQ
  obtain ⟨Ac, cc, rfl⟩ := H.slice (v := cv) pkQ
  have H0 := H.alloc (tkC t) 100
  have o1 := H0.row (v := .slice As sc.length cs) pkQ
  have o2 := H0.row (v := .slice Ac sc.length cc) pkQ
  have hr : RowB (w.alloc (.cells (tkC t) 100)) (w.alloc (.cells (tkC t) 100)).heap.size As sc.length (sc.map Prod.fst) := RowOf.of_own (by rw [flat_str, List.map_map]; exact o1) (by simp)
  have hb : Below w.heap.size w (w.alloc (.cells (tkC t) 100)) := by (exact belQ)
  have hI := sIndex_c (c := cs) t.text hr.drew (by unfold maxLen; omega)
  unfold tkC at H0 hI hb o2
  cases hf : findP (sc.map Prod.fst) t.text with
  | none =>
    rw [show fdR sc t = (.slice none 0 0, t.pos, 7) by unfold fdR; rw [hf]]
    rw [show idxI (sc.map Prod.fst) t.text = -1 by unfold idxI; rw [hf]] at hI
    clear hf hr o1 o2 H
    go_enter Tryz.func145, Tryz.ntmps145
    go_upto_region 1 with fail
    generalize hw : w.alloc _ = w1 at hI H0 hb ⊢
    clear hw
    obtain ⟨dB, dL, hcB⟩ := HS.get (z := zs) H0; obtain ⟨d0, df0⟩ := hcB 0; obtain ⟨d1, df1⟩ := hcB 1; clear hcB
    obtain ⟨kB, kL, hcB⟩ := HS.get (z := w.heap.size) H0; obtain ⟨k0, kf0⟩ := hcB 0; obtain ⟨k1, kf1⟩ := hcB 1; obtain ⟨k2, kf2⟩ := hcB 2; obtain ⟨k3, kf3⟩ := hcB 3; clear hcB
    (refine wp_region_G 7 (fun w' => w'.cell? ⟨zs, 0, none⟩ = some (.slice As sc.length cs) ∧ w'.cell? ⟨w.heap.size, 1, none⟩ = some (.string ⟨t.text.toArray⟩)) (by kernel_rfl) ?_ (fun hHeld => ?_); (focus (try dsimp only); go_keep))
    (refine GG.k 0 ?_; refine GG.k 1 ?_; refine GG.k 2 ?_; refine GG.k 3 ?_; refine GG.k 4 ?_; refine GG.k 5 ?_)
    (refine GG.o 6 (fun K hK => ?_); (go_simp; go_at_call 44; (with_reducible refine hI.mono ?_); rintro e w2 ⟨rfl, rfl⟩); refine hK.out _ _ ?_ (fun hHeld => ?_); (focus (try dsimp only); go_keep); clear hK K; (try simp only [Act.put, qqa, qqb, qqc]))
    (refine GG.l (fun K hK => ?_); go_simp; refine hK.out _ _ ?_; clear hK K)
    go_upto_region 3 with fail
    go_quiet (fail)
    go_wp2_with fail
    go_ret3
    exact ⟨rfl, by (exact belQ)⟩
  | some k =>
    have hk := findP_lt hf
    rw [List.length_map] at hk
    obtain ⟨x, hx⟩ : ∃ x, sc[k]? = some x := ⟨sc[k], List.getElem?_eq_getElem hk⟩
    rw [show fdR sc t = (x.2.1, 0, 0) by unfold fdR; rw [hf]; simp [hx]]
    rw [show idxI (sc.map Prod.fst) t.text = (k : Int) by unfold idxI; rw [hf]] at hI
    have h2 := Rd.of_own o2 (by intro e; have := congrArg List.length e; simp at this; rw [this] at hk; simp at hk)
    obtain ⟨b, off, e2, hb2, h3⟩ := h2
    have h4 := h3 k x.2.1 (by simp [hx])
    have hi0 : (0 : Int) ≤ (k : Int) := by omega
    have hi1 : (k : Int) < (sc.length : Int) := by omega
    rw [e2] at H0
    clear hf hr o1 o2 H h3 hx
    go_enter Tryz.func145, Tryz.ntmps145
    go_upto_region 1 with fail
    generalize hw : w.alloc _ = w1 at hI H0 hb h4 hb2 ⊢
    clear hw
    obtain ⟨dB, dL, hcB⟩ := HS.get (z := zs) H0; obtain ⟨d0, df0⟩ := hcB 0; obtain ⟨d1, df1⟩ := hcB 1; clear hcB
    obtain ⟨gB, gL, hcB⟩ := HS.get (z := w.heap.size) H0; obtain ⟨g0, gf0⟩ := hcB 0; obtain ⟨g1, gf1⟩ := hcB 1; obtain ⟨g2, gf2⟩ := hcB 2; obtain ⟨g3, gf3⟩ := hcB 3; clear hcB
    (refine wp_region_G 7 (fun w' => w'.cell? ⟨zs, 0, none⟩ = some (.slice As sc.length cs) ∧ w'.cell? ⟨w.heap.size, 1, none⟩ = some (.string ⟨t.text.toArray⟩)) (by kernel_rfl) ?_ (fun hHeld => ?_); (focus (try dsimp only); go_keep))
    (refine GG.k 0 ?_; refine GG.k 1 ?_; refine GG.k 2 ?_; refine GG.k 3 ?_; refine GG.k 4 ?_; refine GG.k 5 ?_)
    (refine GG.o 6 (fun K hK => ?_); (go_simp; go_at_call 44; (with_reducible refine hI.mono ?_); rintro e w2 ⟨rfl, rfl⟩); refine hK.out _ _ ?_ (fun hHeld => ?_); (focus (try dsimp only); go_keep); clear hK K; (try simp only [Act.put, qqa, qqb, qqc]))
    (refine GG.l (fun K hK => ?_); go_simp; refine hK.out _ _ ?_; clear hK K)
    go_wp2_with fail
    go_ret3
    exact ⟨rfl, by (exact belQ)⟩
def poolA (pool : Pool) : HA where
  holds w S := PoolAt w pool ∧ S = fun k => ∃ x ∈ pool, x.1.ownBlock = some k
  keep := by
    rintro w w' S ⟨h, rfl⟩ g
    exact ⟨fun x hx => own_agree (h x hx) g fun k hk => ⟨x, hx, hk⟩, rfl⟩
  lt := by
    rintro w S ⟨h, rfl⟩ k ⟨x, hx, hk⟩
    exact ((h x hx).lt k hk).2
def rowI (p : Pp) (ns : Nat → Nat) (cs : Nat → List Value) (i : Nat) : HA := rowA (rty i) (rsz i) (p.rowV i) (ns i) (cs i)
theorem rows_sep {p : Pp} {lo : Nat} {w : World} {s : Ps} {rv : Value} {ns : Nat → Nat} {cs : Nat → List Value} (h : DSt p lo w s rv ns cs) : ∀ (L : List Nat), L.Nodup → (∀ i ∈ L, i < 21) → Sep (L.map (rowI p ns cs)) w (fun k => ∃ i ∈ L, (p.rowV i).ownBlock = some k)
  | [], _, _ => fun k ⟨i, hi, _⟩ => by cases hi
  | i :: L, hd, hL => by
    rw [List.nodup_cons] at hd
    refine ⟨fun k => (p.rowV i).ownBlock = some k, _, ⟨own_base (h.rows i (hL i (List.mem_cons_self ..))) (Nat.zero_le _), rfl⟩, rows_sep h L hd.2 fun j hj => hL j (List.mem_cons_of_mem _ hj), ?_, fun k => ?_⟩
    · rintro k hk ⟨j, hj, hk2⟩
      exact h.dist i j k (hL i (List.mem_cons_self ..)) (hL j (List.mem_cons_of_mem _ hj)) (fun e => hd.1 (e ▸ hj)) hk hk2
    · constructor
      · rintro ⟨j, hj, hk⟩
        rcases List.mem_cons.1 hj with rfl | hj
        · exact .inl hk
        · exact .inr ⟨j, hj, hk⟩
      · rintro (hk | ⟨j, hj, hk⟩)
        · exact ⟨i, List.mem_cons_self .., hk⟩
        · exact ⟨j, List.mem_cons_of_mem _ hj, hk⟩
theorem HS.explode {p : Pp} {w : World} {s : Ps} {ns : Nat → Nat} {cs : Nat → List Value} {pool : Pool} {l : List HA} (H : HS w (dA p s ns cs pool :: l)) :
    ∃ rv, HS w (boxA p.pb (psC p s rv) 69 :: poolA pool :: ((List.range 21).map (rowI p ns cs) ++ l)) := by
  obtain ⟨S, ⟨rv, h, hq, rfl⟩, h2⟩ := H.go
  have hR := rows_sep h (List.range 21) List.nodup_range fun i hi => List.mem_range.1 hi
  have hty : ∀ x ∈ pool, ∀ k, x.1.ownBlock = some k → ∃ cur, w.heap[k]? = some (.cells cur 105 (0, 0)) := fun x hx k hk => ref_blk (hq x hx) hk
  have hpr : ∀ k, (∃ x ∈ pool, x.1.ownBlock = some k) → ¬ ∃ i ∈ List.range 21, (p.rowV i).ownBlock = some k := by
    rintro k ⟨x, hx, hk⟩ ⟨i, hi, hk2⟩
    obtain ⟨c, hc⟩ := hty x hx k hk
    obtain ⟨c2, hc2⟩ := ref_blk (h.rows i (List.mem_range.1 hi)) hk2
    rw [hc] at hc2
    injection hc2 with hc2
    injection hc2 with _ hc2
    exact (rty_ne i (List.mem_range.1 hi)).1 hc2.symm
  have hpb : ∀ k, k = p.pb → ¬ ((∃ x ∈ pool, x.1.ownBlock = some k) ∨ ∃ i ∈ List.range 21, (p.rowV i).ownBlock = some k) := by
    rintro k rfl (⟨x, hx, hk⟩ | ⟨i, hi, hk⟩)
    · obtain ⟨c, hc⟩ := hty x hx _ hk
      rw [h.at_.blk] at hc
      injection hc with hc
      injection hc with _ hc
      exact absurd hc (by decide)
    · have := ((h.rows i (List.mem_range.1 hi)).lt _ hk).1
      omega
  have hB : (allA (boxA p.pb (psC p s rv) 69 :: poolA pool :: (List.range 21).map (rowI p ns cs))).holds w (fun k => k = p.pb ∨ (∃ x ∈ pool, x.1.ownBlock = some k) ∨ ∃ i ∈ List.range 21, (p.rowV i).ownBlock = some k) :=
    ⟨(· = p.pb), _, ⟨h.at_.blk, rfl⟩, ⟨_, _, ⟨hq, rfl⟩, hR, hpr, fun _ => Iff.rfl⟩, hpb, fun _ => Iff.rfl⟩
  have H2 := h2 w _ _ (PFr.refl _ _) hB fun k hk => by
    rcases hk with hk | hk | ⟨i, hi, hk⟩
    · exact .inl (.inl hk)
    · exact .inl (.inr (.inr (.inr (.inr hk))))
    · exact .inl (.inr (.inr (.inr (.inl ⟨i, List.mem_range.1 hi, hk⟩))))
  exact ⟨rv, H2.all_⟩
theorem HS.rowStore {w : World} {l l' : List HA} {e : TypeId} {size n g cap : Nat} {xs : List Value} (H : HS w l) (hp : Pick l (rowA e size (.slice (some ⟨g, 0, none⟩) n cap) n xs) l') (j : Nat) (_hj : j < xs.length) (u : Value) :
    HS (w.setCell ⟨g, j, none⟩ u) (rowA e size (.slice (some ⟨g, 0, none⟩) n cap) n (xs.set j u) :: l') := by
  obtain ⟨S, ⟨h, rfl⟩, h2⟩ := (H.pick hp).go
  refine h2 _ _ _ ((PFr.refl (fun k => (Value.slice (some ⟨g, 0, none⟩) n cap).ownBlock = some k) w).setCell (q := ⟨g, j, none⟩) (.inl rfl) u) ⟨⟨by rw [List.length_set]; exact h.1, ?_⟩, rfl⟩ fun k hk => .inl hk
  rcases h.2 with ⟨h1, -⟩ | ⟨g', cap', cur, h1, h3, h4, h5, h6, h7, h8⟩
  · cases h1
  · injection h1 with h1 _ hc
    injection h1 with h1
    injection h1 with h1 _ _
    subst h1 hc
    refine .inr ⟨g, cap, cur.set! j u, rfl, h3, heap_set h4 u, h5, h6, by rw [Array.set!_eq_setIfInBounds, Array.size_setIfInBounds]; exact h7, ?_⟩
    rw [Array.set!_eq_setIfInBounds, Array.toList_setIfInBounds, ← h8, List.take_set]
structure Ck where
  seen : List Bs
  stores : List (Bs × List Bs × List Int)
def withinI (n a b : Int) : Bool := decide (a ≤ n) && decide (n ≤ b)
def declC (k : Ck) (s : Bs) : Int := if isNameB s = false then 3 else if k.seen.contains s = true then 4 else 0
def ownersC (t : Tab) : Int → List Int → Bool
  | _, [] => true
  | b, o :: l => decide (b < o) && (match t.cols[o.toNat]? with
    | none => false
    | some c => decide (c.ns ≠ [] ∨ c.rf ≠ []) && ownersC t o l)
def rulesC (t : Tab) (c : Col) : Bool :=
  if c.joint ≠ 0 ∧ (c.joint ≠ 1 ∨ c.owners = []) then false
  else if withinI c.duty 0 1048576 = false then false
  else if c.duty ≠ 0 ∧ c.owners = [] then false
  else decide (t.retain = 0 ∨ c.duty ≤ t.retain)
abbrev RowZ := @RowOf Int (fun z => [Value.int .i64 z])
theorem RowZ.at1 {w : World} {B n : Nat} {A : Option Addr} {ss : List Int} (h : RowZ w B A n ss) {k : Nat} (hk : k < n) : ∃ b off z, A = some ⟨b, off, none⟩ ∧ b < B ∧ ss[k]? = some z ∧ w.cell? ⟨b, off + k, none⟩ = some (.int .i64 z) := by
  obtain ⟨b, off, s, h1, h2, h3, h4⟩ := h.at_ 1 (fun _ => rfl) (by omega) hk
  have := h4 0 _ rfl
  rw [Nat.mul_one] at this
  exact ⟨b, off, s, h1, h2, h3, this⟩
theorem asc_snoc : ∀ (l : List Int) (x : Int), asc l → (∀ y ∈ l, y < x) → asc (l ++ [x]) := by
  intro l
  induction l with
  | nil => intro x _ _; trivial
  | cons a l ih =>
    intro x h hx
    refine asc_cons (ih x (asc_tail h) (fun y hy => hx y (by simp [hy]))) (fun y hy => ?_)
    rcases List.mem_append.1 hy with hy | hy
    · exact asc_lt h y hy
    · simp at hy; subst hy; exact hx a (by simp)
theorem compact_upto (d : Array Int) (hs : ∀ i j, i < j → j < d.size → d[i]! ≤ d[j]!) : ∀ m, m ≤ d.size → asc (Lib.compactUpTo d m) ∧ ∀ x, x ∈ Lib.compactUpTo d m ↔ ∃ i, i < m ∧ d[i]! = x := by
  intro m
  induction m with
  | zero => intro _; exact ⟨trivial, fun x => by simp [Lib.compactUpTo]⟩
  | succ m ih =>
    intro hm
    obtain ⟨h1, h2⟩ := ih (by omega)
    rw [Lib.compactUpTo_succ]
    cases hk : Lib.keeps d m
    · have hk2 := hk
      simp [Lib.keeps] at hk2
      obtain ⟨h0, he⟩ := hk2
      rw [if_neg (by decide), List.append_nil]
      refine ⟨h1, fun x => ?_⟩
      rw [h2]
      constructor
      · rintro ⟨i, hi, e⟩; exact ⟨i, by omega, e⟩
      · rintro ⟨i, hi, e⟩
        rcases Nat.lt_or_ge i m with h | h
        · exact ⟨i, h, e⟩
        · obtain rfl : i = m := by omega
          exact ⟨i - 1, by omega, by rw [← e, he]⟩
    · rw [if_pos rfl]
      refine ⟨asc_snoc _ _ h1 (fun y hy => ?_), fun x => ?_⟩
      · obtain ⟨i, hi, e⟩ := (h2 y).1 hy
        have hk2 := hk
        simp [Lib.keeps] at hk2
        rcases hk2 with h0 | hne
        · omega
        · have a1 := hs (m - 1) m (by omega) (by omega)
          have a2 : d[i]! ≤ d[m - 1]! := by
            rcases Nat.lt_or_ge i (m - 1) with h | h
            · exact hs i (m - 1) h (by omega)
            · obtain rfl : i = m - 1 := by omega
              exact Int.le_refl _
          omega
      · rw [List.mem_append, h2]
        constructor
        · rintro (⟨i, hi, e⟩ | h)
          · exact ⟨i, by omega, e⟩
          · simp at h; exact ⟨m, by omega, h.symm⟩
        · rintro ⟨i, hi, e⟩
          rcases Nat.lt_or_ge i m with h | h
          · exact .inl ⟨i, h, e⟩
          · obtain rfl : i = m := by omega
            exact .inr (by simp [e])
theorem compact_cols (e : List Int) : Lib.compact (e.mergeSort fun x y => decide (x ≤ y)) = e.foldl addL [] := by
  obtain ⟨s, hs⟩ : ∃ s, (e.mergeSort fun x y => decide (x ≤ y)) = s := ⟨_, rfl⟩
  have hp : s.Pairwise (fun x y => decide (x ≤ y) = true) := by
    rw [← hs]
    exact List.pairwise_mergeSort (fun a b c h1 h2 => by simp at *; omega) (fun a b => by simp; omega) e
  have hm : ∀ x, x ∈ s ↔ x ∈ e := fun x => by rw [← hs]; exact List.mem_mergeSort
  rw [hs]
  obtain ⟨h1, h2⟩ := compact_upto s.toArray (fun i j hij hj => by
    have hj' : j < s.length := by simpa using hj
    have := List.pairwise_iff_getElem.1 hp i j (by omega) hj' hij
    simp at this
    simpa [getElem!_pos, hj', show i < s.length by omega] using this) s.length (by simp)
  obtain ⟨h3, h4⟩ := foldl_add e [] trivial
  unfold Lib.compact
  refine asc_unique _ _ h1 h3 (fun x => ?_)
  rw [h2, h4, ← hm]
  constructor
  · rintro ⟨i, hi, rfl⟩
    left
    simp [hi]
  · rintro (h | h)
    · obtain ⟨i, hi, rfl⟩ := List.getElem_of_mem h
      exact ⟨i, hi, by simp [hi]⟩
    · simp at h
end Go.Proofs.YtpnfbehbheddeaaGreatDoor
