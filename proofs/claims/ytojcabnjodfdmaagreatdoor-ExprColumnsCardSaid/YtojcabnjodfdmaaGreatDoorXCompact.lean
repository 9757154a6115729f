/- What Sort and Compact give is what inserting one by one gives. Plain Lean, no condition. -/
import Derived.Test.YtojcabnjodfdmaaGreatDoorBb
import Derived.Lib.SlicesCompact
namespace Go.Proofs.YtojcabnjodfdmaaGreatDoor

theorem asc_snoc : ∀ (l : List Int) (x : Int), asc l → (∀ y ∈ l, y < x) → asc (l ++ [x]) := by
  intro l
  induction l with
  | nil => intro x _ _; trivial
  | cons a l ih =>
    intro x h hx
    refine asc_cons (ih x (asc_tail h) (fun y hy => hx y (by simp [hy]))) (fun y hy => ?_)
    rcases List.mem_append.1 hy with hy | hy
    · exact asc_lt h y hy
    · simp at hy; subst hy; exact hx a (by simp)
theorem compact_upto (d : Array Int) (hs : ∀ i j, i < j → j < d.size → d[i]! ≤ d[j]!) : ∀ m, m ≤ d.size → asc (Lib.compactUpTo d m) ∧ ∀ x, x ∈ Lib.compactUpTo d m ↔ ∃ i, i < m ∧ d[i]! = x := by
  intro m
  induction m with
  | zero => intro _; exact ⟨trivial, fun x => by simp [Lib.compactUpTo]⟩
  | succ m ih =>
    intro hm
    obtain ⟨h1, h2⟩ := ih (by omega)
    rw [Lib.compactUpTo_succ]
    cases hk : Lib.keeps d m
    · have hk2 := hk
      simp [Lib.keeps] at hk2
      obtain ⟨h0, he⟩ := hk2
      rw [if_neg (by decide), List.append_nil]
      refine ⟨h1, fun x => ?_⟩
      rw [h2]
      constructor
      · rintro ⟨i, hi, e⟩; exact ⟨i, by omega, e⟩
      · rintro ⟨i, hi, e⟩
        rcases Nat.lt_or_ge i m with h | h
        · exact ⟨i, h, e⟩
        · obtain rfl : i = m := by omega
          exact ⟨i - 1, by omega, by rw [← e, he]⟩
    · rw [if_pos rfl]
      refine ⟨asc_snoc _ _ h1 (fun y hy => ?_), fun x => ?_⟩
      · obtain ⟨i, hi, e⟩ := (h2 y).1 hy
        have hk2 := hk
        simp [Lib.keeps] at hk2
        rcases hk2 with h0 | hne
        · omega
        · have a1 := hs (m - 1) m (by omega) (by omega)
          have a2 : d[i]! ≤ d[m - 1]! := by
            rcases Nat.lt_or_ge i (m - 1) with h | h
            · exact hs i (m - 1) h (by omega)
            · obtain rfl : i = m - 1 := by omega
              exact Int.le_refl _
          omega
      · rw [List.mem_append, h2]
        constructor
        · rintro (⟨i, hi, e⟩ | h)
          · exact ⟨i, by omega, e⟩
          · simp at h; exact ⟨m, by omega, h.symm⟩
        · rintro ⟨i, hi, e⟩
          rcases Nat.lt_or_ge i m with h | h
          · exact .inl ⟨i, h, e⟩
          · obtain rfl : i = m := by omega
            exact .inr (by simp [e])
theorem compact_cols (e : List Int) : Lib.compact (e.mergeSort fun x y => decide (x ≤ y)) = e.foldl addL [] := by
  obtain ⟨s, hs⟩ : ∃ s, (e.mergeSort fun x y => decide (x ≤ y)) = s := ⟨_, rfl⟩
  have hp : s.Pairwise (fun x y => decide (x ≤ y) = true) := by
    rw [← hs]
    exact List.pairwise_mergeSort (fun a b c h1 h2 => by simp at *; omega) (fun a b => by simp; omega) e
  have hm : ∀ x, x ∈ s ↔ x ∈ e := fun x => by rw [← hs]; exact List.mem_mergeSort
  rw [hs]
  obtain ⟨h1, h2⟩ := compact_upto s.toArray (fun i j hij hj => by
    have hj' : j < s.length := by simpa using hj
    have := List.pairwise_iff_getElem.1 hp i j (by omega) hj' hij
    simp at this
    simpa [getElem!_pos, hj', show i < s.length by omega] using this) s.length (by simp)
  obtain ⟨h3, h4⟩ := foldl_add e [] trivial
  unfold Lib.compact
  refine asc_unique _ _ h1 h3 (fun x => ?_)
  rw [h2, h4, ← hm]
  constructor
  · rintro ⟨i, hi, rfl⟩
    left
    simp [hi]
  · rintro (h | h)
    · obtain ⟨i, hi, rfl⟩ := List.getElem_of_mem h
      exact ⟨i, hi, by simp [hi]⟩
    · simp at h
end Go.Proofs.YtojcabnjodfdmaaGreatDoor
