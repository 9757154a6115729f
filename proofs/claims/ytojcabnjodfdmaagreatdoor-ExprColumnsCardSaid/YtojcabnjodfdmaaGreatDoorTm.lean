/- Contract of the tape's SpoilExpr: some row of terms comes back, and only the tape's own block has changed. -/
import Derived.Test.YtojcabnjodfdmaaGreatDoorBd
namespace Go.Proofs.YtojcabnjodfdmaaGreatDoor
open Go.RowKit

theorem RowT.mk_at {w : World} {B b off n : Nat} {es : List T} (hl : es.length = n) (hb : b < B) (h : ∀ (k : Nat) t, es[k]? = some t → ∀ (j : Nat) u, (T.cells t)[j]? = some u → w.cell? ⟨b, off + k * 5 + j, none⟩ = some u) : RowT w B (some ⟨b, off, none⟩) n es := by
  refine ⟨hl, fun _ => ⟨b, off, rfl, hb, fun j u hu => ?_⟩⟩
  have hj : j < es.length * 5 := by
    have := (List.getElem?_eq_some_iff.1 hu).1
    rwa [flatMap_len 5 (fun _ => rfl)] at this
  have hq : j / 5 < es.length := by omega
  have hx := flatMap_at (cells := T.cells) 5 (fun _ => rfl) es (j / 5) (j % 5) es[j / 5] _ (List.getElem?_eq_getElem hq) (List.getElem?_eq_getElem (show j % 5 < (T.cells es[j / 5]).length by simp [T.cells]; omega))
  have he : j / 5 * 5 + j % 5 = j := by omega
  rw [he, hu] at hx
  have hf := h (j / 5) _ (List.getElem?_eq_getElem hq) (j % 5) _ (List.getElem?_eq_getElem (show j % 5 < (T.cells es[j / 5]).length by simp [T.cells]; omega))
  rw [← hx, Nat.add_assoc, he] at hf
  exact hf
theorem RowT.set1 {w : World} {B b off n : Nat} {es : List T} (h : RowT w B (some ⟨b, off, none⟩) n es) {i j : Nat} {t t' : T} {u : Value} (ht : es[i]? = some t) (hj : j < 5) (hc : t'.cells = t.cells.set j u) : RowT (w.setCell ⟨b, off + i * 5 + j, none⟩ u) B (some ⟨b, off, none⟩) n (es.set i t') := by
  have hi : i < es.length := (List.getElem?_eq_some_iff.1 ht).1
  have hat : ∀ (k : Nat) t, es[k]? = some t → ∀ (j : Nat) u, (T.cells t)[j]? = some u → w.cell? ⟨b, off + k * 5 + j, none⟩ = some u := by
    intro k t1 hk j1 u1 hu
    have hkn : k < n := by have := (List.getElem?_eq_some_iff.1 hk).1; have := h.len; omega
    obtain ⟨b', off', t2, e1, _, e2, e3⟩ := h.at_ 5 (fun _ => rfl) (by omega) hkn
    injection e1 with e1
    injection e1 with e11 e12
    subst e11 e12
    obtain rfl := Option.some.inj (e2.symm.trans hk)
    exact e3 j1 u1 hu
  have hb : b < B := by
    obtain ⟨b', off', t2, e1, e2, _⟩ := h.at_ 5 (fun _ => rfl) (by omega) (show i < n by have := h.len; omega)
    injection e1 with e1
    injection e1 with e11 e12
    subst e11
    exact e2
  refine RowT.mk_at (by rw [List.length_set]; exact h.len) hb ?_
  intro k t1 hk j1 u1 hu1
  have hj1 : j1 < 5 := by have := (List.getElem?_eq_some_iff.1 hu1).1; simpa [T.cells] using this
  by_cases hki : k = i
  · subst hki
    rw [List.getElem?_set_self hi] at hk
    obtain rfl := Option.some.inj hk
    rw [hc] at hu1
    by_cases hjj : j1 = j
    · subst hjj
      rw [List.getElem?_set_self (by simpa [T.cells] using hj)] at hu1
      obtain rfl := Option.some.inj hu1
      obtain ⟨old, hold⟩ : ∃ old, t.cells[j1]? = some old := ⟨_, List.getElem?_eq_getElem (by simpa [T.cells] using hj)⟩
      exact World.cell?_setCell_same _ _ _ (hat k t ht j1 old hold)
    · rw [List.getElem?_set_ne (Ne.symm hjj)] at hu1
      exact (World.cell?_setCell_other _ _ _ _ (fun e => hjj (by have := congrArg Addr.off e; simp at this; omega))).trans (hat k t ht j1 u1 hu1)
  · rw [List.getElem?_set_ne (Ne.symm hki)] at hk
    exact (World.cell?_setCell_other _ _ _ _ (fun e => hki (by have := congrArg Addr.off e; simp at this; omega))).trans (hat k t1 hk j1 u1 hu1)
/-- A row of terms that does not lie in the tape's block. -/
structure RowX (w : World) (b : Nat) (A : Option Addr) (n : Nat) (es : List T) : Prop where
  row : RowT w w.heap.size A n es
  far : n = 0 ∨ ∃ k off, A = some ⟨k, off, none⟩ ∧ k ≠ b
theorem RowX.tape {w w' : World} {b n : Nat} {A : Option Addr} {es : List T} (h : RowX w b A n es) (hg : w.grownBy w' (some b)) : RowX w' b A n es := by
  refine ⟨⟨h.row.len, fun hne => ?_⟩, h.far⟩
  obtain ⟨k, off, e, hk, hc⟩ := h.row.rd hne
  have hkb : k ≠ b := by
    rcases h.far with h0 | ⟨k', off', e', hk'⟩
    · have := h.row.len
      rw [h0] at this
      rw [List.eq_nil_of_length_eq_zero this] at hne
      exact absurd rfl hne
    · rw [e] at e'
      injection e' with e'
      injection e' with e1 _
      subst e1
      exact hk'
  exact ⟨k, off, e, Nat.lt_of_lt_of_le hk hg.size, fun j u hu => (World.cell?_of_block (hg.block k hk (fun e => hkb (by injection e)))).trans (hc j u hu)⟩
theorem RowX.step {w w' : World} {b n : Nat} {A : Option Addr} {es : List T} (h : RowX w b A n es) (hb : Below w.heap.size w w') : RowX w' b A n es := h.tape (grown_of_below hb _)
theorem RowX.of_own {w : World} {b base n c : Nat} {A : Option Addr} {es : List T} (h : w.ownsRow base 48 5 (.slice A n c) n (es.flatMap T.cells)) (hn : es.length = n) (hb : b < base) : RowX w b A n es := by
  refine ⟨RowOf.of_own h hn, ?_⟩
  rcases h.2 with ⟨h1, rfl⟩ | ⟨g, cap, cur, h1, h2, _⟩
  · exact .inl rfl
  · injection h1 with h1 _ _
    exact .inr ⟨g, 0, h1, by omega⟩
/-- What SpoilExpr leaves. -/
def SpPost (w : World) (b g n : Nat) (e : Ending) (w' : World) : Prop :=
  ∃ (A : Option Addr) (m c : Nat) (es : List T), e = .returned (.slice A m c) ∧ m ≤ c ∧ c ≤ maxLen ∧ m ≤ n + 1 ∧ (A = none → c = 0) ∧ RowX w' b A m es ∧ Tp w' b g ∧ w.grownBy w' (some b)
end Go.Proofs.YtojcabnjodfdmaaGreatDoor
