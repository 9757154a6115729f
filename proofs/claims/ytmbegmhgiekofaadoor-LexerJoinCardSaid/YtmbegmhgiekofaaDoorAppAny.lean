/- append(dst, src...) onto a row of the call's own, whatever the source: nil, empty or not. No condition beyond the size. -/
import Derived.Test.YtmbegmhgiekofaaDoorBase
import Derived.Laws.AppendOwnNone
namespace Go.Proofs.YtmbegmhgiekofaaDoor
open Go.RowKit
section
variable {P : Program} {ops : Array Oper} {rest : List Oper} {o : Oper} {a : Act} {Q : Exit → Act → World → Prop} {w : World}
theorem addr_add0 (b off j : Nat) : (⟨b, off, none⟩ : Addr).add j = ⟨b, off + j, none⟩ := by
  unfold Addr.add
  split
  · subst_vars; rfl
  · simp
theorem run_appAny {t e : TypeId} {size bytes : Nat} (ST : SliceTy P t e size bytes) (ty : TypeId) {base : Nat} {v : Value} {n : Nat} {xs : List Value} (hown : w.ownsRow base e size v n xs)
    {A : Option Addr} {m c B : Nat} {news : List Value} (hl : news.length = m * size) (hr : Rd w B A news) (hnone : A = none → c = 0) (h1 : ∀ u ∈ news, u.oneCell' = true)
    (hbytes : (n + m) * bytes ≤ 140737488355328) (hbase : base ≤ w.heap.size) :
    ∃ v' w', (Builtin.append_ #[t, t] ty #[v, .slice A m c]).run P w = .ok v' w' ∧ w'.ownsRow base e size v' (n + m) (xs ++ news) ∧ w.grownBy w' v.ownBlock ∧ (v'.ownBlock = v.ownBlock ∨ v'.ownBlock = some w.heap.size) := by
  obtain ⟨i, z, h2, h3, h4, h5, h6, h7, h8, h9⟩ := ST
  have h63 : n + m ≤ maxLen := by
    have : (n + m) * 1 ≤ (n + m) * bytes := Nat.mul_le_mul_left _ h9
    unfold maxLen
    omega
  rcases A with _ | ad
  · have hc := hnone rfl
    subst hc
    have hnews : news = [] := by
      rcases news with _ | ⟨x, l⟩
      · rfl
      · obtain ⟨b, off, e', _⟩ := hr (by simp)
        cases e'
    subst hnews
    have hm : m = 0 := by
      rcases Nat.eq_zero_or_pos m with h0 | h0
      · exact h0
      · have : 1 * 1 ≤ m * size := Nat.mul_le_mul h0 h8
        simp at hl
        omega
    subst hm
    have hrun := run_append_owned_none (P := P) (w := w) base t ty e i size h2 h3 v n xs hown
    exact ⟨v, w, hrun, by simpa using hown, ⟨rfl, rfl, rfl, Nat.le_refl _, fun _ _ _ => rfl⟩, .inl rfl⟩
  · have hcells : ∀ j u, news[j]? = some u → w.cell? (ad.add j) = some u := by
      intro j u hu
      obtain ⟨b, off, e', _, hc⟩ := hr (by rintro rfl; simp at hu)
      injection e' with e'
      subst e'
      rw [addr_add0]
      exact hc j u hu
    obtain ⟨v', w', hrun, g1, g2, _, g3⟩ := run_append_own_at (P := P) w base t ty e i z size bytes h2 h3 h4 h5 h6 h7 h8 v n xs hown ad m c news hl hcells h1 h63 hbytes hbase
    exact ⟨v', w', hrun, g1, g2, g3⟩
theorem wp_appAny {K : Act → World → Prop} (s x : Operand) {t e : TypeId} {size bytes : Nat} (ST : SliceTy P t e size bytes)
    (ho : o.op = .call { callee := .builtin .append, args := #[s, x], argTypes := #[t, t] })
    {base : Nat} {v : Value} {n : Nat} {xs : List Value} (hs : a.eval s = v) (hown : w.ownsRow base e size v n xs)
    {A : Option Addr} {m c B : Nat} {news : List Value} (hx : a.eval x = .slice A m c) (hl : news.length = m * size) (hr : Rd w B A news) (hnone : A = none → c = 0) (h1 : ∀ u ∈ news, u.oneCell' = true)
    (hbytes : (n + m) * bytes ≤ 140737488355328) (hbase : base ≤ w.heap.size)
    (h : ∀ v' w', w'.ownsRow base e size v' (n + m) (xs ++ news) → w.grownBy w' v.ownBlock → (v'.ownBlock = v.ownBlock ∨ v'.ownBlock = some w.heap.size) → K (a.put o.dst v') w') :
    o.wp P a w K Q := by
  obtain ⟨v', w', hrun, g1, g2, g3⟩ := run_appAny ST o.type hown hl hr hnone h1 hbytes hbase
  unfold Oper.wp execOp
  simp only [ho, resolve, invoke, builtin, Sem.run_bind, Sem.run_pure, Result.andThen_ok, List.map_toArray, List.map_cons, List.map_nil, hs, hx, hrun]
  exact h v' w' g1 g2 g3
theorem wpList_appAny (hgd : o.guard = none) (s x : Operand) {t e : TypeId} {size bytes : Nat} (ST : SliceTy P t e size bytes)
    (ho : o.op = .call { callee := .builtin .append, args := #[s, x], argTypes := #[t, t] })
    {base : Nat} {v : Value} {n : Nat} {xs : List Value} (hs : a.eval s = v) (hown : w.ownsRow base e size v n xs)
    {A : Option Addr} {m c B : Nat} {news : List Value} (hx : a.eval x = .slice A m c) (hl : news.length = m * size) (hr : Rd w B A news) (hnone : A = none → c = 0) (h1 : ∀ u ∈ news, u.oneCell' = true)
    (hbytes : (n + m) * bytes ≤ 140737488355328) (hbase : base ≤ w.heap.size)
    (h : ∀ v' w', w'.ownsRow base e size v' (n + m) (xs ++ news) → w.grownBy w' v.ownBlock → (v'.ownBlock = v.ownBlock ∨ v'.ownBlock = some w.heap.size) → wpList P ops Q rest (a.put o.dst v') w') :
    wpList P ops Q (o :: rest) a w :=
  wpList_plain hgd fun _ hK => wp_appAny s x ST ho hs hown hx hl hr hnone h1 hbytes hbase fun v' w' h2 h3 h4 => hK _ _ (h v' w' h2 h3 h4)
end
end Go.Proofs.YtmbegmhgiekofaaDoor
