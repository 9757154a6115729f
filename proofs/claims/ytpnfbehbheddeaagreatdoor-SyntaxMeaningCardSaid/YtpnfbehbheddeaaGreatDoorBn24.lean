/- A region that draws its order and ends in one operation that waits for all others: what it loads may be taken first, though the last operation writes there. No condition. Regions that draw their order: S is asked behind the operations of T alone; what may be taken first is checked operation by operation. No condition. Regions that draw their order: what S says may be chosen anew in the midst of a region. No condition. -/
import Derived.OrdersHeld
import Derived.StillTail
import Derived.Deep.RegionHeld
namespace Go.Proofs.YtpnfbehbheddeaaGreatDoor
set_option maxRecDepth 100000
set_option maxHeartbeats 8000000
set_option linter.unusedVariables false
set_option linter.unusedSimpArgs false
theorem qqa {α : Type} (l : List α) (i : Nat) (a : α) : l.toArray.setIfInBounds i a = (l.set i a).toArray := List.setIfInBounds_toArray l i a
theorem qqb {α : Type} {x : α} {xs : List α} {a : α} : (x :: xs).set 0 a = a :: xs := List.set_cons_zero
theorem qqc {α : Type} {x : α} {xs : List α} {n : Nat} {a : α} : (x :: xs).set (n + 1) a = x :: xs.set n a := List.set_cons_succ
section
variable {P : Program} {ops : Array Oper} {Q : Exit → Act → World → Prop} {md : Region.Mode} {S : World → Prop} {n : Nat}
def wpAnyG (P : Program) (md : Region.Mode) (ops : Array Oper) (Q : Exit → Act → World → Prop) (S : World → Prop) (n : Nat) : Nat → Array Bool → Act → World → Prop
  | 0, listed, a, w => Region.ready md ops listed = [] ∧ Q .normal a w
  | fuel + 1, listed, a, w =>
    (Region.ready md ops listed = [] → Q .normal a w) ∧
    ∀ i ∈ Region.ready md ops listed, wpOp P ops Q i (fun a' w' => (i < n → S w') ∧ wpAnyG P md ops Q S n fuel (listed.setIfInBounds i true) a' w') a w
theorem wpAny_of_G : ∀ (fuel : Nat) (listed : Array Bool) (a : Act) (w : World), wpAnyG P md ops Q S n fuel listed a w → wpAny P md ops Q fuel listed a w
  | 0, _, _, _, h => h
  | fuel + 1, _, _, _, h => ⟨h.1, fun i hi => wpOp_mono (fun a' w' h' => wpAny_of_G fuel _ a' w' h'.2) (h.2 i hi)⟩
theorem wpAnyG_first {i : Nat} {oi : Oper} {v : Value} (hi : ops[i]? = some oi) (hsel : ∀ (j : Nat) (o : Oper) cs b, ops[j]? = some o → o.op ≠ .select cs b)
    (hQ : ∀ c a w, Q (.panic c) (a.put oi.dst v) w → Q (.panic c) a w) (hs : Region.sinkB md ops n = true) (hc : Region.chainB md ops n = true) (hn : n < ops.size) (hin : i < n) :
    ∀ (fuel : Nat) (listed : Array Bool) (a : Act) (w : World), HeadInv md ops n listed →
      (∀ j oj, ops[j]? = some oj → j ≠ i → listed.getD j true = false → (∀ e ∈ oj.after, Region.binds md e = true → e.on ≠ i) → oi.apart ops oj = true) →
      i ∈ Region.ready md ops listed → YieldsIf P ops S oi v a → S w →
      wpAnyG P md ops Q S n fuel (listed.setIfInBounds i true) (a.put oi.dst v) w → wpAnyG P md ops Q S n (fuel + 1) listed a w := by
  intro fuel
  induction fuel with
  | zero =>
    intro listed a w _ _ hr hy hS H
    refine ⟨fun h => (by rw [h] at hr; cases hr), fun j hj => ?_⟩
    by_cases hji : j = i
    · subst hji; exact hy.wpOp hi hS ⟨fun _ => hS, H⟩
    · have := ready_mono hj hji
      rw [H.1] at this
      cases this
  | succ fuel ih =>
    intro listed a w inv hfree hr hy hS H
    refine ⟨fun h => (by rw [h] at hr; cases hr), fun j hj => ?_⟩
    by_cases hji : j = i
    · subst hji; exact hy.wpOp hi hS ⟨fun _ => hS, H⟩
    · have hjn : j < n := by
        rcases Nat.lt_or_ge j n with h | h
        · exact h
        · exact absurd hj (tail_waits hs hc hn inv (n - i) i rfl hin (mem_ready.1 hr).1 j h)
      have h1 := H.2 j (ready_mono hj hji)
      obtain ⟨hjun, oj, hoj, hall⟩ := mem_ready.1 hj
      have hnot : ∀ e ∈ oj.after, Region.binds md e = true → e.on ≠ i := fun e he hb heq => by
        have h1 := hall e he hb
        have h0 := (mem_ready.1 hr).1
        rw [heq, getD_both h0] at h1
        cases h1
      have h2 := wpOp_putIf hoj (hfree j oj hoj hji hjun hnot) (fun cs b => hsel i oi cs b hi) (fun cs b => hsel j oj cs b hoj) hQ hy h1
      have hfree' : ∀ k ok, ops[k]? = some ok → k ≠ i → (listed.setIfInBounds j true).getD k true = false →
          (∀ e ∈ ok.after, Region.binds md e = true → e.on ≠ i) → oi.apart ops ok = true := fun k ok hk hki hun hno => by
        refine hfree k ok hk hki ?_ hno
        by_cases hjk : j = k
        · subst hjk; exact hjun
        · rw [getD_set_ne true hjk] at hun; exact hun
      refine wpOp_mono (fun a' w' h3 => ⟨h3.2.1, ih (listed.setIfInBounds j true) a' w' (inv.set hj hjn) hfree' (ready_mono hr (Ne.symm hji)) h3.1 (h3.2.1 hjn) ?_⟩) h2
      rw [Array.setIfInBounds_comm _ _ hji]
      exact h3.2.2
def GG (P : Program) (md : Region.Mode) (ops : Array Oper) (Q : Exit → Act → World → Prop) (S : World → Prop) (n fuel : Nat) (listed : Array Bool) (a : Act) (w : World) : Prop :=
  HeadInv md ops n listed → wpAnyG P md ops Q S n fuel listed a w
def okG (md : Region.Mode) (ops : Array Oper) (n : Nat) : Bool := Region.noSelect ops && Region.sinkB md ops n && Region.chainB md ops n && decide (n < ops.size)
theorem wp_region_G {id : Nat} {a : Act} {w : World} (n : Nat) (S : World → Prop) (hm : P.follows .mixedOrders = true) (hS : S w.drew)
    (h : S w.drew → GG P .any ops Q S n ops.size (Array.replicate ops.size false) a w.drew) : (Code.region id ops true).wp P Q a w :=
  wp_region_any hm (wpAny_of_G _ _ _ _ (h hS ⟨by simp, fun j oj _ hl => (by rw [getD_replicate_false] at hl; cases hl), fun t _ ht => getD_in (by simpa using ht) (getD_replicate_false _ _)⟩))
theorem GG.take (i : Nat) {oi : Oper} {v : Value} {fuel : Nat} {listed : Array Bool} {a : Act} {w : World} (hi : ops[i]? = some oi) (hok : okG md ops n = true) (hin : i < n)
    (hf : Region.free md ops listed i = true) (hr : (Region.ready md ops listed).contains i = true)
    (hQ : ∀ c a w, Q (.panic c) (a.put oi.dst v) w → Q (.panic c) a w) (hw : Region.wanted oi (yielded ops a.tmps) = true) (hS : S w) (hy : ∀ w, S w → (execOp a.eval oi).run P w = .ok (.value v) w)
    (h : GG P md ops Q S n fuel (listed.setIfInBounds i true) (a.put oi.dst v) w) : GG P md ops Q S n (fuel + 1) listed a w := fun inv => by
  simp only [okG, Bool.and_eq_true, decide_eq_true_eq] at hok
  have hr' : i ∈ Region.ready md ops listed := by simpa using hr
  exact wpAnyG_first hi (Region.noSelect_spec hok.1.1.1) hQ hok.1.1.2 hok.1.2 hok.2 hin fuel listed a w inv (Region.free_spec hi hf) hr' (.inl ⟨hw, hy⟩) hS (h (inv.set hr' hin))
def tkOk (md : Region.Mode) (ops : Array Oper) (n : Nat) (listed : Array Bool) (i : Nat) : Bool := okG md ops n && (decide (i < n) && (Region.free md ops listed i && (Region.ready md ops listed).contains i))
theorem GG.tk (i : Nat) {oi : Oper} {v : Value} {fuel : Nat} {listed : Array Bool} {a : Act} {w : World} (hi : ops[i]? = some oi) (hok : tkOk md ops n listed i = true) (hQ : ∀ c a w, Q (.panic c) (a.put oi.dst v) w → Q (.panic c) a w) (hw : Region.wanted oi (yielded ops a.tmps) = true) (hS : S w)
    (hy : ∀ w, S w → (execOp a.eval oi).run P w = .ok (.value v) w) (h : GG P md ops Q S n fuel (listed.setIfInBounds i true) (a.put oi.dst v) w) : GG P md ops Q S n (fuel + 1) listed a w := by
  unfold tkOk at hok
  rw [Bool.and_eq_true, Bool.and_eq_true, Bool.and_eq_true, decide_eq_true_eq] at hok
  exact GG.take i hi hok.1 hok.2.1 hok.2.2.1 hok.2.2.2 hQ hw hS hy h
theorem GG.one (i : Nat) {o : Oper} {fuel : Nat} {listed : Array Bool} {a : Act} {w : World} (hr : Region.ready md ops listed = [i]) (hin : i < n) (ho : ops[i]? = some o)
    (h : ∀ K' : Act → World → Prop, Shut (∀ a w, S w → (S w → GG P md ops Q S n fuel (listed.setIfInBounds i true) a w) → K' a w) → if Region.wanted o (yielded ops a.tmps) = true then Oper.wp P o a w K' Q else K' (a.put o.dst undef) w) : GG P md ops Q S n (fuel + 1) listed a w := fun inv => by
  refine ⟨fun h0 => (by rw [hr] at h0; cases h0), fun j hj => ?_⟩
  have hj' := hj
  rw [hr, List.mem_singleton] at hj
  subst hj
  exact wpOp_step ho fun K' hK => h K' fun a w hS hW => hK a w ⟨fun _ => hS, hW hS (inv.set hj' hin)⟩
theorem GG.two (i j : Nat) {o o2 : Oper} {fuel : Nat} {listed : Array Bool} {a : Act} {w : World} (hr : Region.ready md ops listed = [i, j]) (hin : i < n ∧ j < n) (ho : ops[i]? = some o) (ho2 : ops[j]? = some o2)
    (h : ∀ K' : Act → World → Prop, Shut (∀ a w, S w → (S w → GG P md ops Q S n fuel (listed.setIfInBounds i true) a w) → K' a w) → if Region.wanted o (yielded ops a.tmps) = true then Oper.wp P o a w K' Q else K' (a.put o.dst undef) w)
    (h2 : ∀ K' : Act → World → Prop, Shut (∀ a w, S w → (S w → GG P md ops Q S n fuel (listed.setIfInBounds j true) a w) → K' a w) → if Region.wanted o2 (yielded ops a.tmps) = true then Oper.wp P o2 a w K' Q else K' (a.put o2.dst undef) w) : GG P md ops Q S n (fuel + 1) listed a w := fun inv => by
  refine ⟨fun h0 => (by rw [hr] at h0; cases h0), fun k hk => ?_⟩
  have hk' := hk
  rw [hr, List.mem_cons, List.mem_singleton] at hk
  rcases hk with rfl | rfl
  · exact wpOp_step ho fun K' hK => h K' fun a w hS hW => hK a w ⟨fun _ => hS, hW hS (inv.set hk' hin.1)⟩
  · exact wpOp_step ho2 fun K' hK => h2 K' fun a w hS hW => hK a w ⟨fun _ => hS, hW hS (inv.set hk' hin.2)⟩
theorem wpAnyG_done {listed : Array Bool} {a : Act} {w : World} (hr : Region.ready md ops listed = []) (h : Q .normal a w) : ∀ fuel, wpAnyG P md ops Q S n fuel listed a w
  | 0 => ⟨hr, h⟩
  | _ + 1 => ⟨fun _ => h, by rw [hr]; simp⟩
theorem GG.last {o : Oper} {fuel : Nat} {listed : Array Bool} {a : Act} {w : World} (hr : Region.ready md ops listed = [n]) (hd : Region.ready md ops (listed.setIfInBounds n true) = []) (ho : ops[n]? = some o)
    (h : ∀ K' : Act → World → Prop, Shut (∀ a w, Q .normal a w → K' a w) → if Region.wanted o (yielded ops a.tmps) = true then Oper.wp P o a w K' Q else K' (a.put o.dst undef) w) : GG P md ops Q S n (fuel + 1) listed a w := fun inv => by
  refine ⟨fun h0 => (by rw [hr] at h0; cases h0), fun j hj => ?_⟩
  rw [hr, List.mem_singleton] at hj
  subst hj
  exact wpOp_step ho fun K' hK => h K' fun a w hQ => hK a w ⟨fun h => absurd h (Nat.lt_irrefl _), wpAnyG_done hd hQ _⟩
theorem GG.k (i : Nat) {oi : Oper} {v : Value} {fuel : Nat} {listed L : Array Bool} {a b : Act} {w : World} (h : GG P md ops Q S n fuel L b w) (hi : ops[i]? = some oi := by rfl) (hok : tkOk md ops n listed i = true := by kernel_rfl) (hw : Region.wanted oi (yielded ops a.tmps) = true := by rfl) (hS : S w := by assumption)
    (hy : ∀ w, S w → (execOp a.eval oi).run P w = .ok (.value v) w := by (intro w h; (try dsimp only at h); go_simp; (try with_reducible rfl))) (hb : a.put oi.dst v = b := by ((try simp only [Act.put, qqa, qqb, qqc]); (try with_reducible rfl))) (hL : listed.setIfInBounds i true = L := by ((try simp only [qqa, qqb, qqc]); (try with_reducible rfl)))
    (hQ : ∀ c a w, Q (.panic c) (a.put oi.dst v) w → Q (.panic c) a w := by exact fun _ _ _ h => h) : GG P md ops Q S n (fuel + 1) listed a w := by
  subst hb hL
  exact GG.tk i hi hok hQ hw hS hy h
theorem GG.o (i : Nat) {o : Oper} {fuel : Nat} {listed : Array Bool} {a : Act} {w : World}
    (h : ∀ K' : Act → World → Prop, Shut (∀ a w, S w → (S w → GG P md ops Q S n fuel (listed.setIfInBounds i true) a w) → K' a w) → if Region.wanted o (yielded ops a.tmps) = true then Oper.wp P o a w K' Q else K' (a.put o.dst undef) w) (ho : ops[i]? = some o := by rfl) (hr : Region.ready md ops listed = [i] := by kernel_rfl) (hin : i < n := by decide) : GG P md ops Q S n (fuel + 1) listed a w := GG.one i hr hin ho h
theorem GG.l {o : Oper} {fuel : Nat} {listed : Array Bool} {a : Act} {w : World}
    (h : ∀ K' : Act → World → Prop, Shut (∀ a w, Q .normal a w → K' a w) → if Region.wanted o (yielded ops a.tmps) = true then Oper.wp P o a w K' Q else K' (a.put o.dst undef) w) (ho : ops[n]? = some o := by rfl) (hr : Region.ready md ops listed = [n] := by kernel_rfl) (hd : Region.ready md ops (listed.setIfInBounds n true) = [] := by kernel_rfl) : GG P md ops Q S n (fuel + 1) listed a w := GG.last hr hd ho h
theorem GG.last2 {o o2 : Oper} {fuel : Nat} {listed : Array Bool} {a : Act} {w : World} (hr : Region.ready md ops listed = [n]) (hr2 : Region.ready md ops (listed.setIfInBounds n true) = [n + 1]) (hd : Region.ready md ops ((listed.setIfInBounds n true).setIfInBounds (n + 1) true) = []) (ho : ops[n]? = some o) (ho2 : ops[n + 1]? = some o2)
    (h : ∀ K' : Act → World → Prop, Shut (∀ a w, (∀ K2 : Act → World → Prop, Shut (∀ a w, Q .normal a w → K2 a w) → if Region.wanted o2 (yielded ops a.tmps) = true then Oper.wp P o2 a w K2 Q else K2 (a.put o2.dst undef) w) → K' a w) → if Region.wanted o (yielded ops a.tmps) = true then Oper.wp P o a w K' Q else K' (a.put o.dst undef) w) : GG P md ops Q S n (fuel + 2) listed a w := fun inv => by
  refine ⟨fun h0 => (by rw [hr] at h0; cases h0), fun j hj => ?_⟩
  rw [hr, List.mem_singleton] at hj
  subst hj
  refine wpOp_step ho fun K' hK => h K' fun a w h2 => hK a w ⟨fun h => absurd h (Nat.lt_irrefl _), ⟨fun h0 => (by rw [hr2] at h0; cases h0), fun k hk => ?_⟩⟩
  rw [hr2, List.mem_singleton] at hk
  subst hk
  exact wpOp_step ho2 fun K2 hK2 => h2 K2 fun a w hQ => hK2 a w ⟨fun h => by omega, wpAnyG_done hd hQ _⟩
end
section
variable {P : Program} {ops : Array Oper} {Q : Exit → Act → World → Prop} {md : Region.Mode} {S : World → Prop} {T : Nat → Bool}
def Closed (md : Region.Mode) (ops : Array Oper) (listed : Array Bool) : Prop := ∀ (j : Nat) (oj : Oper), ops[j]? = some oj → listed.getD j false = true → ∀ e ∈ oj.after, Region.binds md e = true → listed.getD e.on false = true
theorem Closed.set {listed : Array Bool} {i : Nat} (h : Closed md ops listed) (hi : i ∈ Region.ready md ops listed) : Closed md ops (listed.setIfInBounds i true) := fun j oj hoj hl e he hb => by
  by_cases hij : i = j
  · subst hij
    obtain ⟨_, ot, hot, hall⟩ := mem_ready.1 hi
    have : oj = ot := Option.some.inj (hoj.symm.trans hot)
    subst this
    exact getD_set_true (hall e he hb)
  · rw [getD_set_ne false hij] at hl
    exact getD_set_true (h j oj hoj hl e he hb)
def waits (md : Region.Mode) (ops : Array Oper) : Nat → Nat → Nat → Bool
  | 0, _, _ => false
  | f + 1, j, i => match ops[j]? with
    | some oj => oj.after.any fun e => Region.binds md e && (e.on == i || waits md ops f e.on i)
    | none => false
theorem waits_listed {listed : Array Bool} (hc : Closed md ops listed) : ∀ (f j i : Nat), (∀ oj, ops[j]? = some oj → ∀ e ∈ oj.after, Region.binds md e = true → listed.getD e.on false = true) → waits md ops f j i = true → listed.getD i false = true := by
  intro f
  induction f with
  | zero => intro j i _ h; simp [waits] at h
  | succ f ih =>
    intro j i hall h
    unfold waits at h
    split at h
    · rename_i oj hoj
      obtain ⟨e, he, h2⟩ := Array.any_eq_true'.1 h
      simp only [Bool.and_eq_true, Bool.or_eq_true, beq_iff_eq] at h2
      obtain ⟨hb, h3⟩ := h2
      have h4 := hall oj hoj e he hb
      rcases h3 with h3 | h3
      · rw [← h3]; exact h4
      · exact ih e.on i (fun ok hok e' he' hb' => hc e.on ok hok h4 e' he' hb') h3
    · cases h
def okTT (md : Region.Mode) (ops : Array Oper) (T : Nat → Bool) (L : Array Bool) (i : Nat) : Bool := Region.noSelect ops && (List.range ops.size).all fun j => T j || (L.getD j false || waits md ops ops.size j i)
theorem okTT_spec {i : Nat} {L : Array Bool} (h : okTT md ops T L i = true) {listed : Array Bool} (hc : Closed md ops listed) (hL : ∀ j, L.getD j false = true → listed.getD j false = true) (hun : listed.getD i true = false) : ∀ j ∈ Region.ready md ops listed, T j = true := fun j hj => by
  simp only [okTT, Bool.and_eq_true] at h
  obtain ⟨hju, oj, hoj, hall⟩ := mem_ready.1 hj
  have h2 := List.all_eq_true.1 h.2 j (List.mem_range.2 (Array.getElem?_eq_some_iff.1 hoj).1)
  rw [Bool.or_eq_true, Bool.or_eq_true] at h2
  rcases h2 with h2 | h2 | h2
  · exact h2
  · have := hL j h2
    rw [getD_both hju] at this
    cases this
  · have := waits_listed hc _ j i (fun ot hot => by
      have : oj = ot := Option.some.inj (hoj.symm.trans hot)
      subst this
      exact hall) h2
    rw [getD_both hun] at this
    cases this
def wpAnyT (P : Program) (md : Region.Mode) (ops : Array Oper) (Q : Exit → Act → World → Prop) (S : World → Prop) (T : Nat → Bool) : Nat → Array Bool → Act → World → Prop
  | 0, listed, a, w => Region.ready md ops listed = [] ∧ Q .normal a w
  | fuel + 1, listed, a, w =>
    (Region.ready md ops listed = [] → Q .normal a w) ∧
    ∀ i ∈ Region.ready md ops listed, wpOp P ops Q i (fun a' w' => (T i = true → S w') ∧ wpAnyT P md ops Q S T fuel (listed.setIfInBounds i true) a' w') a w
theorem wpAny_of_T : ∀ (fuel : Nat) (listed : Array Bool) (a : Act) (w : World), wpAnyT P md ops Q S T fuel listed a w → wpAny P md ops Q fuel listed a w
  | 0, _, _, _, h => h
  | fuel + 1, _, _, _, h => ⟨h.1, fun i hi => wpOp_mono (fun a' w' h' => wpAny_of_T fuel _ a' w' h'.2) (h.2 i hi)⟩
theorem wpAnyT_first {R : World → Prop} {i : Nat} {oi : Oper} {v : Value} (hi : ops[i]? = some oi) (hsel : ∀ (j : Nat) (o : Oper) cs b, ops[j]? = some o → o.op ≠ .select cs b)
    (hQ : ∀ c a w, Q (.panic c) (a.put oi.dst v) w → Q (.panic c) a w) (hR : ∀ w, R w → T i = true → S w)
    {L : Array Bool} (hgo : ∀ listed w', Closed md ops listed → (∀ j, L.getD j false = true → listed.getD j false = true) → listed.getD i true = false → ∀ j ∈ Region.ready md ops listed, (T j = true → S w') → R w') :
    ∀ (fuel : Nat) (listed : Array Bool) (a : Act) (w : World), Closed md ops listed → (∀ j, L.getD j false = true → listed.getD j false = true) →
      (∀ j oj, ops[j]? = some oj → j ≠ i → listed.getD j true = false → (∀ e ∈ oj.after, Region.binds md e = true → e.on ≠ i) → oi.apart ops oj = true) →
      i ∈ Region.ready md ops listed → YieldsIf P ops R oi v a → R w →
      wpAnyT P md ops Q S T fuel (listed.setIfInBounds i true) (a.put oi.dst v) w → wpAnyT P md ops Q S T (fuel + 1) listed a w := by
  intro fuel
  induction fuel with
  | zero =>
    intro listed a w _ _ _ hr hy hS H
    refine ⟨fun h => (by rw [h] at hr; cases hr), fun j hj => ?_⟩
    by_cases hji : j = i
    · subst hji; exact hy.wpOp hi hS ⟨hR w hS, H⟩
    · have := ready_mono hj hji
      rw [H.1] at this
      cases this
  | succ fuel ih =>
    intro listed a w inv hL hfree hr hy hS H
    refine ⟨fun h => (by rw [h] at hr; cases hr), fun j hj => ?_⟩
    by_cases hji : j = i
    · subst hji; exact hy.wpOp hi hS ⟨hR w hS, H⟩
    · have h1 := H.2 j (ready_mono hj hji)
      obtain ⟨hjun, oj, hoj, hall⟩ := mem_ready.1 hj
      have hnot : ∀ e ∈ oj.after, Region.binds md e = true → e.on ≠ i := fun e he hb heq => by
        have h1 := hall e he hb
        have h0 := (mem_ready.1 hr).1
        rw [heq, getD_both h0] at h1
        cases h1
      have h2 := wpOp_putIf hoj (hfree j oj hoj hji hjun hnot) (fun cs b => hsel i oi cs b hi) (fun cs b => hsel j oj cs b hoj) hQ hy h1
      have hfree' : ∀ k ok, ops[k]? = some ok → k ≠ i → (listed.setIfInBounds j true).getD k true = false →
          (∀ e ∈ ok.after, Region.binds md e = true → e.on ≠ i) → oi.apart ops ok = true := fun k ok hk hki hun hno => by
        refine hfree k ok hk hki ?_ hno
        by_cases hjk : j = k
        · subst hjk; exact hjun
        · rw [getD_set_ne true hjk] at hun; exact hun
      refine wpOp_mono (fun a' w' h3 => ⟨h3.2.1, ih (listed.setIfInBounds j true) a' w' (inv.set hj) (fun k hk => getD_set_true (hL k hk)) hfree' (ready_mono hr (Ne.symm hji)) h3.1 (hgo listed w' inv hL (mem_ready.1 hr).1 j hj h3.2.1) ?_⟩) h2
      rw [Array.setIfInBounds_comm _ _ hji]
      exact h3.2.2
def TT (P : Program) (md : Region.Mode) (ops : Array Oper) (Q : Exit → Act → World → Prop) (S : World → Prop) (T : Nat → Bool) (fuel : Nat) (listed : Array Bool) (a : Act) (w : World) : Prop :=
  Closed md ops listed → wpAnyT P md ops Q S T fuel listed a w
theorem wp_region_T {id : Nat} {a : Act} {w : World} (T : Nat → Bool) (S : World → Prop) (hm : P.follows .mixedOrders = true) (hS : S w.drew)
    (h : S w.drew → TT P .any ops Q S T ops.size (Array.replicate ops.size false) a w.drew) : (Code.region id ops true).wp P Q a w :=
  wp_region_any hm (wpAny_of_T _ _ _ _ (h hS fun j oj _ hl => (by rw [getD_replicate_false] at hl; cases hl)))
theorem TT.take (i : Nat) {oi : Oper} {v : Value} {fuel : Nat} {listed : Array Bool} {a : Act} {w : World} (hi : ops[i]? = some oi) (hok : okTT md ops T listed i = true)
    (hf : Region.free md ops listed i = true) (hr : (Region.ready md ops listed).contains i = true)
    (hQ : ∀ c a w, Q (.panic c) (a.put oi.dst v) w → Q (.panic c) a w) (hw : Region.wanted oi (yielded ops a.tmps) = true) (hS : S w) (hy : ∀ w, S w → (execOp a.eval oi).run P w = .ok (.value v) w)
    (h : TT P md ops Q S T fuel (listed.setIfInBounds i true) (a.put oi.dst v) w) : TT P md ops Q S T (fuel + 1) listed a w := fun inv => by
  have hok2 := hok
  simp only [okTT, Bool.and_eq_true] at hok
  have hr' : i ∈ Region.ready md ops listed := by simpa using hr
  exact wpAnyT_first (R := S) hi (Region.noSelect_spec hok.1) hQ (fun _ h _ => h) (L := listed) (fun listed w' hc hL hun j hj h => h (okTT_spec hok2 hc hL hun j hj)) fuel listed a w inv (fun _ h => h) (Region.free_spec hi hf) hr' (.inl ⟨hw, hy⟩) hS (h (inv.set hr'))
theorem TT.takeW (i : Nat) {oi : Oper} {v : Value} {fuel : Nat} {listed : Array Bool} {a : Act} {w : World} (hi : ops[i]? = some oi) (hsel : Region.noSelect ops = true) (hT : T i = false)
    (hf : Region.free md ops listed i = true) (hr : (Region.ready md ops listed).contains i = true)
    (hQ : ∀ c a w, Q (.panic c) (a.put oi.dst v) w → Q (.panic c) a w) (hw : Region.wanted oi (yielded ops a.tmps) = true) (hy : ∀ w, (execOp a.eval oi).run P w = .ok (.value v) w)
    (h : TT P md ops Q S T fuel (listed.setIfInBounds i true) (a.put oi.dst v) w) : TT P md ops Q S T (fuel + 1) listed a w := fun inv => by
  have hr' : i ∈ Region.ready md ops listed := by simpa using hr
  exact wpAnyT_first (R := fun _ => True) hi (Region.noSelect_spec hsel) hQ (fun _ _ h => by rw [hT] at h; cases h) (L := listed) (fun _ _ _ _ _ _ _ _ => trivial) fuel listed a w inv (fun _ h => h) (Region.free_spec hi hf) hr' (.inl ⟨hw, fun w _ => hy w⟩) trivial (h (inv.set hr'))
theorem TT.one (i : Nat) {o : Oper} {fuel : Nat} {listed : Array Bool} {a : Act} {w : World} (hr : Region.ready md ops listed = [i]) (hT : T i = true) (ho : ops[i]? = some o)
    (h : ∀ K' : Act → World → Prop, Shut (∀ a w, S w → (S w → TT P md ops Q S T fuel (listed.setIfInBounds i true) a w) → K' a w) → if Region.wanted o (yielded ops a.tmps) = true then Oper.wp P o a w K' Q else K' (a.put o.dst undef) w) : TT P md ops Q S T (fuel + 1) listed a w := fun inv => by
  refine ⟨fun h0 => (by rw [hr] at h0; cases h0), fun j hj => ?_⟩
  have hj' := hj
  rw [hr, List.mem_singleton] at hj
  subst hj
  exact wpOp_step ho fun K' hK => h K' fun a w hS hW => hK a w ⟨fun _ => hS, hW hS (inv.set hj')⟩
theorem TT.out (i : Nat) {o : Oper} {fuel : Nat} {listed : Array Bool} {a : Act} {w : World} (hr : Region.ready md ops listed = [i]) (hT : T i = false) (ho : ops[i]? = some o)
    (h : ∀ K' : Act → World → Prop, Shut (∀ a w, TT P md ops Q S T fuel (listed.setIfInBounds i true) a w → K' a w) → if Region.wanted o (yielded ops a.tmps) = true then Oper.wp P o a w K' Q else K' (a.put o.dst undef) w) : TT P md ops Q S T (fuel + 1) listed a w := fun inv => by
  refine ⟨fun h0 => (by rw [hr] at h0; cases h0), fun j hj => ?_⟩
  have hj' := hj
  rw [hr, List.mem_singleton] at hj
  subst hj
  exact wpOp_step ho fun K' hK => h K' fun a w hW => hK a w ⟨fun h => (by rw [hT] at h; cases h), hW (inv.set hj')⟩
theorem TT.two (i j : Nat) {o o2 : Oper} {fuel : Nat} {listed : Array Bool} {a : Act} {w : World} (hr : Region.ready md ops listed = [i, j]) (hT : T i = true ∧ T j = true) (ho : ops[i]? = some o) (ho2 : ops[j]? = some o2)
    (h : ∀ K' : Act → World → Prop, Shut (∀ a w, S w → (S w → TT P md ops Q S T fuel (listed.setIfInBounds i true) a w) → K' a w) → if Region.wanted o (yielded ops a.tmps) = true then Oper.wp P o a w K' Q else K' (a.put o.dst undef) w)
    (h2 : ∀ K' : Act → World → Prop, Shut (∀ a w, S w → (S w → TT P md ops Q S T fuel (listed.setIfInBounds j true) a w) → K' a w) → if Region.wanted o2 (yielded ops a.tmps) = true then Oper.wp P o2 a w K' Q else K' (a.put o2.dst undef) w) : TT P md ops Q S T (fuel + 1) listed a w := fun inv => by
  refine ⟨fun h0 => (by rw [hr] at h0; cases h0), fun k hk => ?_⟩
  have hk' := hk
  rw [hr, List.mem_cons, List.mem_singleton] at hk
  rcases hk with rfl | rfl
  · exact wpOp_step ho fun K' hK => h K' fun a w hS hW => hK a w ⟨fun _ => hS, hW hS (inv.set hk')⟩
  · exact wpOp_step ho2 fun K' hK => h2 K' fun a w hS hW => hK a w ⟨fun _ => hS, hW hS (inv.set hk')⟩
theorem TT.done {fuel : Nat} {listed : Array Bool} {a : Act} {w : World} (hr : Region.ready md ops listed = []) (h : Q .normal a w) : TT P md ops Q S T fuel listed a w := fun _ => by
  cases fuel with
  | zero => exact ⟨hr, h⟩
  | succ n => exact ⟨fun _ => h, by rw [hr]; simp⟩
end
section
variable {P : Program} {ops : Array Oper} {Q : Exit → Act → World → Prop} {md : Region.Mode} {S S' : World → Prop} {T T' : Nat → Bool}
theorem wpAnyT_base (h0 : ∀ i, T i = false) : ∀ (fuel : Nat) (listed : Array Bool) (a : Act) (w : World), wpAnyT P md ops Q S' T' fuel listed a w → wpAnyT P md ops Q S T fuel listed a w
  | 0, _, _, _, h => h
  | fuel + 1, _, _, _, h => ⟨h.1, fun i hi => wpOp_mono (fun a' w' h' => ⟨fun hT => (by rw [h0 i] at hT; cases hT), wpAnyT_base h0 fuel _ a' w' h'.2⟩) (h.2 i hi)⟩
theorem TT.base (S' : World → Prop) {fuel : Nat} {listed : Array Bool} {a : Act} {w : World} (hS : S' w) (h : S' w → TT P md ops Q S' (fun _ => true) fuel listed a w) : TT P md ops Q S (fun _ => false) fuel listed a w := fun inv => wpAnyT_base (fun _ => rfl) _ _ _ _ (h hS inv)
theorem TT.twoE (i j : Nat) {o o2 : Oper} {fuel : Nat} {listed : Array Bool} {a : Act} {w : World} (hr : Region.ready md ops listed = [i, j]) (ho : ops[i]? = some o) (ho2 : ops[j]? = some o2)
    (h : ∀ K' : Act → World → Prop, Shut (∀ a w, TT P md ops Q S (fun _ => false) fuel (listed.setIfInBounds i true) a w → K' a w) → if Region.wanted o (yielded ops a.tmps) = true then Oper.wp P o a w K' Q else K' (a.put o.dst undef) w)
    (h2 : ∀ K' : Act → World → Prop, Shut (∀ a w, TT P md ops Q S (fun _ => false) fuel (listed.setIfInBounds j true) a w → K' a w) → if Region.wanted o2 (yielded ops a.tmps) = true then Oper.wp P o2 a w K' Q else K' (a.put o2.dst undef) w) : TT P md ops Q S (fun _ => false) (fuel + 1) listed a w := fun inv => by
  refine ⟨fun h0 => (by rw [hr] at h0; cases h0), fun k hk => ?_⟩
  have hk' := hk
  rw [hr, List.mem_cons, List.mem_singleton] at hk
  rcases hk with rfl | rfl
  · exact wpOp_step ho fun K' hK => h K' fun a w hW => hK a w ⟨fun hh => (by cases hh), hW (inv.set hk')⟩
  · exact wpOp_step ho2 fun K' hK => h2 K' fun a w hW => hK a w ⟨fun hh => (by cases hh), hW (inv.set hk')⟩
end
end Go.Proofs.YtpnfbehbheddeaaGreatDoor
