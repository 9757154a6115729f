/- A region that draws its order and ends in one operation that waits for all others: what it loads may be taken first, though the last operation writes there. No condition. Expressions that have been read, as parts of memory; the closure that items hands to list. The numbers of the tokens are from 0 to 2^32. -/
import Derived.OrdersHeld
import Derived.StillTail
import Derived.Deep.RegionHeld
import Derived.Test.YtpnfbehbheddeaaGreatDoorBn22
namespace Go.Proofs.YtpnfbehbheddeaaGreatDoor
set_option maxRecDepth 100000
set_option maxHeartbeats 8000000
set_option linter.unusedVariables false
set_option linter.unusedSimpArgs false
theorem qqa {α : Type} (l : List α) (i : Nat) (a : α) : l.toArray.setIfInBounds i a = (l.set i a).toArray := List.setIfInBounds_toArray l i a
theorem qqb {α : Type} {x : α} {xs : List α} {a : α} : (x :: xs).set 0 a = a :: xs := List.set_cons_zero
theorem qqc {α : Type} {x : α} {xs : List α} {n : Nat} {a : α} : (x :: xs).set (n + 1) a = x :: xs.set n a := List.set_cons_succ
section
variable {P : Program} {ops : Array Oper} {Q : Exit → Act → World → Prop} {md : Region.Mode} {S : World → Prop} {n : Nat}
def wpAnyG (P : Program) (md : Region.Mode) (ops : Array Oper) (Q : Exit → Act → World → Prop) (S : World → Prop) (n : Nat) : Nat → Array Bool → Act → World → Prop
  | 0, listed, a, w => Region.ready md ops listed = [] ∧ Q .normal a w
  | fuel + 1, listed, a, w =>
    (Region.ready md ops listed = [] → Q .normal a w) ∧
    ∀ i ∈ Region.ready md ops listed, wpOp P ops Q i (fun a' w' => (i < n → S w') ∧ wpAnyG P md ops Q S n fuel (listed.setIfInBounds i true) a' w') a w
theorem wpAny_of_G : ∀ (fuel : Nat) (listed : Array Bool) (a : Act) (w : World), wpAnyG P md ops Q S n fuel listed a w → wpAny P md ops Q fuel listed a w
  | 0, _, _, _, h => h
  | fuel + 1, _, _, _, h => ⟨h.1, fun i hi => wpOp_mono (fun a' w' h' => wpAny_of_G fuel _ a' w' h'.2) (h.2 i hi)⟩
theorem wpAnyG_first {i : Nat} {oi : Oper} {v : Value} (hi : ops[i]? = some oi) (hsel : ∀ (j : Nat) (o : Oper) cs b, ops[j]? = some o → o.op ≠ .select cs b)
    (hQ : ∀ c a w, Q (.panic c) (a.put oi.dst v) w → Q (.panic c) a w) (hs : Region.sinkB md ops n = true) (hc : Region.chainB md ops n = true) (hn : n < ops.size) (hin : i < n) :
    ∀ (fuel : Nat) (listed : Array Bool) (a : Act) (w : World), HeadInv md ops n listed →
      (∀ j oj, ops[j]? = some oj → j ≠ i → listed.getD j true = false → (∀ e ∈ oj.after, Region.binds md e = true → e.on ≠ i) → oi.apart ops oj = true) →
      i ∈ Region.ready md ops listed → YieldsIf P ops S oi v a → S w →
      wpAnyG P md ops Q S n fuel (listed.setIfInBounds i true) (a.put oi.dst v) w → wpAnyG P md ops Q S n (fuel + 1) listed a w := by
  intro fuel
  induction fuel with
  | zero =>
    intro listed a w _ _ hr hy hS H
    refine ⟨fun h => (by rw [h] at hr; cases hr), fun j hj => ?_⟩
    by_cases hji : j = i
    · subst hji; exact hy.wpOp hi hS ⟨fun _ => hS, H⟩
    · have := ready_mono hj hji
      rw [H.1] at this
      cases this
  | succ fuel ih =>
    intro listed a w inv hfree hr hy hS H
    refine ⟨fun h => (by rw [h] at hr; cases hr), fun j hj => ?_⟩
    by_cases hji : j = i
    · subst hji; exact hy.wpOp hi hS ⟨fun _ => hS, H⟩
    · have hjn : j < n := by
        rcases Nat.lt_or_ge j n with h | h
        · exact h
        · exact absurd hj (tail_waits hs hc hn inv (n - i) i rfl hin (mem_ready.1 hr).1 j h)
      have h1 := H.2 j (ready_mono hj hji)
      obtain ⟨hjun, oj, hoj, hall⟩ := mem_ready.1 hj
      have hnot : ∀ e ∈ oj.after, Region.binds md e = true → e.on ≠ i := fun e he hb heq => by
        have h1 := hall e he hb
        have h0 := (mem_ready.1 hr).1
        rw [heq, getD_both h0] at h1
        cases h1
      have h2 := wpOp_putIf hoj (hfree j oj hoj hji hjun hnot) (fun cs b => hsel i oi cs b hi) (fun cs b => hsel j oj cs b hoj) hQ hy h1
      have hfree' : ∀ k ok, ops[k]? = some ok → k ≠ i → (listed.setIfInBounds j true).getD k true = false →
          (∀ e ∈ ok.after, Region.binds md e = true → e.on ≠ i) → oi.apart ops ok = true := fun k ok hk hki hun hno => by
        refine hfree k ok hk hki ?_ hno
        by_cases hjk : j = k
        · subst hjk; exact hjun
        · rw [getD_set_ne true hjk] at hun; exact hun
      refine wpOp_mono (fun a' w' h3 => ⟨h3.2.1, ih (listed.setIfInBounds j true) a' w' (inv.set hj hjn) hfree' (ready_mono hr (Ne.symm hji)) h3.1 (h3.2.1 hjn) ?_⟩) h2
      rw [Array.setIfInBounds_comm _ _ hji]
      exact h3.2.2
def GG (P : Program) (md : Region.Mode) (ops : Array Oper) (Q : Exit → Act → World → Prop) (S : World → Prop) (n fuel : Nat) (listed : Array Bool) (a : Act) (w : World) : Prop :=
  HeadInv md ops n listed → wpAnyG P md ops Q S n fuel listed a w
def okG (md : Region.Mode) (ops : Array Oper) (n : Nat) : Bool := Region.noSelect ops && Region.sinkB md ops n && Region.chainB md ops n && decide (n < ops.size)
theorem wp_region_G {id : Nat} {a : Act} {w : World} (n : Nat) (S : World → Prop) (hm : P.follows .mixedOrders = true) (hS : S w.drew)
    (h : S w.drew → GG P .any ops Q S n ops.size (Array.replicate ops.size false) a w.drew) : (Code.region id ops true).wp P Q a w :=
  wp_region_any hm (wpAny_of_G _ _ _ _ (h hS ⟨by simp, fun j oj _ hl => (by rw [getD_replicate_false] at hl; cases hl), fun t _ ht => getD_in (by simpa using ht) (getD_replicate_false _ _)⟩))
theorem GG.take (i : Nat) {oi : Oper} {v : Value} {fuel : Nat} {listed : Array Bool} {a : Act} {w : World} (hi : ops[i]? = some oi) (hok : okG md ops n = true) (hin : i < n)
    (hf : Region.free md ops listed i = true) (hr : (Region.ready md ops listed).contains i = true)
    (hQ : ∀ c a w, Q (.panic c) (a.put oi.dst v) w → Q (.panic c) a w) (hw : Region.wanted oi (yielded ops a.tmps) = true) (hS : S w) (hy : ∀ w, S w → (execOp a.eval oi).run P w = .ok (.value v) w)
    (h : GG P md ops Q S n fuel (listed.setIfInBounds i true) (a.put oi.dst v) w) : GG P md ops Q S n (fuel + 1) listed a w := fun inv => by
  simp only [okG, Bool.and_eq_true, decide_eq_true_eq] at hok
  have hr' : i ∈ Region.ready md ops listed := by simpa using hr
  exact wpAnyG_first hi (Region.noSelect_spec hok.1.1.1) hQ hok.1.1.2 hok.1.2 hok.2 hin fuel listed a w inv (Region.free_spec hi hf) hr' (.inl ⟨hw, hy⟩) hS (h (inv.set hr' hin))
def tkOk (md : Region.Mode) (ops : Array Oper) (n : Nat) (listed : Array Bool) (i : Nat) : Bool := okG md ops n && (decide (i < n) && (Region.free md ops listed i && (Region.ready md ops listed).contains i))
theorem GG.tk (i : Nat) {oi : Oper} {v : Value} {fuel : Nat} {listed : Array Bool} {a : Act} {w : World} (hi : ops[i]? = some oi) (hok : tkOk md ops n listed i = true) (hQ : ∀ c a w, Q (.panic c) (a.put oi.dst v) w → Q (.panic c) a w) (hw : Region.wanted oi (yielded ops a.tmps) = true) (hS : S w)
    (hy : ∀ w, S w → (execOp a.eval oi).run P w = .ok (.value v) w) (h : GG P md ops Q S n fuel (listed.setIfInBounds i true) (a.put oi.dst v) w) : GG P md ops Q S n (fuel + 1) listed a w := by
  unfold tkOk at hok
  rw [Bool.and_eq_true, Bool.and_eq_true, Bool.and_eq_true, decide_eq_true_eq] at hok
  exact GG.take i hi hok.1 hok.2.1 hok.2.2.1 hok.2.2.2 hQ hw hS hy h
theorem GG.one (i : Nat) {o : Oper} {fuel : Nat} {listed : Array Bool} {a : Act} {w : World} (hr : Region.ready md ops listed = [i]) (hin : i < n) (ho : ops[i]? = some o)
    (h : ∀ K' : Act → World → Prop, Shut (∀ a w, S w → (S w → GG P md ops Q S n fuel (listed.setIfInBounds i true) a w) → K' a w) → if Region.wanted o (yielded ops a.tmps) = true then Oper.wp P o a w K' Q else K' (a.put o.dst undef) w) : GG P md ops Q S n (fuel + 1) listed a w := fun inv => by
  refine ⟨fun h0 => (by rw [hr] at h0; cases h0), fun j hj => ?_⟩
  have hj' := hj
  rw [hr, List.mem_singleton] at hj
  subst hj
  exact wpOp_step ho fun K' hK => h K' fun a w hS hW => hK a w ⟨fun _ => hS, hW hS (inv.set hj' hin)⟩
theorem GG.two (i j : Nat) {o o2 : Oper} {fuel : Nat} {listed : Array Bool} {a : Act} {w : World} (hr : Region.ready md ops listed = [i, j]) (hin : i < n ∧ j < n) (ho : ops[i]? = some o) (ho2 : ops[j]? = some o2)
    (h : ∀ K' : Act → World → Prop, Shut (∀ a w, S w → (S w → GG P md ops Q S n fuel (listed.setIfInBounds i true) a w) → K' a w) → if Region.wanted o (yielded ops a.tmps) = true then Oper.wp P o a w K' Q else K' (a.put o.dst undef) w)
    (h2 : ∀ K' : Act → World → Prop, Shut (∀ a w, S w → (S w → GG P md ops Q S n fuel (listed.setIfInBounds j true) a w) → K' a w) → if Region.wanted o2 (yielded ops a.tmps) = true then Oper.wp P o2 a w K' Q else K' (a.put o2.dst undef) w) : GG P md ops Q S n (fuel + 1) listed a w := fun inv => by
  refine ⟨fun h0 => (by rw [hr] at h0; cases h0), fun k hk => ?_⟩
  have hk' := hk
  rw [hr, List.mem_cons, List.mem_singleton] at hk
  rcases hk with rfl | rfl
  · exact wpOp_step ho fun K' hK => h K' fun a w hS hW => hK a w ⟨fun _ => hS, hW hS (inv.set hk' hin.1)⟩
  · exact wpOp_step ho2 fun K' hK => h2 K' fun a w hS hW => hK a w ⟨fun _ => hS, hW hS (inv.set hk' hin.2)⟩
theorem wpAnyG_done {listed : Array Bool} {a : Act} {w : World} (hr : Region.ready md ops listed = []) (h : Q .normal a w) : ∀ fuel, wpAnyG P md ops Q S n fuel listed a w
  | 0 => ⟨hr, h⟩
  | _ + 1 => ⟨fun _ => h, by rw [hr]; simp⟩
theorem GG.last {o : Oper} {fuel : Nat} {listed : Array Bool} {a : Act} {w : World} (hr : Region.ready md ops listed = [n]) (hd : Region.ready md ops (listed.setIfInBounds n true) = []) (ho : ops[n]? = some o)
    (h : ∀ K' : Act → World → Prop, Shut (∀ a w, Q .normal a w → K' a w) → if Region.wanted o (yielded ops a.tmps) = true then Oper.wp P o a w K' Q else K' (a.put o.dst undef) w) : GG P md ops Q S n (fuel + 1) listed a w := fun inv => by
  refine ⟨fun h0 => (by rw [hr] at h0; cases h0), fun j hj => ?_⟩
  rw [hr, List.mem_singleton] at hj
  subst hj
  exact wpOp_step ho fun K' hK => h K' fun a w hQ => hK a w ⟨fun h => absurd h (Nat.lt_irrefl _), wpAnyG_done hd hQ _⟩
theorem GG.k (i : Nat) {oi : Oper} {v : Value} {fuel : Nat} {listed L : Array Bool} {a b : Act} {w : World} (h : GG P md ops Q S n fuel L b w) (hi : ops[i]? = some oi := by rfl) (hok : tkOk md ops n listed i = true := by kernel_rfl) (hw : Region.wanted oi (yielded ops a.tmps) = true := by rfl) (hS : S w := by assumption)
    (hy : ∀ w, S w → (execOp a.eval oi).run P w = .ok (.value v) w := by (intro w h; (try dsimp only at h); go_simp; (try with_reducible rfl))) (hb : a.put oi.dst v = b := by ((try simp only [Act.put, qqa, qqb, qqc]); (try with_reducible rfl))) (hL : listed.setIfInBounds i true = L := by ((try simp only [qqa, qqb, qqc]); (try with_reducible rfl)))
    (hQ : ∀ c a w, Q (.panic c) (a.put oi.dst v) w → Q (.panic c) a w := by exact fun _ _ _ h => h) : GG P md ops Q S n (fuel + 1) listed a w := by
  subst hb hL
  exact GG.tk i hi hok hQ hw hS hy h
theorem GG.o (i : Nat) {o : Oper} {fuel : Nat} {listed : Array Bool} {a : Act} {w : World}
    (h : ∀ K' : Act → World → Prop, Shut (∀ a w, S w → (S w → GG P md ops Q S n fuel (listed.setIfInBounds i true) a w) → K' a w) → if Region.wanted o (yielded ops a.tmps) = true then Oper.wp P o a w K' Q else K' (a.put o.dst undef) w) (ho : ops[i]? = some o := by rfl) (hr : Region.ready md ops listed = [i] := by kernel_rfl) (hin : i < n := by decide) : GG P md ops Q S n (fuel + 1) listed a w := GG.one i hr hin ho h
theorem GG.l {o : Oper} {fuel : Nat} {listed : Array Bool} {a : Act} {w : World}
    (h : ∀ K' : Act → World → Prop, Shut (∀ a w, Q .normal a w → K' a w) → if Region.wanted o (yielded ops a.tmps) = true then Oper.wp P o a w K' Q else K' (a.put o.dst undef) w) (ho : ops[n]? = some o := by rfl) (hr : Region.ready md ops listed = [n] := by kernel_rfl) (hd : Region.ready md ops (listed.setIfInBounds n true) = [] := by kernel_rfl) : GG P md ops Q S n (fuel + 1) listed a w := GG.last hr hd ho h
theorem GG.last2 {o o2 : Oper} {fuel : Nat} {listed : Array Bool} {a : Act} {w : World} (hr : Region.ready md ops listed = [n]) (hr2 : Region.ready md ops (listed.setIfInBounds n true) = [n + 1]) (hd : Region.ready md ops ((listed.setIfInBounds n true).setIfInBounds (n + 1) true) = []) (ho : ops[n]? = some o) (ho2 : ops[n + 1]? = some o2)
    (h : ∀ K' : Act → World → Prop, Shut (∀ a w, (∀ K2 : Act → World → Prop, Shut (∀ a w, Q .normal a w → K2 a w) → if Region.wanted o2 (yielded ops a.tmps) = true then Oper.wp P o2 a w K2 Q else K2 (a.put o2.dst undef) w) → K' a w) → if Region.wanted o (yielded ops a.tmps) = true then Oper.wp P o a w K' Q else K' (a.put o.dst undef) w) : GG P md ops Q S n (fuel + 2) listed a w := fun inv => by
  refine ⟨fun h0 => (by rw [hr] at h0; cases h0), fun j hj => ?_⟩
  rw [hr, List.mem_singleton] at hj
  subst hj
  refine wpOp_step ho fun K' hK => h K' fun a w h2 => hK a w ⟨fun h => absurd h (Nat.lt_irrefl _), ⟨fun h0 => (by rw [hr2] at h0; cases h0), fun k hk => ?_⟩⟩
  rw [hr2, List.mem_singleton] at hk
  subst hk
  exact wpOp_step ho2 fun K2 hK2 => h2 K2 fun a w hQ => hK2 a w ⟨fun h => by omega, wpAnyG_done hd hQ _⟩
end
open Go.RowKit
abbrev Xq := Xr × Nat × Value
def xC (q : Xq) : List Value := match q.1.root with
  | none => [.pointer none, .slice none 0 0]
  | some _ => [ptrV q.2.1, q.2.2]
def xA (q : Xq) : HA := match q.1.root with
  | none => pureA True
  | some r => treeA r q.2.1
def XOk (pool : Pool) (q : Xq) : Prop := q.1.root = none ∨ (q.2.2, q.1.refs) ∈ pool
theorem XOk.more {pool : Pool} {q : Xq} {x : Value × List (Tk × Bool)} (h : XOk pool q) : XOk (x :: pool) q := h.imp_right fun h => List.mem_cons_of_mem _ h
def xsC (qs : List Xq) : List Value := qs.flatMap xC
def itC (l : List Bs) : List Value := l.flatMap fun b => [.string ⟨b.toArray⟩, .slice none 0 0]
theorem itC_snoc (l : List Bs) (b : Bs) : itC (l ++ [b]) = itC l ++ [.string ⟨b.toArray⟩, .slice none 0 0] := by simp [itC]
theorem xsC_snoc (l : List Xq) (q : Xq) : xsC (l ++ [q]) = xsC l ++ xC q := by simp [xsC]
def vc0 (name : Bs) (kind : Int) (lt rt : Bs) (dis : Bool) (itv agv : Value) : Array Value := #[.string ⟨name.toArray⟩, .int .i64 kind, .string ⟨lt.toArray⟩, .string ⟨rt.toArray⟩, .slice none 0 0, .slice none 0 0, itv, .bool dis, agv]
def nc0 (l r : Tk) (onv nv nav wp wr : Value) : Array Value := #[.int .i64 l.kind, .string ⟨l.text.toArray⟩, .int .i64 l.int, .int .i64 l.pos, .int .i64 r.kind, .string ⟨r.text.toArray⟩, .int .i64 r.int, .int .i64 r.pos, onv, nv, nav, wp, wr]
theorem stItem : SliceTy Tryz.prog 203 214 2 40 := SliceTy.mk' Tryz.underlying203 (z := .agg #[.string ⟨#[]⟩, .slice none 0 0]) (by kernel_rfl) rfl (by decide) (by decide)
theorem stX : SliceTy Tryz.prog 208 72 2 32 := SliceTy.mk' Tryz.underlying208 (z := .agg #[.pointer none, .slice none 0 0]) (by kernel_rfl) rfl (by decide) (by decide)
theorem HS.slice {w : World} {l l' : List HA} {e : TypeId} {size n : Nat} {v : Value} {xs : List Value} (h : HS w l) (hp : Pick l (rowA e size v n xs) l') : ∃ A c, v = .slice A n c := by
  obtain ⟨A, c, e, -, -⟩ := own_slice (h.row hp)
  exact ⟨A, c, e⟩
theorem list_s {p : Pp} {α : Type} (k : FuncId) (he : ∀ args w, (callFunc k args).run Tryz.prog w = .ok (.enter k args) w) (first cap : Array Value) (el : Ps → α × Ps) (Inv : World → Ps → List α → Prop)
    (hI : ∀ w s acc, Inv w s acc → ∃ l l' ns cs pool, HS w l ∧ Pick l (dA p s ns cs pool) l' ∧ ∀ w' s', HS w' (dA p s' ns cs pool :: l') → Inv w' s' acc)
    (hmo : ∀ s, s.pos ≤ p.e.toks.length → s.pos ≤ (el s).2.pos)
    {acc0 : List α} (hel : ∀ w s acc, acc.length ≤ acc0.length + p.e.toks.length → Inv w s acc → Calls Tryz.prog k (first ++ cap) w fun e w' => e = .returned (.tuple #[]) ∧ Inv w' (el s).2 (acc ++ [(el s).1]))
    {w : World} {s : Ps} (h : Inv w s acc0) :
    Calls Tryz.prog 190 #[.pointer (some ⟨p.pb, 0, none⟩), .func (.func k) first cap] w fun e w' => e = .returned (.tuple #[]) ∧ Inv w' (listP p.e el s).2 (acc0 ++ (listP p.e el s).1) :=
  list_c k he first cap el Inv (fun w s acc I => by
      obtain ⟨l, l', ns, cs, pool, H, hp, -⟩ := hI w s acc I
      obtain ⟨rv, P, -⟩ := H.ps hp
      exact ⟨rv, P⟩)
    (fun w s acc w' s' rv I P P' F => by
      obtain ⟨l, l', ns, cs, pool, H, hp, g⟩ := hI w s acc I
      obtain ⟨rv0, P0, h0⟩ := H.ps hp
      have e := P0.rv_eq P
      subst e
      exact g _ _ (h0 _ _ P' F)) hmo hel h
theorem HS.alloc_ex {w : World} {l : List HA} (h : HS w l) (cs : Array Value) (te : TypeId) : ∃ z w0, w.heap.size = z ∧ w.alloc (.cells cs te) = w0 ∧ HS w0 (boxA z cs te :: l) := ⟨_, _, rfl, rfl, h.alloc cs te⟩
theorem HS.alloc2_ex {w : World} {l : List HA} (h : HS w l) (cs : Array Value) (te : TypeId) (cs2 : Array Value) (te2 : TypeId) : ∃ z w0, w.heap.size = z ∧ (w.alloc (.cells cs te)).alloc (.cells cs2 te2) = w0 ∧ HS w0 (boxA (z + 1) cs2 te2 :: boxA z cs te :: l) := by
  refine ⟨_, _, rfl, rfl, ?_⟩
  have h2 := (h.alloc cs te).alloc cs2 te2
  rwa [show (w.alloc (.cells cs te)).heap.size = w.heap.size + 1 by simp] at h2
theorem HS.alloc3_ex {w : World} {l : List HA} (h : HS w l) (cs : Array Value) (te : TypeId) (cs2 : Array Value) (te2 : TypeId) (cs3 : Array Value) (te3 : TypeId) : ∃ z w0, w.heap.size = z ∧ ((w.alloc (.cells cs te)).alloc (.cells cs2 te2)).alloc (.cells cs3 te3) = w0 ∧ HS w0 (boxA (z + 1 + 1) cs3 te3 :: boxA (z + 1) cs2 te2 :: boxA z cs te :: l) := by
  refine ⟨_, _, rfl, rfl, ?_⟩
  have h2 := ((h.alloc cs te).alloc cs2 te2).alloc cs3 te3
  rwa [show ((w.alloc (.cells cs te)).alloc (.cells cs2 te2)).heap.size = w.heap.size + 1 + 1 by simp, show (w.alloc (.cells cs te)).heap.size = w.heap.size + 1 by simp] at h2
def ptrC (b : Nat) : Array Value := #[.pointer (some ⟨b, 0, none⟩)]
def itemsL (p : Pp) (s : Ps) (ns : Nat → Nat) (cs : Nat → List Value) (pool : Pool) (b3 b4 b5 zv zn : Nat) (name : Bs) (kind : Int) (dis : Bool) (itv nv : Value) (names : List Bs) (qs : List Xq) (l : List HA) : List HA :=
  dA p s ns cs pool :: boxA b3 (ptrC p.pb) 50 :: boxA b4 (ptrC zv) 201 :: boxA b5 (ptrC zn) 256 :: boxA zv (vc0 name kind [] [] dis itv (.slice none 0 0)) 206 :: boxA zn (nc0 Tk.zero Tk.zero (.slice none 0 0) nv (.slice none 0 0) (.pointer none) (.slice none 0 0)) 210 :: rowA 214 2 itv names.length (itC names) :: rowA 72 2 nv qs.length (xsC qs) :: allA (qs.map xA) :: l
def IInv (p : Pp) (ns : Nat → Nat) (cs : Nat → List Value) (pool0 : Pool) (b3 b4 b5 zv zn : Nat) (name : Bs) (kind : Int) (dis : Bool) (l : List HA) (w : World) (s : Ps) (acc : List (Bs × Xr)) : Prop :=
  ∃ pool itv nv names qs, HS w (itemsL p s ns cs pool b3 b4 b5 zv zn name kind dis itv nv names qs l) ∧ names = acc.map Prod.fst ∧ qs.map Prod.fst = acc.map Prod.snd ∧ (∀ q ∈ qs, XOk pool q) ∧ ∀ x ∈ pool0, x ∈ pool
theorem IInv.next {p : Pp} {ns : Nat → Nat} {cs : Nat → List Value} {pool0 pool : Pool} {b3 b4 b5 zv zn : Nat} {name : Bs} {kind : Int} {dis : Bool} {l : List HA} {w : World} {s : Ps} {acc : List (Bs × Xr)} {itv v' : Value} {names : List Bs} {qs : List Xq} {t : Bs} {x : Xr} {r : X} {a : Nat} {A : Option Addr} {c : Nat}
    (hx : x = ⟨some r, s.refs⟩) (hnm : names = acc.map Prod.fst) (hqs : qs.map Prod.fst = acc.map Prod.snd) (hok : ∀ q ∈ qs, XOk pool q) (hpo : ∀ x ∈ pool0, x ∈ pool)
    (H : HS w (boxA zn (nc0 Tk.zero Tk.zero (.slice none 0 0) v' (.slice none 0 0) (.pointer none) (.slice none 0 0)) 210 :: rowA 72 2 v' (qs.length + 1) (xsC qs ++ [ptrV a, .slice A s.refs.length c]) :: treeA r a :: allA (qs.map xA) :: dA p s ns cs ((.slice A s.refs.length c, s.refs) :: pool) :: boxA b3 (ptrC p.pb) 50 :: boxA b4 (ptrC zv) 201 :: boxA b5 (ptrC zn) 256 :: boxA zv (vc0 name kind [] [] dis itv (.slice none 0 0)) 206 :: rowA 214 2 itv (names ++ [t]).length (itC (names ++ [t])) :: l)) :
    IInv p ns cs pool0 b3 b4 b5 zv zn name kind dis l w s (acc ++ [(t, x)]) := by
  subst hx
  have e1 : xsC qs ++ [ptrV a, .slice A s.refs.length c] = xsC (qs ++ [((⟨some r, s.refs⟩, a, .slice A s.refs.length c) : Xq)]) := by rw [xsC_snoc]; rfl
  have e2 : qs.length + 1 = (qs ++ [((⟨some r, s.refs⟩, a, .slice A s.refs.length c) : Xq)]).length := by simp
  rw [e1, e2] at H
  have H2 := allA_snoc (A := treeA r a) (m := qs.map xA) (l := _) (H.sub (by
    refine Sub.cons (by with_reducible exact .there (.there .here)) (Sub.cons (by with_reducible exact .there (.there .here)) (Sub.refl _))))
  have e3 : qs.map xA ++ [treeA r a] = (qs ++ [((⟨some r, s.refs⟩, a, .slice A s.refs.length c) : Xq)]).map xA := by rw [List.map_append]; rfl
  rw [e3] at H2
  refine ⟨(.slice A s.refs.length c, s.refs) :: pool, itv, v', names ++ [t], qs ++ [((⟨some r, s.refs⟩, a, .slice A s.refs.length c) : Xq)], H2.sub ?_, by rw [hnm]; simp, by rw [List.map_append, hqs]; simp, fun q hq => ?_, fun x hx => List.mem_cons_of_mem _ (hpo x hx)⟩
  · unfold itemsL
    exact pkQ
  · rcases List.mem_append.1 hq with hq | hq
    · exact (hok q hq).more
    · rw [List.mem_singleton] at hq
      subst hq
      exact .inr (List.mem_cons_self ..)
theorem items1_c {p : Pp} (hN : p.e.okN) {ns : Nat → Nat} {cs : Nat → List Value} {pool0 : Pool} {b3 b4 b5 zv zn : Nat} {name : Bs} {kind : Int} {dis : Bool} {l : List HA} (w : World) (s : Ps) (acc : List (Bs × Xr)) (hl : acc.length ≤ 100000) (h : IInv p ns cs pool0 b3 b4 b5 zv zn name kind dis l w s acc) :
    Calls Tryz.prog 242 #[.pointer (some ⟨b3, 0, none⟩), .pointer (some ⟨b4, 0, none⟩), .pointer (some ⟨b5, 0, none⟩)] w fun e w' => e = .returned (.tuple #[]) ∧ IInv p ns cs pool0 b3 b4 b5 zv zn name kind dis l w' (itemP p.e s).2 (acc ++ [(itemP p.e s).1]) := by
  obtain ⟨pool, itv, nv, names, qs, H, hnm, hqs, hok, hpo⟩ := h
  have hnl : names.length ≤ 100000 := by rw [hnm]; simpa using hl
  have hql : qs.length ≤ 100000 := by have := congrArg List.length hqs; simp at this; omega
  have HNM := Lib.hid hnm
  have HQS := Lib.hid hqs
  clear hnm hqs
  unfold itemsL at H
  obtain ⟨R, hR⟩ : ∃ R, itemP p.e s = R := ⟨_, rfl⟩
  rw [hR]
  unfold itemP nameP at hR
  have h1 := fun w1 l1 l2 (H : HS w1 l1) (hp : Pick l1 (dA p s ns cs pool) l2) => name_s H hp
  generalize takeP p.e s 1 = q at h1 hR
  obtain ⟨t1, s1⟩ := q
  unfold PartPost at h1
  dsimp only at h1 hR
  have h2 := fun w1 l1 l2 (H : HS w1 l1) (hp : Pick l1 (dA p s1 ns cs pool) l2) => exp1_s H hp [61]
  generalize expectP p.e s1 [[61]] = q at h2 hR
  obtain ⟨wd2, s2⟩ := q
  unfold PartPost at h2
  dsimp only at h2 hR
  have h3 := fun w1 l1 l2 (H : HS w1 l1) (hp : Pick l1 (dA p s2 ns cs pool) l2) => whole_s hN H hp
  generalize wholeP p.e s2 = q at h3 hR
  obtain ⟨x, s3⟩ := q
  unfold WhS at h3
  dsimp only at h3 hR
  subst hR
  obtain ⟨xB, xL, hcB⟩ := HS.get (z := b3) H; obtain ⟨x0, xf0⟩ := hcB 0; clear hcB; unfold ptrC at x0
  go_enter Tryz.func242, Tryz.ntmps242
  go_upto_region 1 with (go_at_call 189; (with_reducible refine (h1 _ _ _ H pkQ).mono ?_); rintro e w1 ⟨rfl, H1⟩)
  clear xB x0 xf0 xL H h1
  obtain ⟨z, w2, ez, ew, H⟩ := H1.alloc_ex #[.string ⟨t1.text.toArray⟩, .slice none 0 0] 214
  rw [ew, ez]
  clear ez ew H1
  obtain ⟨xB, xL, hcB⟩ := HS.get (z := b3) H; obtain ⟨x0, xf0⟩ := hcB 0; clear hcB; unfold ptrC at x0
  go_upto_region 2 with (go_at_call 88; (with_reducible refine (h2 _ _ _ H pkQ).mono ?_); rintro e w3 ⟨rfl, H3⟩)
  clear xB x0 xf0 xL H h2
  obtain ⟨Ai, ci, rfl⟩ := H3.slice (v := itv) pkQ
  go_cut [10] (fun _ wx => ∃ itv, HS wx (rowA 214 2 itv (names ++ [t1.text]).length (itC (names ++ [t1.text])) :: boxA zv (vc0 name kind [] [] dis itv (.slice none 0 0)) 206 :: dA p s2 ns cs pool :: boxA b3 (ptrC p.pb) 50 :: boxA b4 (ptrC zv) 201 :: boxA b5 (ptrC zn) 256 :: boxA zn (nc0 Tk.zero Tk.zero (.slice none 0 0) nv (.slice none 0 0) (.pointer none) (.slice none 0 0)) 210 :: rowA 72 2 nv qs.length (xsC qs) :: allA (qs.map xA) :: l))
  case first =>
    have Ha := H3.drew.alloc #[.string ⟨t1.text.toArray⟩, .slice none 0 0] 214
    have own7 := Ha.row (v := .slice Ai names.length ci) pkQ
    obtain ⟨xB, xL, hcB⟩ := HS.get (z := b4) H3; obtain ⟨x0, xf0⟩ := hcB 0; clear hcB; unfold ptrC at x0
    obtain ⟨vB, vL, hcB⟩ := HS.get (z := zv) H3; obtain ⟨v6, vf6⟩ := hcB 6; clear hcB; unfold vc0 at v6
    obtain ⟨dB, dL, hcB⟩ := HS.get (z := z) H3; obtain ⟨d0, df0⟩ := hcB 0; obtain ⟨d1, df1⟩ := hcB 1; clear hcB
    (refine wp_region_G 10 (fun w' => w'.cell? ⟨b4, 0, none⟩ = some (.pointer (some ⟨zv, 0, none⟩)) ∧ w'.cell? ⟨zv, 6, none⟩ = some (.slice Ai names.length ci) ∧ w'.cell? ⟨z, 0, none⟩ = some (.string ⟨t1.text.toArray⟩) ∧ w'.cell? ⟨z, 1, none⟩ = some (.slice none 0 0)) (by kernel_rfl) ?_ (fun hHeld => ?_); (focus (try dsimp only); go_keep))
    (refine GG.k 0 ?_; refine GG.k 1 ?_; refine GG.k 2 ?_; refine GG.k 3 ?_; refine GG.k 4 ?_; refine GG.k 5 ?_)
    (refine GG.o 6 (fun K hK => ?_); go_simp; refine hK.out _ _ ?_ (fun hHeld => ?_); (focus (try dsimp only); go_keep); clear hK K; (try simp only [Act.put, qqa, qqb, qqc]))
    (refine GG.o 7 (fun K hK => ?_); (refine step_app3 (v := .slice Ai names.length ci) (by rfl) _ _ stItem (by rfl) (by rfl) own7 (by rfl) (news := [.string ⟨t1.text.toArray⟩, .slice none 0 0]) (by rfl) (litRd (heap_alloc_new _ _)) (fun h => by cases h) (by intro u hu; simp at hu; rcases hu with rfl | rfl <;> rfl) (by omega) (Nat.zero_le _) ?_; intro vA wA ownA gA atA; have HA := Ha.app (v := .slice Ai names.length ci) pkQ ownA gA atA; obtain ⟨yB, yL, hcB⟩ := HS.get (z := b4) HA; obtain ⟨y0, yf0⟩ := hcB 0; clear hcB; unfold ptrC at y0; obtain ⟨gB, gL, hcB⟩ := HS.get (z := zv) HA; obtain ⟨g6, gf6⟩ := hcB 6; clear hcB; unfold vc0 at g6; obtain ⟨eB, eL, hcB⟩ := HS.get (z := z) HA; obtain ⟨e0, ef0⟩ := hcB 0; obtain ⟨e1, ef1⟩ := hcB 1; clear hcB; obtain ⟨AB, cB, rfl, -, -⟩ := own_slice ownA); refine hK.out _ _ ?_ (fun hHeld => ?_); (focus (try dsimp only); go_keep); clear hK K; (try simp only [Act.put, qqa, qqb, qqc]))
    (refine GG.k 8 ?_; refine GG.k 9 ?_)
    (refine GG.l (fun K hK => ?_); go_simp; refine hK.out _ _ ?_; clear hK K)
    go_step
    go_step
    go_meet
    have e1 : names.length + 1 = (names ++ [t1.text]).length := by simp
    rw [← itC_snoc] at HA
    rw [e1] at HA ⊢
    exact ⟨_, (HA.storeTo (z := zv) pkQ 6 _ (vc0 name kind [] [] dis (.slice AB (names ++ [t1.text]).length cB) (.slice none 0 0)) rfl).sub pkQ⟩
  case rest =>
    obtain ⟨itv, H⟩ := hcut
    clear H3
    obtain ⟨An, cn, rfl⟩ := H.slice (v := nv) pkQ
    have Hd := H.drew
    obtain ⟨xB, xL, hcB⟩ := HS.get (z := b5) H; obtain ⟨x0, xf0⟩ := hcB 0; clear hcB; unfold ptrC at x0
    obtain ⟨yB, yL, hcB⟩ := HS.get (z := b3) H; obtain ⟨y0, yf0⟩ := hcB 0; clear hcB; unfold ptrC at y0
    obtain ⟨vB, vL, hcB⟩ := HS.get (z := zn) H; obtain ⟨v9, vf9⟩ := hcB 9; clear hcB; unfold nc0 at v9
    go_upto_region 3 with fail
    (refine wp_region_G 11 (fun w' => w'.cell? ⟨b5, 0, none⟩ = some (.pointer (some ⟨zn, 0, none⟩)) ∧ w'.cell? ⟨zn, 9, none⟩ = some (.slice An qs.length cn) ∧ w'.cell? ⟨b3, 0, none⟩ = some (.pointer (some ⟨p.pb, 0, none⟩))) (by kernel_rfl) ?_ (fun hHeld => ?_); (focus (try dsimp only); go_keep))
    (refine GG.k 0 ?_; refine GG.k 1 ?_; refine GG.k 2 ?_; refine GG.k 3 ?_; refine GG.k 4 ?_; refine GG.k 5 ?_)
    (refine GG.o 6 (fun K hK => ?_); (go_simp; go_at_call 19; (with_reducible refine (h3 _ _ _ Hd pkQ).mono ?_); rintro e w5 ⟨r, a, A2, c2, hx, rfl, H5⟩; obtain ⟨mB, mL, hcB⟩ := HS.get (z := b5) H5; obtain ⟨m0, mf0⟩ := hcB 0; clear hcB; unfold ptrC at m0; obtain ⟨kB, kL, hcB⟩ := HS.get (z := zn) H5; obtain ⟨k9, kf9⟩ := hcB 9; clear hcB; unfold nc0 at k9; obtain ⟨jB, jL, hcB⟩ := HS.get (z := b3) H5; obtain ⟨j0, jf0⟩ := hcB 0; clear hcB; unfold ptrC at j0); refine hK.out _ _ ?_ (fun hHeld => ?_); (focus (try dsimp only); go_keep); clear hK K; (try simp only [Act.put, qqa, qqb, qqc]))
    have H7 := H5.alloc #[ptrV a, .slice A2 s3.refs.length c2] 72
    have own7 := H7.row (v := .slice An qs.length cn) pkQ
    (refine GG.o 7 (fun K hK => ?_); go_simp; refine hK.out _ _ ?_ (fun hHeld => ?_); (focus (try dsimp only); go_keep); clear hK K; (try simp only [Act.put, qqa, qqb, qqc]))
    (refine GG.o 8 (fun K hK => ?_); (refine step_app3 (v := .slice An qs.length cn) (by rfl) _ _ stX (by rfl) (by rfl) own7 (by rfl) (news := [ptrV a, .slice A2 s3.refs.length c2]) (by rfl) (litRd (heap_alloc_new _ _)) (fun h => by cases h) (by intro u hu; simp at hu; rcases hu with rfl | rfl <;> rfl) (by omega) (Nat.zero_le _) ?_; intro vA wA ownA gA atA; have HA := H7.app (v := .slice An qs.length cn) pkQ ownA gA atA; obtain ⟨oB, oL, hcB⟩ := HS.get (z := b5) HA; obtain ⟨o0, of0⟩ := hcB 0; clear hcB; unfold ptrC at o0; obtain ⟨gB, gL, hcB⟩ := HS.get (z := zn) HA; obtain ⟨g9, gf9⟩ := hcB 9; clear hcB; unfold nc0 at g9; obtain ⟨qB, qL, hcB⟩ := HS.get (z := b3) HA; obtain ⟨q0, qf0⟩ := hcB 0; clear hcB; unfold ptrC at q0; obtain ⟨AB, cB, rfl, -, -⟩ := own_slice ownA); refine hK.out _ _ ?_ (fun hHeld => ?_); (focus (try dsimp only); go_keep); clear hK K; (try simp only [Act.put, qqa, qqb, qqc]))
    (refine GG.k 9 ?_; refine GG.k 10 ?_)
    (refine GG.l (fun K hK => ?_); go_simp; refine hK.out _ _ ?_; clear hK K)
    go_end0
    exact ⟨rfl, IInv.next hx HNM.out HQS.out hok hpo ((HA.storeTo (z := zn) pkQ 9 _ (nc0 Tk.zero Tk.zero (.slice none 0 0) (.slice AB (qs.length + 1) cB) (.slice none 0 0) (.pointer none) (.slice none 0 0)) rfl).sub pkQ)⟩
end Go.Proofs.YtpnfbehbheddeaaGreatDoor
