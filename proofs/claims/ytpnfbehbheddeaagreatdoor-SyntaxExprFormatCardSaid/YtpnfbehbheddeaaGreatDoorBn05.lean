/- Trees of nodes in memory; the state of a parser that reads an expression. No condition. Contracts of the small functions of the parser of expressions: names of operators, new nodes. No condition beyond the state. Contracts of takeName, name, number and reference. No condition beyond the state; at most 400000 references. Contract of chain: the operands and operators of one level, where the operand's contract is known. -/
import Derived.Test.YtpnfbehbheddeaaGreatDoorBn04
import Derived.Deep.RegionLaw
import Derived.LoopTactic
namespace Go.Proofs.YtpnfbehbheddeaaGreatDoor
set_option maxRecDepth 100000
set_option maxHeartbeats 8000000
set_option linter.unusedVariables false
set_option linter.unusedSimpArgs false
open Go.RowKit
def nodeC (t : T) (v : Value) : Array Value := #[.int .i64 t.op, .int .i64 t.v.k, .int .i64 t.v.n, .string t.v.s, .int .i64 t.c, v]
def ptrV (a : Nat) : Value := .pointer (some ⟨a, 0, none⟩)
def SlP (B : Nat → Prop) (w : World) (v : Value) (l : List Nat) : Prop :=
  (l = [] ∧ ∃ A c, v = .slice A 0 c) ∨ ∃ (g cap : Nat) (cur : Array Value), B g ∧ v = .slice (some ⟨g, 0, none⟩) l.length cap ∧ l ≠ [] ∧ w.heap[g]? = some (.cells cur 70 (0, 0)) ∧ l.length ≤ cap ∧ cap ≤ maxLen ∧ ∀ (i a : Nat), l[i]? = some a → cur[i]? = some (ptrV a)
mutual
def TreeAt (B : Nat → Prop) (w : World) : X → Nat → Prop
  | .node t ks, a => B a ∧ ∃ (v : Value) (l : List Nat), w.heap[a]? = some (.cells (nodeC t v) 138 (0, 0)) ∧ SlP B w v l ∧ KidsAt B w ks l
def KidsAt (B : Nat → Prop) (w : World) : List X → List Nat → Prop
  | [], l => l = []
  | x :: ks, l => ∃ a m, l = a :: m ∧ TreeAt B w x a ∧ KidsAt B w ks m
end
def KeepO (T : List TypeId) (w w' : World) : Prop := ∀ (k : Nat) (cs : Array Value) (te : TypeId), w.heap[k]? = some (.cells cs te (0, 0)) → te ∉ T → w'.heap[k]? = w.heap[k]?
def TX : List TypeId := [69, 105]
structure KT (T : List TypeId) : Prop where
  node : 138 ∉ T
  row : 70 ∉ T
theorem kt_TX : KT TX := ⟨by decide, by decide⟩
def KeepB (B : Nat → Prop) (T : List TypeId) (w w' : World) : Prop := ∀ (k : Nat) (cs : Array Value) (te : TypeId), B k → w.heap[k]? = some (.cells cs te (0, 0)) → te ∉ T → w'.heap[k]? = w.heap[k]?
theorem KeepO.b {B : Nat → Prop} {T : List TypeId} {w w' : World} (h : KeepO T w w') : KeepB B T w w' := fun k cs te _ => h k cs te
theorem SlP.keep {B B' : Nat → Prop} {w w' : World} {T : List TypeId} (hT : KT T) (hB : ∀ k, B k → k < w.heap.size → B' k) (hk : KeepB B T w w') {v : Value} {l : List Nat} (h : SlP B w v l) : SlP B' w' v l := by
  rcases h with h | ⟨g, cap, cur, hb, h1, h2, h3, h4⟩
  · exact .inl h
  · refine .inr ⟨g, cap, cur, hB g hb ?_, h1, h2, (hk g _ _ hb h3 hT.row).trans h3, h4⟩
    rcases Nat.lt_or_ge g w.heap.size with hl | hl
    · exact hl
    · rw [Array.getElem?_eq_none hl] at h3; cases h3
mutual
theorem TreeAt.keep {B B' : Nat → Prop} {w w' : World} {T : List TypeId} (hT : KT T) (hB : ∀ k, B k → k < w.heap.size → B' k) (hk : KeepB B T w w') : ∀ (x : X) (a : Nat), TreeAt B w x a → TreeAt B' w' x a
  | .node t ks, a, h => by
    unfold TreeAt at h ⊢
    obtain ⟨hb, v, l, h1, h2, h3⟩ := h
    refine ⟨hB a hb ?_, v, l, (hk a _ _ hb h1 hT.node).trans h1, h2.keep hT hB hk, KidsAt.keep hT hB hk ks l h3⟩
    rcases Nat.lt_or_ge a w.heap.size with hl | hl
    · exact hl
    · rw [Array.getElem?_eq_none hl] at h1; cases h1
theorem KidsAt.keep {B B' : Nat → Prop} {w w' : World} {T : List TypeId} (hT : KT T) (hB : ∀ k, B k → k < w.heap.size → B' k) (hk : KeepB B T w w') : ∀ (ks : List X) (l : List Nat), KidsAt B w ks l → KidsAt B' w' ks l
  | [], l, h => by unfold KidsAt at h ⊢; exact h
  | x :: ks, l, h => by
    unfold KidsAt at h ⊢
    obtain ⟨a, m, h1, h2, h3⟩ := h
    exact ⟨a, m, h1, TreeAt.keep hT hB hk x a h2, KidsAt.keep hT hB hk ks m h3⟩
end
theorem KeepO.trans {T : List TypeId} {a b c : World} (h : KeepO T a b) (h2 : KeepO T b c) : KeepO T a c := fun k cs te hk ht => by
  have h3 := h k cs te hk ht
  exact (h2 k cs te (h3.trans hk) ht).trans h3
theorem KeepO.of_below {T : List TypeId} {w w' : World} (hb : Below w.heap.size w w') : KeepO T w w' := fun k cs te hk _ => hb.block k (by
  rcases Nat.lt_or_ge k w.heap.size with hl | hl
  · exact hl
  · rw [Array.getElem?_eq_none hl] at hk; cases hk)
theorem kids_snoc {B : Nat → Prop} {w : World} : ∀ {ks : List X} {l : List Nat} {x : X} {a : Nat}, KidsAt B w ks l → TreeAt B w x a → KidsAt B w (ks ++ [x]) (l ++ [a])
  | [], l, x, a, h, h2 => by
    unfold KidsAt at h
    subst h
    show KidsAt B w (x :: []) (a :: [])
    unfold KidsAt
    exact ⟨a, [], rfl, h2, by unfold KidsAt; rfl⟩
  | y :: ks, l, x, a, h, h2 => by
    unfold KidsAt at h
    obtain ⟨b, m, rfl, h3, h4⟩ := h
    show KidsAt B w (y :: (ks ++ [x])) (b :: (m ++ [a]))
    unfold KidsAt
    exact ⟨b, m ++ [a], rfl, h3, kids_snoc h4 h2⟩
def From (lo k : Nat) : Prop := lo ≤ k
def SX (p : Pp) (rv : Value) (k : Nat) : Prop := k = p.pb ∨ rv.ownBlock = some k
structure St (p : Pp) (w0 : World) (rv0 : Value) (w : World) (s : Ps) (rv : Value) : Prop where
  at_ : PsAt p w s rv
  fr : PFr (SX p rv0) w0 w
  own : ∀ k, rv.ownBlock = some k → k < w0.heap.size → rv0.ownBlock = some k
section
variable {p : Pp} {w0 w w' : World} {rv0 rv rv' : Value} {s s' : Ps}
theorem St.refl (h : PsAt p w s rv) : St p w rv w s rv := ⟨h, PFr.refl _ _, fun _ h _ => h⟩
theorem St.trans (h : St p w0 rv0 w s rv) (h2 : St p w rv w' s' rv') : St p w0 rv0 w' s' rv' :=
  ⟨h2.at_, h.fr.trans h2.fr fun k hk hs => by
    rcases hs with hs | hs
    · exact .inl hs
    · exact .inr (h.own k hs hk), fun k hk hl => h.own k (h2.own k hk (Nat.lt_of_lt_of_le hl h.fr.size)) hl⟩
theorem St.go (h : St p w0 rv0 w s rv) (h1 : PsAt p w' s' rv) (h2 : PFr (· = p.pb) w w') : St p w0 rv0 w' s' rv :=
  h.trans ⟨h1, h2.mono fun _ _ e => .inl e, fun _ h _ => h⟩
theorem St.below (h : St p w0 rv0 w s rv) (hb : Below w.heap.size w w') : St p w0 rv0 w' s rv := h.go (h.at_.below hb) (PFr.of_below hb)
theorem St.alloc (h : St p w0 rv0 w s rv) (o : Obj) : St p w0 rv0 (w.alloc o) s rv := h.below ((Below.refl w.heap.size w).alloc (Nat.le_refl _) o)
theorem St.drew (h : St p w0 rv0 w s rv) : St p w0 rv0 w.drew s rv := h.below (Below.refl _ _).drew
theorem ref_blk {base n : Nat} {e : TypeId} {size : Nat} {v : Value} {xs : List Value} {k : Nat} (h : w.ownsRow base e size v n xs) (hk : v.ownBlock = some k) : ∃ cur, w.heap[k]? = some (.cells cur e (0, 0)) := by
  rcases h.2 with ⟨rfl, _⟩ | ⟨g, cap, cur, rfl, _, h5, _⟩
  · cases hk
  · simp only [Value.ownBlock] at hk
    injection hk with hk
    subst hk
    exact ⟨cur, h5⟩
theorem heap_lt {w : World} {k : Nat} {o : Obj} (hk : w.heap[k]? = some o) : k < w.heap.size := by
  rcases Nat.lt_or_ge k w.heap.size with hl | hl
  · exact hl
  · rw [Array.getElem?_eq_none hl] at hk; cases hk
theorem PsAt.keepO (h : PsAt p w s rv) (hf : PFr (SX p rv) w w') : KeepO TX w w' := fun k cs te hk ht => by
  refine hf.block k (heap_lt hk) ?_
  rintro (rfl | hs)
  · rw [h.blk] at hk
    injection hk with hk
    injection hk with _ hk
    subst hk
    exact ht (by decide)
  · obtain ⟨cur, hc⟩ := ref_blk h.refs hs
    rw [hc] at hk
    injection hk with hk
    injection hk with _ hk
    subst hk
    exact ht (by decide)
theorem St.keepO (h : St p w0 rv0 w s' rv) (h0 : PsAt p w0 s rv0) : KeepO TX w0 w := h0.keepO h.fr
theorem PsAt.keep_go (h : PsAt p w s rv) (h2 : PFr (· = p.pb) w w') : KeepO TX w w' := h.keepO (h2.mono fun _ _ e => .inl e)
theorem flat_str (ws : List Bs) : (ws.flatMap fun l => [strV l]) = ws.map strV := by
  induction ws with
  | nil => rfl
  | cons a l ih => rw [List.flatMap_cons, ih]; rfl
theorem KeepO.words {T : List TypeId} (hk : KeepO T w w') (hT : 9 ∉ T) {g : Nat} {cs : Array Value} (h : w.heap[g]? = some (.cells cs 9 (0, 0))) : w'.heap[g]? = some (.cells cs 9 (0, 0)) := (hk g _ _ h hT).trans h
theorem words_row {g n : Nat} {cs : Array Value} {te : TypeId} {ws : List Bs} (h : w.heap[g]? = some (.cells cs te (0, 0))) (hc : cs.toList = ws.map strV) (hn : ws.length = n) : RowB w w.heap.size (some ⟨g, 0, none⟩) n ws := by
  refine ⟨hn, fun _ => ⟨g, 0, rfl, heap_lt h, fun j u hu => ?_⟩⟩
  rw [cell_of_row w g (0 + j) cs te (0, 0) h, Nat.zero_add]
  have : (ws.flatMap fun l => [strV l]) = cs.toList := by rw [hc, flat_str]
  rw [this] at hu
  simpa using hu
end
def NodePost (p : Pp) (w : World) (rv : Value) (x : X) (s' : Ps) (e : Ending) (w' : World) : Prop :=
  ∃ a rv', e = .returned (ptrV a) ∧ St p w rv w' s' rv' ∧ TreeAt (From w.heap.size) w' x a
theorem tree_new {B : Nat → Prop} {w : World} {op : Int} {v : Value} {ks : List X} {l : List Nat} {a : Nat} {x : V} {c : Int} (hb : B a) (h : w.heap[a]? = some (.cells (nodeC ⟨op, x, c⟩ v) 138 (0, 0))) (hs : SlP B w v l) (hk : KidsAt B w ks l) : TreeAt B w (.node ⟨op, x, c⟩ ks) a := by
  unfold TreeAt
  exact ⟨hb, v, l, h, hs, hk⟩
theorem TreeAt.keep1 {lo : Nat} {w w' : World} {x : X} {a : Nat} (h : TreeAt (From lo) w x a) (hk : KeepO TX w w') : TreeAt (From lo) w' x a := TreeAt.keep kt_TX (fun _ h _ => h) hk.b x a h
theorem TreeAt.mono {lo lo' : Nat} {w : World} {x : X} {a : Nat} (h : TreeAt (From lo) w x a) (hl : lo' ≤ lo) : TreeAt (From lo') w x a := TreeAt.keep kt_TX (fun _ h _ => Nat.le_trans hl h) (fun _ _ _ _ _ _ => rfl) x a h
theorem SlP.below {B : Nat → Prop} {w w' : World} {v : Value} {l : List Nat} (h : SlP B w v l) (hb : Below w.heap.size w w') : SlP B w' v l := h.keep kt_TX (fun _ h _ => h) (KeepO.of_below hb).b
theorem TreeAt.below {B : Nat → Prop} {w w' : World} {x : X} {a : Nat} (h : TreeAt B w x a) (hb : Below w.heap.size w w') : TreeAt B w' x a := TreeAt.keep kt_TX (fun _ h _ => h) (KeepO.of_below hb).b x a h
theorem KidsAt.below {B : Nat → Prop} {w w' : World} {ks : List X} {l : List Nat} (h : KidsAt B w ks l) (hb : Below w.heap.size w w') : KidsAt B w' ks l := KidsAt.keep kt_TX (fun _ h _ => h) (KeepO.of_below hb).b ks l h
theorem sOperatorOf_c (x : Bs) (w : World) : Calls Tryz.prog 131 #[.string ⟨x.toArray⟩] w fun e w' => e = .returned (.int .i64 (opP x)) ∧ w' = w := by
  go_enter Tryz.func131, Tryz.ntmps131
  go_wp2_with fail
  all_goals go_ret
  all_goals (refine ⟨?_, rfl⟩; simp_all [opP, wOr, wAnd])
theorem functionOf_c (x : Bs) (w : World) : Calls Tryz.prog 291 #[.string ⟨x.toArray⟩] w fun e w' => e = .returned (.int .i64 (funP x)) ∧ w' = w := by
  go_enter Tryz.func291, Tryz.ntmps291
  go_wp2_with fail
  all_goals go_ret
  all_goals (refine ⟨?_, rfl⟩; simp_all [funP])
theorem heap_two' (w : World) (o o' : Obj) : ((w.alloc o).alloc o').heap[w.heap.size + 1]? = some o' := by
  have := heap_alloc_new (w.alloc o) o'
  rwa [show (w.alloc o).heap.size = w.heap.size + 1 by simp] at this
def NodeNew (B : Nat → Prop) (w : World) (x : X) (e : Ending) (w' : World) : Prop := ∃ a, e = .returned (ptrV a) ∧ Below w.heap.size w w' ∧ TreeAt B w' x a
theorem operation_c {B : Nat → Prop} {w : World} {op : Int} {v : Value} {ks : List X} {l : List Nat} (hB : B w.heap.size) (hs : SlP B w v l) (hk : KidsAt B w ks l) : Calls Tryz.prog 132 #[.int .i64 op, v] w (NodeNew B w (opX op ks)) := by
  obtain ⟨A, n, c, rfl⟩ : ∃ A n c, v = .slice A n c := by
    rcases hs with ⟨_, A, c, rfl⟩ | ⟨g, cap, cur, _, rfl, _⟩
    · exact ⟨_, _, _, rfl⟩
    · exact ⟨_, _, _, rfl⟩
  go_enter Tryz.func132, Tryz.ntmps132
  go_wp2_with fail
  go_ret
  have hb : Below w.heap.size w (w.alloc (.cells (nodeC ⟨op, V.null, 0⟩ (.slice A n c)) 138)) := by (exact belQ)
  exact ⟨_, rfl, hb, tree_new hB (heap_alloc_new w _) (hs.below hb) (hk.below hb)⟩
theorem constant_c (w : World) (x : V) : Calls Tryz.prog 280 #[.agg #[.int .i64 x.k, .int .i64 x.n, .string x.s]] w (NodeNew (From w.heap.size) w (cstX x)) := by
  go_enter Tryz.func280, Tryz.ntmps280
  go_wp2_with fail
  go_ret
  refine ⟨w.heap.size + 1, rfl, by (exact belQ), tree_new (v := .slice none 0 0) (l := []) (Nat.le_succ _) (heap_two' _ _ _) (.inl ⟨rfl, _, _, rfl⟩) (by unfold KidsAt; rfl)⟩
theorem stR : SliceTy Tryz.prog 51 105 5 48 := SliceTy.mk' Tryz.underlying51 (z := .agg #[.int .i64 0, .string ⟨#[]⟩, .int .i64 0, .int .i64 0, .bool false]) (by kernel_rfl) rfl (by decide) (by decide)
section
variable {p : Pp} {w : World} {s : Ps} {rv : Value}
theorem takeName_c (h : PsAt p w s rv) : Calls Tryz.prog 198 #[.pointer (some ⟨p.pb, 0, none⟩)] w (GoPost p w (takeP p.e s 1).2 rv (.agg #[.int .i64 ((takeP p.e s 1).1).kind, .string ⟨((takeP p.e s 1).1).text.toArray⟩, .int .i64 ((takeP p.e s 1).1).int, .int .i64 ((takeP p.e s 1).1).pos])) := by
  generalize htt : takeP p.e s 1 = tt
  obtain ⟨t, s1⟩ := tt
  have hT := fun w h => take_c (p := p) (w := w) (s := s) (rv := rv) h 1
  rw [htt] at hT
  clear htt
  go_enter Tryz.func198, Tryz.ntmps198
  go_wp2_with fail
  obtain ⟨z, w0, ez, ew, P0, F0, hz, hge, hgt, hlz⟩ := alloc_ex h (· = p.pb) #[.int .i64 0, .string ⟨#[]⟩, .int .i64 0, .int .i64 0] 100
  rw [ew, ez]
  clear ez ew
  go_wp2_with (go_at_call 241; refine (hT _ P0).mono ?_; rintro e w2 ⟨rfl, P2, F2⟩; have hz2 := (F2.block z hlz (by omega)).trans hz; obtain ⟨hcB, hfB⟩ := blk_cells (hz2); have d0 := hcB 0; have df0 := hfB 0; have d1 := hcB 1; have df1 := hfB 1; have d2 := hcB 2; have df2 := hfB 2; have d3 := hcB 3; have df3 := hfB 3; clear hcB hfB)
  refine bodyPost_ret (by simp [results, Tryz.results198, go_sem, d0, d1, d2, d3]; rfl) rfl ?_
  exact ⟨rfl, P2.far hz2 (by decide) hgt (by (exact pfrQ)), PFr.trans (F0.trans F2 fun _ _ x => x) (S' := (· = z)) (by (exact pfrQ)) fun k hk e => by omega⟩
theorem fld1 (k n q : Int) (x : ByteArray) (w : World) : (Instr.field 100 (.agg #[.int .i64 k, .string x, .int .i64 n, .int .i64 q]) 1).run Tryz.prog w = .ok (.string x) w := by rfl
theorem fld2 (k n q : Int) (x : ByteArray) (w : World) : (Instr.field 100 (.agg #[.int .i64 k, .string x, .int .i64 n, .int .i64 q]) 2).run Tryz.prog w = .ok (.int .i64 n) w := by rfl
theorem name_c (h : PsAt p w s rv) : Calls Tryz.prog 189 #[.pointer (some ⟨p.pb, 0, none⟩)] w (GoPost p w (takeP p.e s 1).2 rv (.string ⟨(takeP p.e s 1).1.text.toArray⟩)) := by
  have hT := takeName_c h
  generalize takeP p.e s 1 = tt at hT
  obtain ⟨t, s1⟩ := tt
  have hfl := fld1
  go_enter Tryz.func189, Tryz.ntmps189
  go_wp2_with (go_at_call 198; refine hT.mono ?_; rintro e w2 ⟨rfl, P2, F2⟩)
  go_ret
  exact ⟨rfl, P2, F2⟩
theorem pNumber_c (h : PsAt p w s rv) (hi : IntKind.i64.wrap (takeP p.e s 2).1.int = (takeP p.e s 2).1.int) : Calls Tryz.prog 193 #[.pointer (some ⟨p.pb, 0, none⟩)] w (GoPost p w (takeP p.e s 2).2 rv (.int .i64 (takeP p.e s 2).1.int)) := by
  have hT := take_c h 2
  generalize takeP p.e s 2 = tt at hT hi
  obtain ⟨t, s1⟩ := tt
  simp only at hi
  have hfl := fld2
  go_enter Tryz.func193, Tryz.ntmps193
  go_wp2_with (go_at_call 241; refine hT.mono ?_; rintro e w2 ⟨rfl, P2, F2⟩)
  go_ret
  exact ⟨rfl, P2, F2⟩
theorem psC_refs (u : Value) (s' : Ps) (h1 : s'.pos = s.pos) (h2 : s'.failed = s.failed) (h3 : s'.off = s.off) : (psC p s rv).set! 5 u = psC p s' u := by
  unfold psC
  rw [Array.set!_eq_setIfInBounds, Array.setIfInBounds_append_left (by simp), h1, h2, h3]
  rfl
theorem PsAt.after {w' : World} (h : PsAt p w s rv) (hg : w.grownBy w' rv.ownBlock) : w'.cell? ⟨p.pb, 5, none⟩ = some rv ∧ w'.frozen? ⟨p.pb, 5, none⟩ = false := by
  have hb : w'.heap[p.pb]? = w.heap[p.pb]? := hg.block _ h.lt fun e => by have := (h.refs.lt _ e.symm).1; omega
  exact ⟨(World.cell?_of_block (a := ⟨p.pb, 5, none⟩) hb).trans h.cells.1.2.2.2.2.2, (World.frozen?_of_block (a := ⟨p.pb, 5, none⟩) hb).trans h.cells.2.2.2.2.2.2⟩
theorem St.push {w0 w' : World} {rv0 rv' : Value} {r : Tk × Bool} (h : St p w0 rv0 w s rv) (own : w'.ownsRow (p.pb + 1) 105 5 rv' (s.refs.length + 1) (s.refs.flatMap refC ++ refC r)) (hg : w.grownBy w' rv.ownBlock) (hat : rv'.ownBlock = rv.ownBlock ∨ rv'.ownBlock = some (w.heap.size + 1)) :
    St p w0 rv0 (w'.setCell ⟨p.pb, 5, none⟩ rv') { s with refs := s.refs ++ [r] } rv' := by
  have hlt := h.at_.lt
  have hne : ∀ k, k ≤ p.pb → some k ≠ rv.ownBlock := fun k hk e => by have := (h.at_.refs.lt k e.symm).1; omega
  have hb : w'.heap[p.pb]? = _ := (hg.block _ hlt (hne _ (Nat.le_refl _))).trans h.at_.blk
  have hkeep : ∀ k, k ≠ p.pb → (w'.setCell ⟨p.pb, 5, none⟩ rv').heap[k]? = w'.heap[k]? := fun k hk => Below.heap_setCell w' ⟨p.pb, 5, none⟩ rv' k hk
  have hown : (w'.setCell ⟨p.pb, 5, none⟩ rv').ownsRow (p.pb + 1) 105 5 rv' (s.refs.length + 1) (s.refs.flatMap refC ++ refC r) := by
    refine ⟨own.1, ?_⟩
    rcases own.2 with h2 | ⟨g, cap, cur, h3, h4, h5, h6⟩
    · exact .inl h2
    · exact .inr ⟨g, cap, cur, h3, h4, (hkeep _ (by omega)).trans h5, h6⟩
  refine h.trans ⟨⟨?_, h.at_.toks.keep fun q hq => World.cell?_of_block ((hkeep _ (by omega)).trans (hg.block _ (by omega) (hne _ (by omega)))), h.at_.ok, h.at_.few, ?_⟩, ?_, ?_⟩
  · rw [heap_set hb, psC_refs (s := s) rv' { s with refs := s.refs ++ [r] } rfl rfl rfl]
  · simpa using hown
  · refine ((PFr.refl (SX p rv) w).grown hg fun k hk _ => .inr hk).setCell (.inl (.inl rfl)) _
  · intro k hk hl
    rcases hat with hat | hat
    · rw [← hat]; exact hk
    · rw [hat] at hk
      injection hk with hk
      omega
theorem reference_c (h : PsAt p w s rv) (hm : s.refs.length ≤ 500000) (right : Bool) : Calls Tryz.prog 289 #[.pointer (some ⟨p.pb, 0, none⟩), .bool right] w (NodePost p w rv (refP p.e right s).1 (refP p.e right s).2) := by
  have hT := fun w h => takeName_c (p := p) (w := w) (s := s) (rv := rv) h
  unfold refP
  generalize hs1 : takeP p.e s 1 = tt at hT ⊢
  obtain ⟨t, s1⟩ := tt
  have hrl : s1.refs = s.refs := by have := take_refs (e := p.e) (s := s) 1; rw [hs1] at this; exact this
  clear hs1
  simp only at hT ⊢
  have hr := h.refs
  rw [← hrl] at hr hm ⊢
  obtain ⟨⟨-, -, -, -, -, c5⟩, ⟨-, -, -, -, -, f5⟩⟩ := h.cells
  have h0 := h
  obtain ⟨A, c, rfl, hc1, hc2⟩ := own_slice hr
  clear hr hrl
  go_enter Tryz.func289, Tryz.ntmps289
  go_wp2_with fail
  go_region_law (first
    | (go_simp; go_at_call 198; refine (hT _ (by exact h0.drew)).mono ?_; rintro e w1 ⟨rfl, P1, F1⟩; obtain ⟨⟨-, -, -, -, -, d5⟩, ⟨-, -, -, -, -, g5⟩⟩ := P1.cells; have l1 := P1.lt)
    | (refine step_app (v := .slice A s1.refs.length c) rfl _ _ stR rfl rfl (by exact P1.refs) rfl rfl rfl (by simp [Value.oneCell']) (by omega) (by have := P1.lt; omega) ?_; intro v3 w3 own3 g3 at3; obtain ⟨e5, ef5⟩ := P1.after g3; obtain ⟨A3, c3, rfl, k31, k32⟩ := own_slice own3))
  all_goals
    have S2 := (((St.refl h0).drew).go P1 F1).push (r := (t, right)) own3 g3 at3
    clear hT c5 f5 d5 g5 e5 ef5 own3 g3 at3 P1 F1 l1 h k31 k32
    generalize w3.setCell _ _ = w4 at S2 ⊢
    go_wp2_with fail
    go_ret
    exact ⟨w4.heap.size, _, rfl, S2.alloc _, tree_new (v := .slice none 0 0) (l := []) S2.fr.size (heap_alloc_new _ _) (.inl ⟨rfl, _, _, rfl⟩) (by unfold KidsAt; rfl)⟩
end
section
variable {p : Pp}
def OpC (p : Pp) (k : FuncId) (lv f : Nat) : Prop := ∀ (w : World) (s : Ps) (rv : Value), PsAt p w s rv → p.e.meas s ≤ 400000 → 10 * (p.e.toks.length - s.pos) + lv + 1 ≤ f → Calls Tryz.prog k #[.pointer (some ⟨p.pb, 0, none⟩)] w (NodePost p w rv (parseP p.e f lv s).1 (parseP p.e f lv s).2)
def posW (p : Pp) (w : World) : Nat := match w.cell? ⟨p.pb, 1, none⟩ with
  | some (.int .i64 z) => z.toNat
  | _ => 0
theorem PsAt.posW {w : World} {s : Ps} {rv : Value} (h : PsAt p w s rv) : posW p w = s.pos := by
  unfold Go.Proofs.YtpnfbehbheddeaaGreatDoor.posW
  rw [h.cells.1.2.1]
  rfl
theorem chainP_f {e : Src} {f lv : Nat} {x : X} {s : Ps} (h : isP e s 0 (opsP lv) = false) : chainP e (f + 1) lv x s = (x, s) := by
  unfold chainP
  rw [if_neg (by simp [h])]
theorem chainP_t {e : Src} {f lv : Nat} {x : X} {s : Ps} (h : isP e s 0 (opsP lv) = true) : chainP e (f + 1) lv x s = chainP e f lv (opX (opP (expectP e s (opsP lv)).1) [x, (parseP e f (lv - 1) (expectP e s (opsP lv)).2).1]) (parseP e f (lv - 1) (expectP e s (opsP lv)).2).2 := by
  rw [chainP]
  rw [if_pos h]
theorem op2_c {lo : Nat} {w : World} {op : Int} {x y : X} {a b : Nat} (hlo : lo ≤ w.heap.size) (h : TreeAt (From lo) w x a) (h2 : TreeAt (From lo) w y b) : Calls Tryz.prog 132 #[.int .i64 op, .slice (some ⟨w.heap.size, 0, none⟩) 2 2] (w.alloc (.cells #[.pointer (some ⟨a, 0, none⟩), .pointer (some ⟨b, 0, none⟩)] 70))
    fun e w' => ∃ d, e = .returned (.pointer (some ⟨d, 0, none⟩)) ∧ Below (w.alloc (.cells #[.pointer (some ⟨a, 0, none⟩), .pointer (some ⟨b, 0, none⟩)] 70)).heap.size (w.alloc (.cells #[.pointer (some ⟨a, 0, none⟩), .pointer (some ⟨b, 0, none⟩)] 70)) w' ∧ TreeAt (From lo) w' (opX op [x, y]) d := by
  refine operation_c (B := From lo) (l := [a, b]) (ks := [x, y]) (by unfold From; simp; omega) (.inr ⟨w.heap.size, 2, #[ptrV a, ptrV b], hlo, rfl, by simp, heap_alloc_new w _, by simp, by simp [maxLen], fun i y hy => ?_⟩) ?_
  · match i, hy with
    | 0, hy => simp at hy; subst hy; rfl
    | 1, hy => simp at hy; subst hy; rfl
  · unfold KidsAt
    refine ⟨a, [b], rfl, h.below ((Below.refl _ _).alloc (Nat.le_refl _) _), ?_⟩
    unfold KidsAt
    exact ⟨b, [], rfl, h2.below ((Below.refl _ _).alloc (Nat.le_refl _) _), by unfold KidsAt; rfl⟩
theorem op1_c {lo : Nat} {w : World} {op : Int} {x : X} {a : Nat} (hlo : lo ≤ w.heap.size) (h : TreeAt (From lo) w x a) : Calls Tryz.prog 132 #[.int .i64 op, .slice (some ⟨w.heap.size, 0, none⟩) 1 1] (w.alloc (.cells #[.pointer (some ⟨a, 0, none⟩)] 70))
    fun e w' => ∃ d, e = .returned (.pointer (some ⟨d, 0, none⟩)) ∧ Below (w.alloc (.cells #[.pointer (some ⟨a, 0, none⟩)] 70)).heap.size (w.alloc (.cells #[.pointer (some ⟨a, 0, none⟩)] 70)) w' ∧ TreeAt (From lo) w' (opX op [x]) d := by
  refine operation_c (B := From lo) (l := [a]) (ks := [x]) (by unfold From; simp; omega) (.inr ⟨w.heap.size, 1, #[ptrV a], hlo, rfl, by simp, heap_alloc_new w _, by simp, by simp [maxLen], fun i y hy => ?_⟩) ?_
  · match i, hy with
    | 0, hy => simp at hy; subst hy; rfl
  · unfold KidsAt
    exact ⟨a, [], rfl, h.below ((Below.refl _ _).alloc (Nat.le_refl _) _), by unfold KidsAt; rfl⟩
def ChRel (p : Pp) (w : World) (rv : Value) (lv F : Nat) (R : X × Ps) (v4 : Value) (wr : World) : Prop :=
  ∃ (f a : Nat) (x : X) (s : Ps) (rv' : Value), v4 = ptrV a ∧ St p w rv wr s rv' ∧ TreeAt (From w.heap.size) wr x a ∧ Hid (chainP p.e f lv x s = R) ∧ f ≤ F ∧ 10 * (p.e.toks.length - s.pos) + 1 ≤ f ∧ p.e.meas s ≤ 400001
theorem chain_c (k : FuncId) (he : ∀ args w, (callFunc k args).run Tryz.prog w = .ok (.enter k args) w) (lv F : Nat) (hlv : 1 ≤ lv) (hlv2 : lv ≤ 9) (IH : ∀ f, f ≤ F → OpC p k (lv - 1) f) {w : World} {s : Ps} {rv : Value} (h : PsAt p w s rv) (hm : p.e.meas s ≤ 400000) (hf : 10 * (p.e.toks.length - s.pos) + lv ≤ F)
    {g n : Nat} {cs : Array Value} (hg : w.heap[g]? = some (.cells cs 9 (0, 0))) (hc : cs.toList = (opsP lv).map strV) (hn : (opsP lv).length = n) (hn1 : n ≤ 100) (_hn0 : 1 ≤ n) :
    Calls Tryz.prog 85 #[.pointer (some ⟨p.pb, 0, none⟩), .func (.func k) #[.pointer (some ⟨p.pb, 0, none⟩)] #[], .slice (some ⟨g, 0, none⟩) n n] w (NodePost p w rv (chainP p.e F lv (parseP p.e F (lv - 1) s).1 (parseP p.e F (lv - 1) s).2).1 (chainP p.e F lv (parseP p.e F (lv - 1) s).1 (parseP p.e F (lv - 1) s).2).2) := by
  have h0 := IH F (Nat.le_refl _) w s rv h hm (by omega)
  have hst := parse_step p.e F (lv - 1) s h.ok
  generalize hR : chainP p.e F lv (parseP p.e F (lv - 1) s).1 (parseP p.e F (lv - 1) s).2 = R
  generalize parseP p.e F (lv - 1) s = q at h0 hst hR
  obtain ⟨x0, s0⟩ := q
  obtain ⟨xR, sR⟩ := R
  simp only at h0 hst hR ⊢
  have hle := hst.le
  have hme := hst.meas
  have HR := Lib.hid hR
  clear hR hst
  unfold NodePost ptrV at h0
  go_enter Tryz.func85, Tryz.ntmps85
  go_wp2_with (refine h0.mono ?_; rintro e w1 ⟨a, rv', rfl, S1, T1⟩)
  have HG := Lib.hid hg
  have HI := Lib.hid IH
  clear IH hg
  go_loopw [7] (fun v7 wr => ChRel p w rv lv F (xR, sR) v7 wr) (fun v7 wr => p.e.toks.length - posW p wr)
  case atStart => exact ⟨F, a, x0, s0, rv', rfl, S1, T1, HR.out, Nat.le_refl _, by omega, by omega⟩
  case round =>
    obtain ⟨f1, a, x, s, rv', rfl, S, T, HC, hfF, hfu, hmm⟩ := hrel
    clear S1 T1 hle hme
    obtain ⟨f, rfl⟩ : ∃ f, f1 = f + 1 := ⟨f1 - 1, by omega⟩
    have hgr := (S.keepO h).words (by decide) HG.out
    have hI := is_c (c := n) S.at_ 0 (by omega) (opsP lv) (words_row hgr hc hn) hn1
    unfold BPost at hI
    have HM := Lib.hid S.at_.posW
    unfold ptrV
    cases hi : isP p.e s 0 (opsP lv)
    · have hC := HC.out
      rw [chainP_f hi] at hC
      obtain ⟨rfl, rfl⟩ : x = xR ∧ s = sR := ⟨congrArg Prod.fst hC, congrArg Prod.snd hC⟩
      rw [hi] at hI
      clear hi hC HC
      go_wp2_with (go_at_call 130; refine hI.mono ?_; rintro e w2 ⟨rfl, hb2⟩)
      go_ret
      exact ⟨a, rv', rfl, S.below hb2, T.below hb2⟩
    · have hC := HC.out
      rw [chainP_t hi] at hC
      have HC2 := Lib.hid hC
      have hlt := isP_lt hi
      have hmx := expect_more (e := p.e) (s := s) (opsP lv) (by omega)
      have hpx : (expectP p.e s (opsP lv)).2.pos = s.pos + 1 := by unfold expectP; rw [if_pos hi]
      rw [hi] at hI
      clear hi hC HC
      generalize hq : expectP p.e s (opsP lv) = q at hmx hpx HC2
      obtain ⟨wd, s3⟩ := q
      simp only at hmx hpx HC2
      have hE := fun w2 (S2 : St p w rv w2 s rv') (hg2 : w2.heap[g]? = some (.cells cs 9 (0, 0))) => expect_c (c := n) S2.at_ (opsP lv) (words_row (w := w2) (g := g) hg2 hc hn) hn1
      rw [hq] at hE
      unfold GoPost at hE
      simp only at hE
      have hO := fun w3 rv3 (P3 : PsAt p w3 s3 rv3) => HI.out f (by omega) w3 s3 rv3 P3 (by omega) (by omega)
      have hst := parse_step p.e f (lv - 1) s3
      generalize parseP p.e f (lv - 1) s3 = q at hO hst HC2
      obtain ⟨y, s4⟩ := q
      simp only at hO hst HC2
      unfold NodePost ptrV at hO
      clear hq
      go_wp2_with (first
        | (go_at_call 130; refine hI.mono ?_; rintro e w2 ⟨rfl, hb2⟩; have S2 := S.below hb2; have g2 := (hb2.block _ (heap_lt hgr)).trans hgr)
        | (go_at_call 88; refine (hE _ S2 g2).mono ?_; rintro e w3 ⟨rfl, P3, F3⟩; have S3 := S2.go P3 F3)
        | (go_at_call 131; refine (sOperatorOf_c wd _).mono ?_; rintro e w3' ⟨rfl, rfl⟩)
        | (refine (hO _ _ S3.at_).mono ?_; rintro e w4 ⟨b, rv4, rfl, S4, T4⟩; have T4' := T4.mono S3.fr.size; have T3 := ((T.below hb2).keep1 (S2.at_.keep_go F3)).keep1 (S4.keepO S3.at_); have z4 := (S3.trans S4).fr.size)
        | (go_at_call 132; with_reducible refine (op2_c (op := opP wd) z4 T3 T4').mono ?_; rintro e w5 ⟨d, rfl, hb5, T5⟩))
      have hz := S4.at_.ok
      have h5 := hst (by omega)
      have h5a := h5.le
      have h5b := h5.meas
      have S5 := (S3.trans S4).below (w' := w5) (by (exact belQ))
      have hp5 := S5.at_.posW
      go_roundw
      case rel =>
        exact ⟨f, d, _, s4, rv4, rfl, S5, T5, HC2.out, by omega, by omega, by omega⟩
      case measure =>
        rw [HM.out, hp5]
        omega
end
end Go.Proofs.YtpnfbehbheddeaaGreatDoor
