/- Contracts of the declarations of streams. The rows of the result have at most 100000 elements. The parser of declarations only goes forward. Plain Lean, no program in sight, no condition. The parser with what it has read as one part of memory; trees as parts; contracts of the parser's small methods in this form. No condition beyond the state. -/
import Derived.Test.YtpnfbehbheddeaaGreatDoorBn20
import Derived.Test.YtpnfbehbheddeaaGreatDoorBn21
import Derived.Test.YtpnfbehbheddeaaGreatDoorBn19
import Derived.Test.YtpnfbehbheddeaaGreatDoorBn03
import Derived.Test.YtpnfbehbheddeaaGreatDoorBn08
namespace Go.Proofs.YtpnfbehbheddeaaGreatDoor
set_option maxRecDepth 100000
set_option maxHeartbeats 8000000
set_option linter.unusedVariables false
set_option linter.unusedSimpArgs false
open Go.RowKit
section
variable {P : Program} {ops : Array Oper} {rest : List Oper} {o : Oper} {a : Act} {Q : Exit → Act → World → Prop} {w : World}
theorem step_app3 {K : Act → World → Prop} {E : Prop} (hgd : o.guard = none) (s x : Operand) {t e : TypeId} {size bytes : Nat} (ST : SliceTy P t e size bytes)
    (ho : o.op = .call { callee := .builtin .append, args := #[s, x], argTypes := #[t, t] })
    {base : Nat} {v : Value} {n : Nat} {xs : List Value} (hs : a.eval s = v) (hown : w.ownsRow base e size v n xs)
    {A : Option Addr} {m c B : Nat} {news : List Value} (hx : a.eval x = .slice A m c) (hl : news.length = m * size) (hr : Rd w B A news) (hnone : A = none → c = 0) (h1 : ∀ u ∈ news, u.oneCell' = true)
    (hbytes : (n + m) * bytes ≤ 140737488355328) (hbase : base ≤ w.heap.size)
    (h : ∀ v' w', w'.ownsRow base e size v' (n + m) (xs ++ news) → w.grownBy w' v.ownBlock → (v'.ownBlock = v.ownBlock ∨ v'.ownBlock = some w.heap.size) → K (a.put o.dst v') w') :
    if Region.wanted o (yielded ops a.tmps) = true then Oper.wp P o a w K Q else E := by
  rw [if_pos (by simp [Region.wanted, hgd])]
  exact wp_appAny s x ST ho hs hown hx hl hr hnone h1 hbytes hbase h
end
theorem litRd {w : World} {k : Nat} {cs : Array Value} {te : TypeId} (h : w.heap[k]? = some (.cells cs te (0, 0))) : Rd w w.heap.size (some ⟨k, 0, none⟩) cs.toList := fun _ => ⟨k, 0, rfl, heap_lt h, fun j u hu => by rw [cell_of_row w k (0 + j) cs te (0, 0) h, Nat.zero_add]; simpa using hu⟩
section
variable {p : Pp} {lo : Nat} {w w' : World} {s s' : Ps} {rv : Value} {ns : Nat → Nat} {cs : Nat → List Value}
theorem DSt.step (h : DSt p lo w s rv ns cs) (h1 : PsAt p w' s' rv) (h2 : PFr (· = p.pb) w w') : DSt p lo w' s' rv ns cs := h.go h1 h2 h.hr
theorem DSt.after (h : DSt p lo w s rv ns cs) {i : Nat} (hi : i < 21) (hg : w.grownBy w' (p.rowV i).ownBlock) : w'.cell? ⟨p.pb, 6 + i, none⟩ = some (p.rowV i) ∧ w'.frozen? ⟨p.pb, 6 + i, none⟩ = false ∧ p.pb < w'.heap.size := by
  have hb : w'.heap[p.pb]? = w.heap[p.pb]? := hg.block _ h.at_.lt fun e => by have := ((h.rows i hi).lt _ e.symm).1; have := h.hlo; omega
  exact ⟨(World.cell?_of_block (a := ⟨p.pb, 6 + i, none⟩) hb).trans (h.cell hi).1, (World.frozen?_of_block (a := ⟨p.pb, 6 + i, none⟩) hb).trans (h.cell hi).2, Nat.lt_of_lt_of_le h.at_.lt hg.size⟩
end
theorem rowV_with {p : Pp} {i j : Nat} (v : Value) (h : j ≠ i) : (p.withRow i v).rowV j = p.rowV j := by
  unfold Pp.rowV Pp.withRow
  rw [Array.set!_eq_setIfInBounds, Array.getElem?_setIfInBounds_ne (Ne.symm h)]
theorem PsAt.rv_eq {p : Pp} {w : World} {s : Ps} {rv rv' : Value} (h : PsAt p w s rv) (h' : PsAt p w s rv') : rv' = rv := by
  have h1 := h.blk.symm.trans h'.blk
  injection h1 with h1
  injection h1 with h1
  have h2 : ∀ v, (psC p s v)[5]? = some v := fun v => by
    unfold psC
    rw [Array.getElem?_append_left (by simp)]
    rfl
  have h3 := congrArg (fun x : Array Value => x[5]?) h1
  rw [h2, h2] at h3
  injection h3 with h3
  exact h3.symm
theorem stStm : SliceTy Tryz.prog 58 262 2 32 := SliceTy.mk' Tryz.underlying58 (z := .agg #[.string ⟨#[]⟩, .string ⟨#[]⟩]) (by kernel_rfl) rfl (by decide) (by decide)
def stmC (x : Stm) : Array Value := #[.string ⟨x.name.toArray⟩, .string ⟨x.table.toArray⟩]
def Fwd (e : Src) (s s' : Ps) : Prop := s.pos ≤ e.toks.length → s.pos ≤ s'.pos ∧ s'.pos ≤ e.toks.length
section
variable {e : Src} {s s1 s2 : Ps}
theorem Fwd.refl : Fwd e s s := fun h => ⟨Nat.le_refl _, h⟩
theorem Fwd.trans (h1 : Fwd e s s1) (h2 : Fwd e s1 s2) : Fwd e s s2 := fun h => by
  have a := h1 h
  have b := h2 a.2
  omega
theorem fwd_of {k : Nat} (h : s.pos ≤ e.toks.length → StepP e k s s1) : Fwd e s s1 := fun h0 => ⟨(h h0).le, (h h0).ok⟩
theorem fwd_expect (ws : List Bs) : Fwd e s (expectP e s ws).2 := fwd_of (step_expect ws)
theorem fwd_take (k : Int) : Fwd e s (takeP e s k).2 := fwd_of (step_take k)
theorem fwd_name : Fwd e s (nameP e s).2 := fwd_take 1
theorem fwd_num : Fwd e s (numP e s).2 := fwd_take 2
theorem fwd_next {ws : List Bs} (h : isP e s 0 ws = true) : Fwd e s { s with pos := s.pos + 1 } := fun _ => ⟨Nat.le_succ _, by have := isP_lt h; show s.pos + 1 ≤ _; omega⟩
theorem fwd_opt {α : Type} (w : Bs) (d : α) {p : Ps → α × Ps} (hp : ∀ s, Fwd e s (p s).2) : Fwd e s (optP e w d p s).2 := by
  unfold optP
  split
  · rename_i h
    exact (fwd_next h).trans (hp _)
  · exact Fwd.refl
theorem fwd_accept (ws : List Bs) : Fwd e s (acceptP e s ws).2 := by
  unfold acceptP
  split
  · rename_i h
    exact fwd_next h
  · exact Fwd.refl
theorem fwd_owners : ∀ (f : Nat) (s : Ps), Fwd e s (ownersP e f s).2
  | 0, s => Fwd.refl
  | f + 1, s => by
    unfold ownersP
    split
    · exact (fwd_take 1).trans (fwd_owners f _)
    · exact Fwd.refl
theorem fwd_personal : Fwd e s (personalP e s).2 := ((fwd_accept _).trans (fwd_expect _)).trans ((fwd_take 1).trans (fwd_owners _ _))
theorem fwd_column : Fwd e s (columnP e s).2 :=
  (fwd_name.trans (fwd_expect _)).trans ((fwd_opt _ _ fun _ => fwd_name).trans ((fwd_opt _ _ fun _ => fwd_name).trans ((fwd_opt _ _ fun _ => fwd_personal).trans (fwd_opt _ _ fun _ => fwd_num))))
theorem fwd_whole : Fwd e s (wholeP e s).2 := fun h => ⟨(parse_step e e.fuel 6 { s with refs := [] } h).le, (parse_step e e.fuel 6 { s with refs := [] } h).ok⟩
theorem fwd_item : Fwd e s (itemP e s).2 := (fwd_name.trans (fwd_expect _)).trans fwd_whole
theorem fwd_pair : Fwd e s (pairP e s).2 := ((fwd_take 1).trans (fwd_expect _)).trans (fwd_take 1)
theorem fwd_arg : Fwd e s (argP e s).2 := (fwd_expect _).trans (fwd_whole.trans (fwd_expect _))
theorem fwd_agg : Fwd e s (aggP e s).2 := by
  unfold aggP
  dsimp only
  split
  · exact fwd_name.trans ((fwd_expect _).trans (fwd_expect _))
  · exact fwd_name.trans ((fwd_expect _).trans (fwd_expect _))
  · exact (fwd_name.trans ((fwd_expect _).trans (fwd_expect _))).trans fwd_arg
end
theorem own_agree {S : Nat → Prop} {w w' : World} {base : Nat} {e : TypeId} {size n : Nat} {v : Value} {xs : List Value} (h : w.ownsRow base e size v n xs) (g : Agree S w w') (hS : ∀ k, v.ownBlock = some k → S k) : w'.ownsRow base e size v n xs :=
  own_pfr h (S := fun k => k < w.heap.size ∧ ¬ S k) ⟨g.os, g.tape, g.output, g.size, fun k hk hn => g.block k (Classical.byContradiction fun e => hn ⟨hk, e⟩)⟩ fun k hk hn => hn.2 (hS k hk)
abbrev Pool := List (Value × List (Tk × Bool))
def dS (p : Pp) (rv : Value) (pool : Pool) (k : Nat) : Prop := k = p.pb ∨ (p.e.toks ≠ [] ∧ ∃ o, p.TA = some ⟨k, o, none⟩) ∨ rv.ownBlock = some k ∨ (∃ i, i < 21 ∧ (p.rowV i).ownBlock = some k) ∨ ∃ x ∈ pool, x.1.ownBlock = some k
def PoolAt (w : World) (pool : Pool) : Prop := ∀ x ∈ pool, w.ownsRow 0 105 5 x.1 x.2.length (x.2.flatMap refC)
theorem toks_ne {l : List Tk} : l.flatMap Tk.cells ≠ [] → l ≠ [] := by
  rintro h rfl
  exact h rfl
theorem DSt.keepA {p : Pp} {lo : Nat} {w w' : World} {s : Ps} {rv : Value} {ns : Nat → Nat} {cs : Nat → List Value} {pool : Pool} (h : DSt p lo w s rv ns cs) (g : Agree (dS p rv pool) w w') : DSt p lo w' s rv ns cs := by
  refine ⟨⟨(g.block _ (.inl rfl)).trans h.at_.blk, ⟨h.at_.toks.len, fun hx => ?_⟩, h.at_.ok, h.at_.few, own_agree h.at_.refs g fun k hk => .inr (.inr (.inl hk))⟩, h.sz, fun i hi => own_agree (h.rows i hi) g fun k hk => .inr (.inr (.inr (.inl ⟨i, hi, hk⟩))), h.dist, h.hlo, h.hr⟩
  obtain ⟨b, off, e, hb, hc⟩ := h.at_.toks.rd hx
  exact ⟨b, off, e, hb, fun j u hu => (World.cell?_of_block (a := ⟨b, off + j, none⟩) (g.block b (.inr (.inl ⟨toks_ne hx, off, e⟩)))).trans (hc j u hu)⟩
theorem DSt.ltA {p : Pp} {lo : Nat} {w : World} {s : Ps} {rv : Value} {ns : Nat → Nat} {cs : Nat → List Value} {pool : Pool} (h : DSt p lo w s rv ns cs) (hp : PoolAt w pool) : ∀ k, dS p rv pool k → k < w.heap.size := by
  rintro k (rfl | ⟨h1, o, h2⟩ | h1 | ⟨i, hi, h1⟩ | ⟨x, hx, h1⟩)
  · exact h.at_.lt
  · obtain ⟨b, off, e, hb, -⟩ := h.at_.toks.rd (by
      cases ht : p.e.toks with
      | nil => exact absurd ht h1
      | cons t l => simp [Tk.cells])
    rw [h2] at e
    injection e with e
    injection e with e _
    subst e
    exact Nat.lt_trans hb h.at_.lt
  · exact (h.at_.refs.lt k h1).2
  · exact ((h.rows i hi).lt k h1).2
  · exact ((hp x hx).lt k h1).2
def dA (p : Pp) (s : Ps) (ns : Nat → Nat) (cs : Nat → List Value) (pool : Pool) : HA where
  holds w S := ∃ rv, DSt p (p.pb + 1) w s rv ns cs ∧ PoolAt w pool ∧ S = dS p rv pool
  keep := by
    rintro w w' S ⟨rv, h, hp, rfl⟩ g
    exact ⟨rv, h.keepA g, fun x hx => own_agree (hp x hx) g fun k hk => .inr (.inr (.inr (.inr ⟨x, hx, hk⟩))), rfl⟩
  lt := by
    rintro w S ⟨rv, h, hp, rfl⟩
    exact h.ltA hp
def PartPost (v : Value) (l : List HA) (e : Ending) (w' : World) : Prop := e = .returned v ∧ HS w' l
section
variable {p : Pp} {w w' : World} {s s' : Ps} {ns : Nat → Nat} {cs : Nat → List Value} {pool : Pool} {l l' : List HA}
theorem HS.ps (H : HS w l) (hp : Pick l (dA p s ns cs pool) l') : ∃ rv, PsAt p w s rv ∧ ∀ w' s', PsAt p w' s' rv → PFr (· = p.pb) w w' → HS w' (dA p s' ns cs pool :: l') := by
  obtain ⟨S, ⟨rv, h, hq, rfl⟩, h2⟩ := (H.pick hp).go
  refine ⟨rv, h.at_, fun w' s' h3 h4 => h2 w' _ _ (h4.mono fun k _ e => .inl e) ⟨rv, h.step h3 h4, fun x hx => own_pfr (hq x hx) h4 ?_, rfl⟩ fun k hk => .inl hk⟩
  rintro k hk rfl
  obtain ⟨c, hc⟩ := ref_blk (hq x hx) hk
  rw [h.at_.blk] at hc
  injection hc with hc
  injection hc with _ hc
  exact absurd hc (by decide)
theorem HS.psNew (H : HS w l) (hp : Pick l (dA p s ns cs pool) l') : ∃ rv, PsAt p w s rv ∧ ∀ w' s' (B : HA) S', PsAt p w' s' rv → PFr (· = p.pb) w w' → B.holds w' S' → (∀ k, S' k → w.heap.size ≤ k) → HS w' (B :: dA p s' ns cs pool :: l') := by
  obtain ⟨S, ⟨rv, h, hq, rfl⟩, h2⟩ := (H.pick hp).go
  refine ⟨rv, h.at_, fun w' s' B S' h3 h4 hB hS => ?_⟩
  have hd : (dA p s' ns cs pool).holds w' (dS p rv pool) := ⟨rv, h.step h3 h4, fun x hx => own_pfr (hq x hx) h4 (by
    rintro k hk rfl
    obtain ⟨c, hc⟩ := ref_blk (hq x hx) hk
    rw [h.at_.blk] at hc
    injection hc with hc
    injection hc with _ hc
    exact absurd hc (by decide)), rfl⟩
  have h5 := h2 w' (allA [B, dA p s' ns cs pool]) (fun k => S' k ∨ dS p rv pool k) (h4.mono fun k _ e => .inl e)
    ⟨S', _, hB, ⟨_, fun _ => False, hd, fun _ h => h, fun _ _ h => h, fun k => (or_iff_left id).symm⟩, fun k a b => by have := hS k a; have := h.ltA hq k b; omega, fun _ => Iff.rfl⟩ fun k hk => hk.elim (fun a => .inr (hS k a)) .inl
  exact h5.all_
theorem HS.few (H : HS w l) (hp : Pick l (dA p s ns cs pool) l') : p.e.toks.length ≤ 100000 ∧ s.pos ≤ p.e.toks.length ∧ p.pb < w.heap.size := by
  obtain ⟨rv, P, -⟩ := H.ps hp
  exact ⟨P.few, P.ok, P.lt⟩
theorem name_s (H : HS w l) (hp : Pick l (dA p s ns cs pool) l') : Calls Tryz.prog 189 #[.pointer (some ⟨p.pb, 0, none⟩)] w (PartPost (.string ⟨(takeP p.e s 1).1.text.toArray⟩) (dA p (takeP p.e s 1).2 ns cs pool :: l')) := by
  obtain ⟨rv, P, h⟩ := H.ps hp
  exact (name_c P).mono fun e w' ⟨h1, h2, h3⟩ => ⟨h1, h _ _ h2 h3⟩
theorem takeName_s (H : HS w l) (hp : Pick l (dA p s ns cs pool) l') : Calls Tryz.prog 198 #[.pointer (some ⟨p.pb, 0, none⟩)] w (PartPost (.agg #[.int .i64 ((takeP p.e s 1).1).kind, .string ⟨((takeP p.e s 1).1).text.toArray⟩, .int .i64 ((takeP p.e s 1).1).int, .int .i64 ((takeP p.e s 1).1).pos]) (dA p (takeP p.e s 1).2 ns cs pool :: l')) := by
  obtain ⟨rv, P, h⟩ := H.ps hp
  exact (takeName_c P).mono fun e w' ⟨h1, h2, h3⟩ => ⟨h1, h _ _ h2 h3⟩
theorem number_s (hN : p.e.okN) (H : HS w l) (hp : Pick l (dA p s ns cs pool) l') : Calls Tryz.prog 193 #[.pointer (some ⟨p.pb, 0, none⟩)] w (PartPost (.int .i64 (takeP p.e s 2).1.int) (dA p (takeP p.e s 2).2 ns cs pool :: l')) := by
  obtain ⟨rv, P, h⟩ := H.ps hp
  have hn := take_num hN s
  exact (pNumber_c P (IntWalk.i64_in _ (by omega))).mono fun e w' ⟨h1, h2, h3⟩ => ⟨h1, h _ _ h2 h3⟩
theorem acc1_s (H : HS w l) (hp : Pick l (dA p s ns cs pool) l') (x0 : Bs) : Calls Tryz.prog 142 #[.pointer (some ⟨p.pb, 0, none⟩), .slice (some ⟨w.heap.size, 0, none⟩) 1 1] (w.alloc (.cells #[.string ⟨x0.toArray⟩] 9)) (PartPost (.bool (acceptP p.e s [x0]).1) (dA p (acceptP p.e s [x0]).2 ns cs pool :: l')) := by
  obtain ⟨rv, P, h⟩ := H.ps hp
  exact (acc1_c P x0).mono fun e w' ⟨h1, h2, h3⟩ => ⟨h1, h _ _ h2 h3⟩
theorem is01_s (H : HS w l) (hp : Pick l (dA p s ns cs pool) l') (x0 : Bs) : Calls Tryz.prog 130 #[.pointer (some ⟨p.pb, 0, none⟩), .int .i64 0, .slice (some ⟨w.heap.size, 0, none⟩) 1 1] (w.alloc (.cells #[.string ⟨x0.toArray⟩] 9)) (PartPost (.bool (isP p.e s 0 [x0])) (dA p s ns cs pool :: l')) := by
  obtain ⟨rv, P, h⟩ := H.ps hp
  exact (isw01_c P x0).mono fun e w' ⟨h1, h2, h3⟩ => ⟨h1, h _ _ h2 h3⟩
theorem is11_s (H : HS w l) (hp : Pick l (dA p s ns cs pool) l') (x0 : Bs) : Calls Tryz.prog 130 #[.pointer (some ⟨p.pb, 0, none⟩), .int .i64 1, .slice (some ⟨w.heap.size, 0, none⟩) 1 1] (w.alloc (.cells #[.string ⟨x0.toArray⟩] 9)) (PartPost (.bool (isP p.e s 1 [x0])) (dA p s ns cs pool :: l')) := by
  obtain ⟨rv, P, h⟩ := H.ps hp
  exact (isw11_c P x0).mono fun e w' ⟨h1, h2, h3⟩ => ⟨h1, h _ _ h2 h3⟩
theorem exp1_s (H : HS w l) (hp : Pick l (dA p s ns cs pool) l') (x0 : Bs) : Calls Tryz.prog 88 #[.pointer (some ⟨p.pb, 0, none⟩), .slice (some ⟨w.heap.size, 0, none⟩) 1 1] (w.alloc (.cells #[.string ⟨x0.toArray⟩] 9)) (PartPost (.string ⟨(expectP p.e s [x0]).1.toArray⟩) (dA p (expectP p.e s [x0]).2 ns cs pool :: l')) := by
  obtain ⟨rv, P, h⟩ := H.ps hp
  exact (exp1_c P x0).mono fun e w' ⟨h1, h2, h3⟩ => ⟨h1, h _ _ h2 h3⟩
theorem exp3_s (H : HS w l) (hp : Pick l (dA p s ns cs pool) l') (x0 x1 x2 : Bs) : Calls Tryz.prog 88 #[.pointer (some ⟨p.pb, 0, none⟩), .slice (some ⟨w.heap.size, 0, none⟩) 3 3] (w.alloc (.cells #[.string ⟨x0.toArray⟩, .string ⟨x1.toArray⟩, .string ⟨x2.toArray⟩] 9)) (PartPost (.string ⟨(expectP p.e s [x0, x1, x2]).1.toArray⟩) (dA p (expectP p.e s [x0, x1, x2]).2 ns cs pool :: l')) := by
  obtain ⟨rv, P, h⟩ := H.ps hp
  exact (exp3_c P x0 x1 x2).mono fun e w' ⟨h1, h2, h3⟩ => ⟨h1, h _ _ h2 h3⟩
theorem exp5_s (H : HS w l) (hp : Pick l (dA p s ns cs pool) l') (x0 x1 x2 x3 x4 : Bs) : Calls Tryz.prog 88 #[.pointer (some ⟨p.pb, 0, none⟩), .slice (some ⟨w.heap.size, 0, none⟩) 5 5] (w.alloc (.cells #[.string ⟨x0.toArray⟩, .string ⟨x1.toArray⟩, .string ⟨x2.toArray⟩, .string ⟨x3.toArray⟩, .string ⟨x4.toArray⟩] 9)) (PartPost (.string ⟨(expectP p.e s [x0, x1, x2, x3, x4]).1.toArray⟩) (dA p (expectP p.e s [x0, x1, x2, x3, x4]).2 ns cs pool :: l')) := by
  obtain ⟨rv, P, h⟩ := H.ps hp
  exact (exp5_c P x0 x1 x2 x3 x4).mono fun e w' ⟨h1, h2, h3⟩ => ⟨h1, h _ _ h2 h3⟩
theorem exp8_s (H : HS w l) (hp : Pick l (dA p s ns cs pool) l') (x0 x1 x2 x3 x4 x5 x6 x7 : Bs) : Calls Tryz.prog 88 #[.pointer (some ⟨p.pb, 0, none⟩), .slice (some ⟨w.heap.size, 0, none⟩) 8 8] (w.alloc (.cells #[.string ⟨x0.toArray⟩, .string ⟨x1.toArray⟩, .string ⟨x2.toArray⟩, .string ⟨x3.toArray⟩, .string ⟨x4.toArray⟩, .string ⟨x5.toArray⟩, .string ⟨x6.toArray⟩, .string ⟨x7.toArray⟩] 9)) (PartPost (.string ⟨(expectP p.e s [x0, x1, x2, x3, x4, x5, x6, x7]).1.toArray⟩) (dA p (expectP p.e s [x0, x1, x2, x3, x4, x5, x6, x7]).2 ns cs pool :: l')) := by
  obtain ⟨rv, P, h⟩ := H.ps hp
  exact (exp8_c P x0 x1 x2 x3 x4 x5 x6 x7).mono fun e w' ⟨h1, h2, h3⟩ => ⟨h1, h _ _ h2 h3⟩
theorem HS.rcell (H : HS w l) (hp : Pick l (dA p s ns cs pool) l') {i : Nat} (hi : i < 21) : ∃ A c, p.rowV i = .slice A (ns i) c ∧ w.cell? ⟨p.pb, 6 + i, none⟩ = some (.slice A (ns i) c) ∧ w.frozen? ⟨p.pb, 6 + i, none⟩ = false ∧ p.pb < w.heap.size ∧ w.ownsRow (p.pb + 1) (rty i) (rsz i) (.slice A (ns i) c) (ns i) (cs i) := by
  obtain ⟨S, rv, h, -⟩ := (H.pick hp).head
  obtain ⟨A, c, hv, -, -⟩ := own_slice (h.rows i hi)
  exact ⟨A, c, hv, hv ▸ (h.cell hi).1, (h.cell hi).2, h.at_.lt, hv ▸ h.rows i hi⟩
theorem HS.after (H : HS w l) (hp : Pick l (dA p s ns cs pool) l') {i : Nat} (hi : i < 21) {A : Option Addr} {n c : Nat} (hv : p.rowV i = .slice A n c) (hg : w.grownBy w' (Value.slice A n c).ownBlock) : w'.cell? ⟨p.pb, 6 + i, none⟩ = some (.slice A n c) ∧ w'.frozen? ⟨p.pb, 6 + i, none⟩ = false ∧ p.pb < w'.heap.size := by
  obtain ⟨S, rv, h, -⟩ := (H.pick hp).head
  rw [← hv]
  exact h.after hi (by rw [hv]; exact hg)
theorem HS.pushed (H : HS w l) (hp : Pick l (dA p s ns cs pool) l') {i : Nat} (hi : i < 21) {A : Option Addr} {n c : Nat} (hv : p.rowV i = .slice A n c) {v' : Value} {new : List Value} (ho : w'.ownsRow (p.pb + 1) (rty i) (rsz i) v' (ns i + 1) (cs i ++ new)) (hg : w.grownBy w' (Value.slice A n c).ownBlock) (hat : v'.ownBlock = (Value.slice A n c).ownBlock ∨ v'.ownBlock = some w.heap.size) :
    HS (w'.setCell ⟨p.pb, 6 + i, none⟩ v') (dA (p.withRow i v') s (fun j => if j = i then ns i + 1 else ns j) (fun j => if j = i then cs i ++ new else cs j) pool :: l') := by
  obtain ⟨S, ⟨rv, h, hq, rfl⟩, h2⟩ := (H.pick hp).go
  rw [← hv] at hg hat
  have hD := h.push hi ho hg (hat.imp_right fun e => ⟨_, e, Nat.le_refl _⟩)
  have hF : PFr (fun k => k = p.pb ∨ (p.rowV i).ownBlock = some k) w (w'.setCell ⟨p.pb, 6 + i, none⟩ v') := ((PFr.refl _ _).grown hg fun k hk _ => .inr hk).setCell (.inl (.inl rfl)) v'
  refine h2 _ _ _ (hF.mono fun k _ e => ?_) ⟨rv, hD, fun x hx => own_pfr (hq x hx) hF ?_, rfl⟩ ?_
  · rcases e with e | e
    · exact .inl e
    · exact .inr (.inr (.inr (.inl ⟨i, hi, e⟩)))
  · rintro k hk (rfl | e)
    · obtain ⟨c, hc⟩ := ref_blk (hq x hx) hk
      rw [h.at_.blk] at hc
      injection hc with hc
      injection hc with _ hc
      exact absurd hc (by decide)
    · obtain ⟨c, hc⟩ := ref_blk (hq x hx) hk
      obtain ⟨c2, hc2⟩ := ref_blk (h.rows i hi) e
      rw [hc] at hc2
      injection hc2 with hc2
      injection hc2 with _ hc2
      exact (rty_ne i hi).1 hc2.symm
  · rintro k (e | e | e | ⟨j, hj, e⟩ | e)
    · exact .inl (.inl e)
    · exact .inl (.inr (.inl e))
    · exact .inl (.inr (.inr (.inl e)))
    · by_cases hji : j = i
      · subst hji
        have : (p.withRow j v').rowV j = v' := by
          unfold Pp.rowV Pp.withRow
          have hs := h.sz
          rw [Array.set!_eq_setIfInBounds, Array.getElem?_setIfInBounds_self, if_pos (by omega)]
          rfl
        rw [this] at e
        rcases hat with hat | hat
        · exact .inl (.inr (.inr (.inr (.inl ⟨j, hj, hat ▸ e⟩))))
        · rw [hat] at e
          injection e with e
          exact .inr (Nat.le_of_eq e)
      · rw [rowV_with v' hji] at e
        exact .inl (.inr (.inr (.inr (.inl ⟨j, hj, e⟩))))
    · exact .inl (.inr (.inr (.inr (.inr e))))
end
def NodeB (w : World) (B : Nat → Prop) (k : Nat) : Prop := B k ∧ ∃ cs te, w.heap[k]? = some (.cells cs te (0, 0)) ∧ (te = 138 ∨ te = 70)
mutual
theorem TreeAt.nodes {B : Nat → Prop} {w : World} : ∀ (x : X) (a : Nat), TreeAt B w x a → TreeAt (NodeB w B) w x a
  | .node t ks, a, h => by
    unfold TreeAt at h ⊢
    obtain ⟨hb, v, l, h1, h2, h3⟩ := h
    refine ⟨⟨hb, _, _, h1, .inl rfl⟩, v, l, h1, ?_, KidsAt.nodes ks l h3⟩
    rcases h2 with h2 | ⟨g, cap, cur, hb, e1, e2, e3, e4⟩
    · exact .inl h2
    · exact .inr ⟨g, cap, cur, ⟨hb, _, _, e3, .inr rfl⟩, e1, e2, e3, e4⟩
theorem KidsAt.nodes {B : Nat → Prop} {w : World} : ∀ (ks : List X) (l : List Nat), KidsAt B w ks l → KidsAt (NodeB w B) w ks l
  | [], l, h => by unfold KidsAt at h ⊢; exact h
  | x :: ks, l, h => by
    unfold KidsAt at h ⊢
    obtain ⟨a, m, h1, h2, h3⟩ := h
    exact ⟨a, m, h1, TreeAt.nodes x a h2, KidsAt.nodes ks m h3⟩
end
def treeA (x : X) (a : Nat) : HA where
  holds w S := TreeAt S w x a ∧ ∀ k, S k → k < w.heap.size
  keep := by
    rintro w w' S ⟨h, h2⟩ g
    exact ⟨TreeAt.keep (T := []) ⟨by simp, by simp⟩ (fun _ h _ => h) (fun k cs te hk _ _ => g.block k hk) x a h, fun k hk => Nat.lt_of_lt_of_le (h2 k hk) g.size⟩
  lt := by
    rintro w S ⟨h, h2⟩
    exact h2
section
variable {p : Pp} {w w' : World} {s s' : Ps} {ns : Nat → Nat} {cs : Nat → List Value} {pool : Pool} {l l' : List HA}
def WhS (p : Pp) (x : Xr) (s' : Ps) (ns : Nat → Nat) (cs : Nat → List Value) (pool : Pool) (l : List HA) (e : Ending) (w' : World) : Prop :=
  ∃ r a A c, x = ⟨some r, s'.refs⟩ ∧ e = .returned (.agg #[ptrV a, .slice A s'.refs.length c]) ∧ HS w' (treeA r a :: dA p s' ns cs ((.slice A s'.refs.length c, s'.refs) :: pool) :: l)
theorem whole_s (hN : p.e.okN) (H : HS w l) (hp : Pick l (dA p s ns cs pool) l') : Calls Tryz.prog 19 #[.pointer (some ⟨p.pb, 0, none⟩)] w (WhS p (wholeP p.e s).1 (wholeP p.e s).2 ns cs pool l') := by
  obtain ⟨S, ⟨rv, h, hq, rfl⟩, h2⟩ := (H.pick hp).go
  refine (whole_c hN h.at_).mono ?_
  rintro e w' ⟨r, a, rv', e1, e2, P, T, F, O⟩
  obtain ⟨A, c, rfl, -, -⟩ := own_slice P.refs
  refine ⟨r, a, A, c, e1, e2, ?_⟩
  generalize (wholeP p.e s).2 = s' at *
  generalize hv : Value.slice A s'.refs.length c = v at *
  have hrefs : ∀ k, v.ownBlock = some k → ∃ cur, w'.heap[k]? = some (.cells cur 105 (0, 0)) := fun k hk => ref_blk P.refs hk
  have hD : (dA p s' ns cs ((v, s'.refs) :: pool)).holds w' (dS p v ((v, s'.refs) :: pool)) := by
    refine ⟨v, h.go P F fun k hk => by have := O k hk; have := h.at_.lt; omega, fun x hx => ?_, rfl⟩
    rcases List.mem_cons.1 hx with rfl | hx
    · exact own_base P.refs (Nat.zero_le _)
    · refine own_pfr (hq x hx) F ?_
      rintro k hk rfl
      obtain ⟨c, hc⟩ := ref_blk (hq x hx) hk
      rw [h.at_.blk] at hc
      injection hc with hc
      injection hc with _ hc
      exact absurd hc (by decide)
  have hS : ∀ k, dS p v ((v, s'.refs) :: pool) k → dS p rv pool k ∨ (w.heap.size ≤ k ∧ v.ownBlock = some k) := by
    rintro k (e | e | e | e | ⟨x, hx, e⟩)
    · exact .inl (.inl e)
    · exact .inl (.inr (.inl e))
    · exact .inr ⟨O k e, e⟩
    · exact .inl (.inr (.inr (.inr (.inl e))))
    · rcases List.mem_cons.1 hx with rfl | hx
      · exact .inr ⟨O k e, e⟩
      · exact .inl (.inr (.inr (.inr (.inr ⟨x, hx, e⟩))))
  have hT : (treeA r a).holds w' (NodeB w' (From w.heap.size)) := ⟨T.nodes, fun k ⟨_, _, _, hk, _⟩ => heap_lt hk⟩
  have H2 := h2 w' (allA [treeA r a, dA p s' ns cs ((v, s'.refs) :: pool)]) (fun k => NodeB w' (From w.heap.size) k ∨ dS p v ((v, s'.refs) :: pool) k) (F.mono fun k _ e => .inl e)
    ⟨_, _, hT, ⟨_, fun _ => False, hD, fun _ h => h, fun _ _ h => h, fun k => (or_iff_left id).symm⟩, fun k ⟨h3, cs', te, h4, h5⟩ h6 => ?_, fun _ => Iff.rfl⟩ fun k hk => ?_
  · exact H2.all_
  · rcases hS k h6 with h6 | ⟨-, h6⟩
    · have := h.ltA hq k h6
      have : w.heap.size ≤ k := h3
      omega
    · obtain ⟨cur, hc⟩ := hrefs k h6
      rw [h4] at hc
      injection hc with hc
      injection hc with _ hc
      subst hc
      exact absurd h5 (by decide)
  · rcases hk with ⟨hk, -⟩ | hk
    · exact .inr hk
    · rcases hS k hk with hk | hk
      · exact .inl hk
      · exact .inr hk.1
end
end Go.Proofs.YtpnfbehbheddeaaGreatDoor
