/- Contract of list: elements with commas between them, where the element's contract is known. No condition beyond the state. The parser's accept, expect and is with words that were laid just ahead, and what they leave. No condition beyond the state. Memory as a list of parts that share no block, each with the blocks that it stands on. No condition. The rows of what a parser has read: 21 rows of its own, each grown by itself. No condition. -/
import Derived.Test.YtpnfbehbheddeaaGreatDoorBn19
namespace Go.Proofs.YtpnfbehbheddeaaGreatDoor
set_option maxRecDepth 100000
set_option maxHeartbeats 8000000
set_option linter.unusedVariables false
set_option linter.unusedSimpArgs false
open Go.RowKit
section
variable {p : Pp} {α : Type}
def LsRel (p : Pp) (Inv : World → Ps → List α → Prop) (el : Ps → α × Ps) (K : Nat) (R : List α × Ps) (wr : World) : Prop :=
  ∃ (f : Nat) (s : Ps) (acc : List α), Inv wr s acc ∧ acc.length + (p.e.toks.length - s.pos) ≤ K ∧ Hid ((acc ++ (moreP p.e el f s).1, (moreP p.e el f s).2) = R) ∧ p.e.toks.length - s.pos + 1 ≤ f
theorem moreP_f {e : Src} {el : Ps → α × Ps} {f : Nat} {s : Ps} (h : isP e s 0 [[44]] = false) : moreP e el (f + 1) s = ([], s) := by unfold moreP; rw [if_neg (by simp [h])]
theorem moreP_t {e : Src} {el : Ps → α × Ps} {f : Nat} {s : Ps} (h : isP e s 0 [[44]] = true) : moreP e el (f + 1) s = ((el { s with pos := s.pos + 1 }).1 :: (moreP e el f (el { s with pos := s.pos + 1 }).2).1, (moreP e el f (el { s with pos := s.pos + 1 }).2).2) := by rw [moreP]; rw [if_pos h]
theorem list_c (k : FuncId) (he : ∀ args w, (callFunc k args).run Tryz.prog w = .ok (.enter k args) w) (first cap : Array Value) (el : Ps → α × Ps) (Inv : World → Ps → List α → Prop)
    (hat : ∀ w s acc, Inv w s acc → ∃ rv, PsAt p w s rv)
    (hgo : ∀ w s acc w' s' rv, Inv w s acc → PsAt p w s rv → PsAt p w' s' rv → PFr (· = p.pb) w w' → Inv w' s' acc)
    (hmo : ∀ s, s.pos ≤ p.e.toks.length → s.pos ≤ (el s).2.pos)
    {acc0 : List α} (hel : ∀ w s acc, acc.length ≤ acc0.length + p.e.toks.length → Inv w s acc → Calls Tryz.prog k (first ++ cap) w fun e w' => e = .returned (.tuple #[]) ∧ Inv w' (el s).2 (acc ++ [(el s).1]))
    {w : World} {s : Ps} (h : Inv w s acc0) :
    Calls Tryz.prog 190 #[.pointer (some ⟨p.pb, 0, none⟩), .func (.func k) first cap] w fun e w' => e = .returned (.tuple #[]) ∧ Inv w' (listP p.e el s).2 (acc0 ++ (listP p.e el s).1) := by
  have h0 := hel w s acc0 (by omega) h
  have hl : acc0 ++ (listP p.e el s).1 = (acc0 ++ [(el s).1]) ++ (moreP p.e el (p.e.toks.length + 1) (el s).2).1 := by unfold listP; simp
  have hl2 : (listP p.e el s).2 = (moreP p.e el (p.e.toks.length + 1) (el s).2).2 := rfl
  rw [hl, hl2]
  generalize hR : ((acc0 ++ [(el s).1]) ++ (moreP p.e el (p.e.toks.length + 1) (el s).2).1, (moreP p.e el (p.e.toks.length + 1) (el s).2).2) = R
  have hR1 := congrArg Prod.fst hR
  have hR2 := congrArg Prod.snd hR
  simp only at hR1 hR2
  rw [hR1, hR2]
  have HR := Lib.hid hR
  clear hl hl2 hR1 hR2 hR
  generalize el s = q at h0 HR
  obtain ⟨x, s1⟩ := q
  simp only at h0 HR
  go_enter Tryz.func190, Tryz.ntmps190
  go_wp2_with (refine h0.mono ?_; rintro e w1 ⟨rfl, I1⟩)
  obtain ⟨rv1, P1⟩ := hat _ _ _ I1
  have hfew := P1.few
  go_loopw [8] (fun _ wr => LsRel p Inv el (acc0.length + p.e.toks.length + 1) R wr) (fun _ wr => p.e.toks.length - posW p wr)
  case atStart => exact ⟨p.e.toks.length + 1, s1, _, I1, by simp; omega, HR.out, by omega⟩
  case round =>
    obtain ⟨f1, s, acc, I, hKl, HC, hfu⟩ := hrel
    clear I1 P1 h h0
    obtain ⟨rv, P⟩ := hat _ _ _ I
    obtain ⟨f, rfl⟩ : ∃ f, f1 = f + 1 := ⟨f1 - 1, by omega⟩
    have hA := fun (P' : PsAt p (wr.alloc (.cells #[.string ⟨#[44]⟩] 9)) s rv) => accept_c (c := 1) (B := (wr.alloc (.cells #[.string ⟨#[44]⟩] 9)).heap.size) (n := 1) (A := some ⟨wr.heap.size, 0, none⟩) P' [[44]] (new_row wr _ _ 1 rfl rfl) (by omega)
    unfold GoPost at hA
    have HM := Lib.hid P.posW
    have hgo2 : ∀ w2 s2, PsAt p w2 s2 rv → PFr (· = p.pb) (wr.alloc (.cells #[.string ⟨#[44]⟩] 9)) w2 → Inv w2 s2 acc := fun w2 s2 h1 h2 => hgo wr s acc w2 s2 rv I P h1 (((PFr.refl _ _).alloc _).trans h2 fun _ _ x => x)
    cases hi : isP p.e s 0 [[44]]
    · have hC := HC.out
      rw [moreP_f hi] at hC
      simp only [List.append_nil] at hC
      subst hC
      rw [acceptP_f hi] at hA
      clear hi HC HR
      go_wp2_with (go_at_call 142; refine (hA (P.alloc _)).mono ?_; rintro e w2 ⟨rfl, P2, F2⟩)
      go_end0
      exact ⟨rfl, hgo2 _ _ P2 F2⟩
    · have hlt := isP_lt hi
      have hC := HC.out
      rw [moreP_t hi] at hC
      have hmo2 := hmo { s with pos := s.pos + 1 } (by simp only; omega)
      have hE := fun w2 (I2 : Inv w2 { s with pos := s.pos + 1 } acc) => hel w2 _ acc (by omega) I2
      generalize el { s with pos := s.pos + 1 } = q at hE hC hmo2
      obtain ⟨y, s3⟩ := q
      simp only at hE hC hmo2
      have HC2 := Lib.hid hC
      rw [acceptP_t hi] at hA
      clear hi hC HC HR
      go_wp2_with (first
        | (go_at_call 142; refine (hA (P.alloc _)).mono ?_; rintro e w2 ⟨rfl, P2, F2⟩)
        | (refine (hE _ (hgo2 _ _ P2 F2)).mono ?_; rintro e w3 ⟨rfl, I3⟩))
      obtain ⟨rv3, P3⟩ := hat _ _ _ I3
      have hp3 := P3.posW
      have ho3 := P3.ok
      go_roundw
      case rel =>
        refine ⟨f, s3, acc ++ [y], I3, by simp; omega, ?_, by omega⟩
        show (_, _) = R
        have := HC2.out
        simpa using this
      case measure =>
        rw [HM.out, hp3]
        omega
end
section
variable {p : Pp} {w : World} {s : Ps} {rv : Value}
def AccPost (p : Pp) (w : World) (r : Bool × Ps) (rv : Value) (e : Ending) (w' : World) : Prop := e = .returned (.bool r.1) ∧ PsAt p w' r.2 rv ∧ PFr (· = p.pb) w w'
def ExpPost (p : Pp) (w : World) (r : Bs × Ps) (rv : Value) (e : Ending) (w' : World) : Prop := e = .returned (.string ⟨r.1.toArray⟩) ∧ PsAt p w' r.2 rv ∧ PFr (· = p.pb) w w'
theorem acc_c (P : PsAt p w s rv) (ws : List Bs) (n : Nat) (hn : ws.length = n) (hn1 : n ≤ 100) : Calls Tryz.prog 142 #[.pointer (some ⟨p.pb, 0, none⟩), .slice (some ⟨w.heap.size, 0, none⟩) n n] (w.alloc (.cells (ws.map strV).toArray 9)) (AccPost p w (acceptP p.e s ws) rv) :=
  (accept_c (P.alloc _) ws (new_row w _ ws n rfl hn) hn1).mono fun _e _w' h => ⟨h.1, h.2.1, ((PFr.refl _ _).alloc _).trans h.2.2 fun _ _ x => x⟩
theorem exp_c (P : PsAt p w s rv) (ws : List Bs) (n : Nat) (hn : ws.length = n) (hn1 : n ≤ 100) : Calls Tryz.prog 88 #[.pointer (some ⟨p.pb, 0, none⟩), .slice (some ⟨w.heap.size, 0, none⟩) n n] (w.alloc (.cells (ws.map strV).toArray 9)) (ExpPost p w (expectP p.e s ws) rv) :=
  (expect_c (P.alloc _) ws (new_row w _ ws n rfl hn) hn1).mono fun _e _w' h => ⟨h.1, h.2.1, ((PFr.refl _ _).alloc _).trans h.2.2 fun _ _ x => x⟩
theorem isw0_c (P : PsAt p w s rv) (ws : List Bs) (n : Nat) (hn : ws.length = n) (hn1 : n ≤ 100) : Calls Tryz.prog 130 #[.pointer (some ⟨p.pb, 0, none⟩), .int .i64 0, .slice (some ⟨w.heap.size, 0, none⟩) n n] (w.alloc (.cells (ws.map strV).toArray 9)) (AccPost p w (isP p.e s 0 ws, s) rv) :=
  (is0_c (P.alloc _) ws (new_row w _ ws n rfl hn) hn1).mono fun _e _w' h => ⟨h.1, (P.alloc _).below h.2, ((PFr.refl _ _).alloc _).step h.2⟩
theorem isw1_c (P : PsAt p w s rv) (ws : List Bs) (n : Nat) (hn : ws.length = n) (hn1 : n ≤ 100) : Calls Tryz.prog 130 #[.pointer (some ⟨p.pb, 0, none⟩), .int .i64 1, .slice (some ⟨w.heap.size, 0, none⟩) n n] (w.alloc (.cells (ws.map strV).toArray 9)) (AccPost p w (isP p.e s 1 ws, s) rv) :=
  (is1_c (P.alloc _) ws (new_row w _ ws n rfl hn) hn1).mono fun _e _w' h => ⟨h.1, (P.alloc _).below h.2, ((PFr.refl _ _).alloc _).step h.2⟩
theorem acc1_c (P : PsAt p w s rv) (x0 : Bs) : Calls Tryz.prog 142 #[.pointer (some ⟨p.pb, 0, none⟩), .slice (some ⟨w.heap.size, 0, none⟩) 1 1] (w.alloc (.cells #[.string ⟨x0.toArray⟩] 9)) (AccPost p w (acceptP p.e s [x0]) rv) := acc_c P [x0] 1 rfl (by decide)
theorem exp1_c (P : PsAt p w s rv) (x0 : Bs) : Calls Tryz.prog 88 #[.pointer (some ⟨p.pb, 0, none⟩), .slice (some ⟨w.heap.size, 0, none⟩) 1 1] (w.alloc (.cells #[.string ⟨x0.toArray⟩] 9)) (ExpPost p w (expectP p.e s [x0]) rv) := exp_c P [x0] 1 rfl (by decide)
theorem exp2_c (P : PsAt p w s rv) (x0 x1 : Bs) : Calls Tryz.prog 88 #[.pointer (some ⟨p.pb, 0, none⟩), .slice (some ⟨w.heap.size, 0, none⟩) 2 2] (w.alloc (.cells #[.string ⟨x0.toArray⟩, .string ⟨x1.toArray⟩] 9)) (ExpPost p w (expectP p.e s [x0, x1]) rv) := exp_c P [x0, x1] 2 rfl (by decide)
theorem exp3_c (P : PsAt p w s rv) (x0 x1 x2 : Bs) : Calls Tryz.prog 88 #[.pointer (some ⟨p.pb, 0, none⟩), .slice (some ⟨w.heap.size, 0, none⟩) 3 3] (w.alloc (.cells #[.string ⟨x0.toArray⟩, .string ⟨x1.toArray⟩, .string ⟨x2.toArray⟩] 9)) (ExpPost p w (expectP p.e s [x0, x1, x2]) rv) := exp_c P [x0, x1, x2] 3 rfl (by decide)
theorem exp5_c (P : PsAt p w s rv) (x0 x1 x2 x3 x4 : Bs) : Calls Tryz.prog 88 #[.pointer (some ⟨p.pb, 0, none⟩), .slice (some ⟨w.heap.size, 0, none⟩) 5 5] (w.alloc (.cells #[.string ⟨x0.toArray⟩, .string ⟨x1.toArray⟩, .string ⟨x2.toArray⟩, .string ⟨x3.toArray⟩, .string ⟨x4.toArray⟩] 9)) (ExpPost p w (expectP p.e s [x0, x1, x2, x3, x4]) rv) := exp_c P [x0, x1, x2, x3, x4] 5 rfl (by decide)
theorem exp8_c (P : PsAt p w s rv) (x0 x1 x2 x3 x4 x5 x6 x7 : Bs) : Calls Tryz.prog 88 #[.pointer (some ⟨p.pb, 0, none⟩), .slice (some ⟨w.heap.size, 0, none⟩) 8 8] (w.alloc (.cells #[.string ⟨x0.toArray⟩, .string ⟨x1.toArray⟩, .string ⟨x2.toArray⟩, .string ⟨x3.toArray⟩, .string ⟨x4.toArray⟩, .string ⟨x5.toArray⟩, .string ⟨x6.toArray⟩, .string ⟨x7.toArray⟩] 9)) (ExpPost p w (expectP p.e s [x0, x1, x2, x3, x4, x5, x6, x7]) rv) := exp_c P [x0, x1, x2, x3, x4, x5, x6, x7] 8 rfl (by decide)
theorem isw01_c (P : PsAt p w s rv) (x0 : Bs) : Calls Tryz.prog 130 #[.pointer (some ⟨p.pb, 0, none⟩), .int .i64 0, .slice (some ⟨w.heap.size, 0, none⟩) 1 1] (w.alloc (.cells #[.string ⟨x0.toArray⟩] 9)) (AccPost p w (isP p.e s 0 [x0], s) rv) := isw0_c P [x0] 1 rfl (by decide)
theorem isw11_c (P : PsAt p w s rv) (x0 : Bs) : Calls Tryz.prog 130 #[.pointer (some ⟨p.pb, 0, none⟩), .int .i64 1, .slice (some ⟨w.heap.size, 0, none⟩) 1 1] (w.alloc (.cells #[.string ⟨x0.toArray⟩] 9)) (AccPost p w (isP p.e s 1 [x0], s) rv) := isw1_c P [x0] 1 rfl (by decide)
end
def Box (w : World) (z : Nat) (cs : Array Value) (te : TypeId) : Prop := w.heap[z]? = some (.cells cs te (0, 0))
theorem Box.pfr {S : Nat → Prop} {w w' : World} {z : Nat} {cs : Array Value} {te : TypeId} (h : Box w z cs te) (hf : PFr S w w') (hs : ¬ S z) : Box w' z cs te := (hf.block z (heap_lt h) hs).trans h
theorem Box.lt {w : World} {z : Nat} {cs : Array Value} {te : TypeId} (h : Box w z cs te) : z < w.heap.size := heap_lt h
theorem Box.set {w : World} {z i : Nat} {cs : Array Value} {te : TypeId} (h : Box w z cs te) (u : Value) : Box (w.setCell ⟨z, i, none⟩ u) z (cs.set! i u) te := heap_set h u
theorem Box.setFar {w : World} {z y i : Nat} {cs : Array Value} {te : TypeId} (h : Box w z cs te) (hy : z ≠ y) (u : Value) : Box (w.setCell ⟨y, i, none⟩ u) z cs te := (Below.heap_setCell w ⟨y, i, none⟩ u z hy).trans h
theorem Box.cells {w : World} {z : Nat} {cs : Array Value} {te : TypeId} (h : Box w z cs te) : (∀ i, w.cell? ⟨z, i, none⟩ = cs[i]?) ∧ (∀ i, w.frozen? ⟨z, i, none⟩ = false) := blk_cells h
theorem PsAt.grow {p : Pp} {w w' : World} {rv : Value} {s : Ps} (h : PsAt p w s rv) {base : Nat} (hl : p.pb < base) {e : TypeId} {size n : Nat} {v : Value} {xs : List Value} (hown : w.ownsRow base e size v n xs) (he : e ≠ 105) (hg : w.grownBy w' v.ownBlock) : PsAt p w' s rv := by
  have hne : ∀ k, k ≤ p.pb → some k ≠ v.ownBlock := fun k hk e => by have := (hown.lt k e.symm).1; omega
  refine ⟨(hg.block _ h.lt (hne _ (Nat.le_refl _))).trans h.blk, h.toks.keep fun q hq => World.cell?_of_block (hg.block _ (by have := h.lt; omega) (hne _ (by omega))), h.ok, h.few, h.refs.1, ?_⟩
  rcases h.refs.2 with h2 | ⟨g, cap, cur, h3, h4, h5, h6⟩
  · exact .inl h2
  · refine .inr ⟨g, cap, cur, h3, h4, (hg.block _ (heap_lt h5) fun e0 => ?_).trans h5, h6⟩
    obtain ⟨cur2, hc⟩ := ref_blk hown e0.symm
    rw [hc] at h5
    injection h5 with h5
    injection h5 with _ h5
    exact he h5
theorem Box.grow {w w' : World} {z base : Nat} {cs : Array Value} {te e : TypeId} {size n : Nat} {v : Value} {xs : List Value} (h : Box w z cs te) (hown : w.ownsRow base e size v n xs) (he : e ≠ te) (hg : w.grownBy w' v.ownBlock) : Box w' z cs te := by
  refine (hg.block z (heap_lt h) fun e0 => ?_).trans h
  obtain ⟨cur2, hc⟩ := ref_blk hown e0.symm
  rw [show w.heap[z]? = _ from h] at hc
  injection hc with hc
  injection hc with _ hc
  exact he hc.symm
theorem own_setBox {w : World} {base z i : Nat} {cs : Array Value} {te e : TypeId} {size n : Nat} {v : Value} {xs : List Value} (hown : w.ownsRow base e size v n xs) (h : Box w z cs te) (he : e ≠ te) (u : Value) : (w.setCell ⟨z, i, none⟩ u).ownsRow base e size v n xs :=
  own_pfr hown (S := (· = z)) (by (exact pfrQ)) fun k hk e0 => by
    subst e0
    obtain ⟨cur2, hc⟩ := ref_blk hown hk
    rw [show w.heap[k]? = _ from h] at hc
    injection hc with hc
    injection hc with _ hc
    exact he hc.symm
theorem PsAt.setBox {p : Pp} {w : World} {s : Ps} {rv : Value} {z i : Nat} {cs : Array Value} {te : TypeId} (h : PsAt p w s rv) (hz : Box w z cs te) (hte : te ≠ 105) (hlt : p.pb < z) (u : Value) : PsAt p (w.setCell ⟨z, i, none⟩ u) s rv := h.far hz hte hlt (by (exact pfrQ))
structure Agree (S : Nat → Prop) (w w' : World) : Prop where
  os : w'.os = w.os
  tape : w'.tape = w.tape
  output : w'.output = w.output
  size : w.heap.size ≤ w'.heap.size
  block : ∀ k, S k → w'.heap[k]? = w.heap[k]?
structure HA where
  holds : World → (Nat → Prop) → Prop
  keep : ∀ {w w' : World} {S : Nat → Prop}, holds w S → Agree S w w' → holds w' S
  lt : ∀ {w : World} {S : Nat → Prop}, holds w S → ∀ k, S k → k < w.heap.size
def Sep : List HA → World → (Nat → Prop) → Prop
  | [], _, S => ∀ k, ¬ S k
  | A :: l, w, S => ∃ S1 S2, A.holds w S1 ∧ Sep l w S2 ∧ (∀ k, S1 k → ¬ S2 k) ∧ ∀ k, S k ↔ S1 k ∨ S2 k
def HS (w : World) (l : List HA) : Prop := ∃ S, Sep l w S
inductive Pick : List HA → HA → List HA → Prop
  | here {A : HA} {l : List HA} : Pick (A :: l) A l
  | there {A B : HA} {l l' : List HA} : Pick l A l' → Pick (B :: l) A (B :: l')
inductive Sub : List HA → List HA → Prop
  | refl (l : List HA) : Sub l l
  | nil (l : List HA) : Sub [] l
  | cons {A : HA} {l l' l2 : List HA} : Pick l A l2 → Sub l' l2 → Sub (A :: l') l
  | skip {B : HA} {l l' : List HA} : Sub l' l → Sub l' (B :: l)
theorem pkQ {P : Prop} (h : P := by with_reducible repeat constructor) : P := h
section
variable {w w' : World} {S : Nat → Prop} {l l' : List HA} {A B : HA}
theorem Sep.keep : ∀ {l : List HA} {S : Nat → Prop}, Sep l w S → Agree S w w' → Sep l w' S
  | [], _S, h, _ => h
  | A :: _l, _S, ⟨S1, S2, h1, h2, h3, h4⟩, g => ⟨S1, S2, A.keep h1 ⟨g.os, g.tape, g.output, g.size, fun k hk => g.block k ((h4 k).2 (.inl hk))⟩, Sep.keep h2 ⟨g.os, g.tape, g.output, g.size, fun k hk => g.block k ((h4 k).2 (.inr hk))⟩, h3, h4⟩
theorem Sep.lt : ∀ {l : List HA} {S : Nat → Prop}, Sep l w S → ∀ k, S k → k < w.heap.size
  | [], _S, h, k, hk => absurd hk (h k)
  | A :: _l, _S, ⟨_S1, _S2, h1, h2, _h3, h4⟩, k, hk => ((h4 k).1 hk).elim (A.lt h1 k) (Sep.lt h2 k)
theorem Sep.pick (hp : Pick l A l') : ∀ {S : Nat → Prop}, Sep l w S → Sep (A :: l') w S := by
  induction hp with
  | here => exact fun h => h
  | there hp ih =>
    rintro S ⟨S1, S2, h1, h2, h3, h4⟩
    obtain ⟨T1, T2, g1, g2, g3, g4⟩ := ih h2
    refine ⟨T1, fun k => S1 k ∨ T2 k, g1, ⟨S1, T2, h1, g2, fun k a b => h3 k a ((g4 k).2 (.inr b)), fun _ => Iff.rfl⟩, fun k a b => ?_, fun k => ?_⟩
    · rcases b with b | b
      · exact h3 k b ((g4 k).2 (.inl a))
      · exact g3 k a b
    · rw [h4, g4]
      constructor
      · rintro (a | a | a)
        · exact .inr (.inl a)
        · exact .inl a
        · exact .inr (.inr a)
      · rintro (a | a | a)
        · exact .inr (.inl a)
        · exact .inl a
        · exact .inr (.inr a)
theorem Sep.sub (hs : Sub l' l) : ∀ {S : Nat → Prop}, Sep l w S → ∃ S', Sep l' w S' ∧ ∀ k, S' k → S k := by
  induction hs with
  | refl l => exact fun h => ⟨_, h, fun _ h => h⟩
  | nil l => exact fun h => ⟨fun _ => False, fun _ h => h, fun _ h => h.elim⟩
  | cons hp _ ih =>
    intro S h
    obtain ⟨S1, S2, h1, h2, h3, h4⟩ := Sep.pick hp h
    obtain ⟨S', g1, g2⟩ := ih h2
    exact ⟨fun k => S1 k ∨ S' k, ⟨S1, S', h1, g1, fun k a b => h3 k a (g2 k b), fun _ => Iff.rfl⟩, fun k a => (h4 k).2 (a.imp_right (g2 k))⟩
  | skip _ ih =>
    rintro S ⟨S1, S2, h1, h2, h3, h4⟩
    obtain ⟨S', g1, g2⟩ := ih h2
    exact ⟨S', g1, fun k a => (h4 k).2 (.inr (g2 k a))⟩
theorem HS.pick (h : HS w l) (hp : Pick l A l') : HS w (A :: l') := h.imp fun _ h => Sep.pick hp h
theorem HS.sub (h : HS w l) (hs : Sub l' l) : HS w l' := by
  obtain ⟨S, h⟩ := h
  obtain ⟨S', h2, _⟩ := Sep.sub hs h
  exact ⟨S', h2⟩
theorem HS.head (h : HS w (A :: l)) : ∃ S, A.holds w S := by
  obtain ⟨_, S1, _, h1, _⟩ := h
  exact ⟨S1, h1⟩
theorem HS.tail (h : HS w (A :: l)) : HS w l := h.sub (.skip (.refl _))
theorem HS.go (h : HS w (A :: l)) : ∃ S, A.holds w S ∧ ∀ (w' : World) (B : HA) (S' : Nat → Prop), PFr S w w' → B.holds w' S' → (∀ k, S' k → S k ∨ w.heap.size ≤ k) → HS w' (B :: l) := by
  obtain ⟨S, S1, S2, h1, h2, h3, h4⟩ := h
  refine ⟨S1, h1, fun w' B S' hf hB hS => ⟨fun k => S' k ∨ S2 k, S', S2, hB, Sep.keep h2 ⟨hf.os, hf.tape, hf.output, hf.size, fun k hk => hf.block k (Sep.lt h2 k hk) fun a => h3 k a hk⟩, fun k a b => ?_, fun _ => Iff.rfl⟩⟩
  rcases hS k a with a | a
  · exact h3 k a b
  · have := Sep.lt h2 k b
    omega
theorem HS.new (h : HS w l) (hf : Below w.heap.size w w') {B : HA} {S' : Nat → Prop} (hB : B.holds w' S') (hS : ∀ k, S' k → w.heap.size ≤ k) : HS w' (B :: l) := by
  obtain ⟨S, h⟩ := h
  exact ⟨fun k => S' k ∨ S k, S', S, hB, Sep.keep h ⟨hf.os, hf.tape, hf.output, hf.size, fun k hk => hf.block k (Sep.lt h k hk)⟩, fun k a b => by have := hS k a; have := Sep.lt h k b; omega, fun _ => Iff.rfl⟩
theorem HS.below (h : HS w l) (hf : Below w.heap.size w w') : HS w' l := by
  obtain ⟨S, h⟩ := h
  exact ⟨S, Sep.keep h ⟨hf.os, hf.tape, hf.output, hf.size, fun k hk => hf.block k (Sep.lt h k hk)⟩⟩
theorem HS.drew (h : HS w l) : HS w.drew l := h.below (Below.refl _ _).drew
theorem HS.drewN (h : HS w l) (n : Nat) : HS (w.drewN n) l := h.below (below_drewN (Below.refl _ _) n)
end
def boxA (z : Nat) (cs : Array Value) (te : TypeId) : HA where
  holds w S := Box w z cs te ∧ S = (· = z)
  keep := by
    rintro w w' S ⟨h, rfl⟩ g
    exact ⟨(g.block z rfl).trans h, rfl⟩
  lt := by
    rintro w S ⟨h, rfl⟩ k rfl
    exact h.lt
def rowA (e : TypeId) (size : Nat) (v : Value) (n : Nat) (xs : List Value) : HA where
  holds w S := w.ownsRow 0 e size v n xs ∧ S = fun k => v.ownBlock = some k
  keep := by
    rintro w w' S ⟨h, rfl⟩ g
    exact ⟨own_pfr h (S := fun k => k < w.heap.size ∧ v.ownBlock ≠ some k) ⟨g.os, g.tape, g.output, g.size, fun k hk hn => g.block k (Classical.byContradiction fun e => hn ⟨hk, e⟩)⟩ fun k hk hn => hn.2 hk, rfl⟩
  lt := by
    rintro w S ⟨h, rfl⟩ k hk
    exact (h.lt k hk).2
def oldA (w0 : World) : HA where
  holds w S := Below w0.heap.size w0 w ∧ S = (· < w0.heap.size)
  keep := by
    rintro w w' S ⟨h, rfl⟩ g
    exact ⟨⟨g.os.trans h.os, g.tape.trans h.tape, g.output.trans h.output, Nat.le_trans h.size g.size, fun k hk => (g.block k hk).trans (h.block k hk)⟩, rfl⟩
  lt := by
    rintro w S ⟨h, rfl⟩ k hk
    exact Nat.lt_of_lt_of_le hk h.size
def pureA (P : Prop) : HA where
  holds _ S := P ∧ S = fun _ => False
  keep := fun h _ => h
  lt := by
    rintro w S ⟨h, rfl⟩ k hk
    exact hk.elim
def exA {α : Type} (f : α → HA) : HA where
  holds w S := ∃ x, (f x).holds w S
  keep := fun ⟨x, h⟩ g => ⟨x, (f x).keep h g⟩
  lt := fun ⟨x, h⟩ => (f x).lt h
def allA (l : List HA) : HA where
  holds w S := Sep l w S
  keep := Sep.keep
  lt := Sep.lt
section
variable {w w' : World} {l l' m : List HA} {A B : HA} {z y : Nat} {cs ds : Array Value} {te tf e : TypeId} {size n : Nat} {v : Value} {xs : List Value}
theorem HS.start (w : World) : HS w [oldA w] := ⟨(· < w.heap.size), (· < w.heap.size), fun _ => False, ⟨Below.refl _ _, rfl⟩, fun _ h => h, fun _ _ h => h, fun _ => by simp⟩
theorem HS.old {w0 : World} (h : HS w l) (hp : Pick l (oldA w0) l') : Below w0.heap.size w0 w := (h.pick hp).head.elim fun _ h => h.1
theorem HS.box (h : HS w l) (hp : Pick l (boxA z cs te) l') : Box w z cs te := (h.pick hp).head.elim fun _ h => h.1
theorem HS.get (h : HS w l) (hp : Pick l (boxA z cs te) l' := by with_reducible repeat constructor) : Box w z cs te ∧ z < w.heap.size ∧ ∀ i, w.cell? ⟨z, i, none⟩ = cs[i]? ∧ w.frozen? ⟨z, i, none⟩ = false := ⟨h.box hp, (h.box hp).lt, fun i => ⟨(h.box hp).cells.1 i, (h.box hp).cells.2 i⟩⟩
theorem HS.row (h : HS w l) (hp : Pick l (rowA e size v n xs) l') : w.ownsRow 0 e size v n xs := (h.pick hp).head.elim fun _ h => h.1
theorem HS.alloc (h : HS w l) (cs : Array Value) (te : TypeId) : HS (w.alloc (.cells cs te)) (boxA w.heap.size cs te :: l) :=
  h.new ((Below.refl _ _).alloc (Nat.le_refl _) _) ⟨heap_alloc_new w _, rfl⟩ fun _k e => Nat.le_of_eq e.symm
theorem HS.store (h : HS w l) (hp : Pick l (boxA z cs te) l') (i : Nat) (u : Value) : HS (w.setCell ⟨z, i, none⟩ u) (boxA z (cs.set! i u) te :: l') := by
  obtain ⟨S, ⟨h1, rfl⟩, h2⟩ := (h.pick hp).go
  exact h2 _ _ _ (by (exact pfrQ)) ⟨h1.set u, rfl⟩ fun k e => .inl e
theorem HS.storeTo (h : HS w l) (hp : Pick l (boxA z cs te) l') (i : Nat) (u : Value) (cs' : Array Value) (hc : cs.set! i u = cs') : HS (w.setCell ⟨z, i, none⟩ u) (boxA z cs' te :: l') := hc ▸ h.store hp i u
theorem HS.ne (h : HS w l) (hp : Pick l (boxA z cs te) l') (hq : Pick l' (boxA y ds tf) m) : z ≠ y := by
  obtain ⟨S, S1, S2, ⟨h1, rfl⟩, h2, h3, h4⟩ := h.pick hp
  obtain ⟨T1, T2, ⟨g1, rfl⟩, g2, g3, g4⟩ := Sep.pick hq h2
  rintro rfl
  exact h3 z rfl ((g4 z).2 (.inl rfl))
theorem HS.app (h : HS w l) (hp : Pick l (rowA e size v n xs) l') {e' : TypeId} {size' n' : Nat} {v' : Value} {xs' : List Value} (ho : w'.ownsRow 0 e' size' v' n' xs') (hg : w.grownBy w' v.ownBlock) (hat : v'.ownBlock = v.ownBlock ∨ v'.ownBlock = some w.heap.size) : HS w' (rowA e' size' v' n' xs' :: l') := by
  obtain ⟨S, ⟨h1, rfl⟩, h2⟩ := (h.pick hp).go
  refine h2 _ _ _ ((PFr.refl _ _).grown hg fun k hk _ => hk) ⟨ho, rfl⟩ fun k hk => ?_
  rcases hat with hat | hat
  · exact .inl (hat ▸ hk)
  · rw [hat] at hk
    injection hk with hk
    exact .inr (Nat.le_of_eq hk)
theorem HS.rowNil (h : HS w l) (e : TypeId) (size : Nat) : HS w (rowA e size (.slice none 0 0) 0 [] :: l) :=
  h.new (Below.refl _ _) (S' := fun k => (Value.slice none 0 0).ownBlock = some k) ⟨World.ownsRow_nil _ _ _ _, rfl⟩ fun k e => by cases e
theorem HS.ex_ {α : Type} {f : α → HA} (h : HS w (exA f :: l)) : ∃ x, HS w (f x :: l) := by
  obtain ⟨S, S1, S2, ⟨x, h1⟩, h2⟩ := h
  exact ⟨x, S, S1, S2, h1, h2⟩
theorem HS.ex {α : Type} {f : α → HA} (h : HS w l) (hp : Pick l (exA f) l') : ∃ x, HS w (f x :: l') := (h.pick hp).ex_
theorem HS.mkEx {α : Type} {f : α → HA} {x : α} (h : HS w (f x :: l)) : HS w (exA f :: l) := by
  obtain ⟨S, S1, S2, h1, h2⟩ := h
  exact ⟨S, S1, S2, ⟨x, h1⟩, h2⟩
theorem HS.mkPure {P : Prop} (h : HS w l) (hP : P) : HS w (pureA P :: l) := h.new (Below.refl _ _) (S' := fun _ => False) ⟨hP, rfl⟩ fun _k e => e.elim
theorem Sep.append : ∀ {l : List HA} {S S1 S2 : Nat → Prop}, Sep l w S1 → Sep m w S2 → (∀ k, S1 k → ¬ S2 k) → (∀ k, S k ↔ S1 k ∨ S2 k) → Sep (l ++ m) w S
  | [], S, S1, S2, h1, h2, _, h4 => by
    have : S = S2 := funext fun k => propext ⟨fun a => ((h4 k).1 a).resolve_left (h1 k), fun a => (h4 k).2 (.inr a)⟩
    exact this ▸ h2
  | A :: l, S, S1, S2, ⟨T1, T2, g1, g2, g3, g4⟩, h2, h3, h4 => by
    refine ⟨T1, fun k => T2 k ∨ S2 k, g1, Sep.append g2 h2 (fun k a => h3 k ((g4 k).2 (.inr a))) (fun _ => Iff.rfl), fun k a b => ?_, fun k => ?_⟩
    · rcases b with b | b
      · exact g3 k a b
      · exact h3 k ((g4 k).2 (.inl a)) b
    · rw [h4, g4, or_assoc]
theorem Sep.split : ∀ {l : List HA} {S : Nat → Prop}, Sep (l ++ m) w S → ∃ S1 S2, Sep l w S1 ∧ Sep m w S2 ∧ (∀ k, S1 k → ¬ S2 k) ∧ ∀ k, S k ↔ S1 k ∨ S2 k
  | [], S, h => ⟨fun _ => False, S, fun _ h => h, h, fun _ h => h.elim, fun k => by simp⟩
  | A :: l, S, ⟨T1, T2, g1, g2, g3, g4⟩ => by
    obtain ⟨S1, S2, h1, h2, h3, h4⟩ := Sep.split g2
    refine ⟨fun k => T1 k ∨ S1 k, S2, ⟨T1, S1, g1, h1, fun k a b => g3 k a ((h4 k).2 (.inl b)), fun _ => Iff.rfl⟩, h2, fun k a b => ?_, fun k => ?_⟩
    · rcases a with a | a
      · exact g3 k a ((h4 k).2 (.inr b))
      · exact h3 k a b
    · rw [g4, h4, or_assoc]
theorem HS.all_ (h : HS w (allA m :: l)) : HS w (m ++ l) := by
  obtain ⟨S, S1, S2, h1, h2, h3, h4⟩ := h
  exact ⟨S, Sep.append h1 h2 h3 h4⟩
theorem HS.all (h : HS w l) (hp : Pick l (allA m) l') : HS w (m ++ l') := (h.pick hp).all_
theorem HS.mkAll (h : HS w (m ++ l)) : HS w (allA m :: l) := by
  obtain ⟨S, h⟩ := h
  obtain ⟨S1, S2, h1, h2, h3, h4⟩ := Sep.split h
  exact ⟨S, S1, S2, h1, h2, h3, h4⟩
end
theorem allA_snoc {w : World} {m l : List HA} {A : HA} (h : HS w (A :: allA m :: l)) : HS w (allA (m ++ [A]) :: l) := by
  refine HS.mkAll ?_
  have h2 := (h.pick (Pick.there Pick.here)).all_
  obtain ⟨S, h2⟩ := h2
  obtain ⟨S1, S2, h1, ⟨T1, T2, g1, g2, g3, g4⟩, h3, h4⟩ := Sep.split h2
  refine ⟨S, ?_⟩
  rw [List.append_assoc]
  exact Sep.append h1 ⟨T1, T2, g1, g2, g3, g4⟩ h3 h4
def rty (i : Nat) : TypeId := [79, 206, 151, 153, 155, 260, 262, 264, 3, 3, 3, 3, 3, 3, 3, 3, 198, 210, 147, 147, 147].getD i 0
def rsz (i : Nat) : Nat := [4, 9, 3, 6, 4, 3, 2, 3, 1, 1, 1, 1, 1, 1, 1, 1, 1, 13, 8, 8, 8].getD i 0
def Pp.rowV (p : Pp) (i : Nat) : Value := (p.res[i]?).getD (.slice none 0 0)
def Pp.withRow (p : Pp) (i : Nat) (v : Value) : Pp := { p with res := p.res.set! i v }
structure DSt (p : Pp) (lo : Nat) (w : World) (s : Ps) (rv : Value) (ns : Nat → Nat) (cs : Nat → List Value) : Prop where
  at_ : PsAt p w s rv
  sz : p.res.size = 21
  rows : ∀ i, i < 21 → w.ownsRow lo (rty i) (rsz i) (p.rowV i) (ns i) (cs i)
  dist : ∀ i j k, i < 21 → j < 21 → i ≠ j → (p.rowV i).ownBlock = some k → (p.rowV j).ownBlock ≠ some k
  hlo : p.pb < lo
  hr : ∀ k, rv.ownBlock = some k → lo ≤ k
theorem rty_ne : ∀ i, i < 21 → rty i ≠ 105 ∧ rty i ≠ 69 := by decide
section
variable {p : Pp} {lo : Nat} {w w' : World} {s s' : Ps} {rv rv' : Value} {ns : Nat → Nat} {cs : Nat → List Value}
theorem DSt.go (h : DSt p lo w s rv ns cs) (h1 : PsAt p w' s' rv') (h2 : PFr (· = p.pb) w w') (h3 : ∀ k, rv'.ownBlock = some k → lo ≤ k) : DSt p lo w' s' rv' ns cs :=
  ⟨h1, h.sz, fun i hi => own_pfr (h.rows i hi) h2 fun k hk e => by have := ((h.rows i hi).lt k hk).1; have := h.hlo; omega, h.dist, h.hlo, h3⟩
theorem DSt.cell (h : DSt p lo w s rv ns cs) {i : Nat} (hi : i < 21) : w.cell? ⟨p.pb, 6 + i, none⟩ = some (p.rowV i) ∧ w.frozen? ⟨p.pb, 6 + i, none⟩ = false := by
  refine ⟨?_, by simp [World.frozen?, h.at_.blk]⟩
  rw [cell_of_row w p.pb (6 + i) _ _ (0, 0) h.at_.blk]
  unfold psC Pp.rowV
  rw [Array.getElem?_append_right (by simp)]
  have hs := h.sz
  show p.res[6 + i - 6]? = _
  rw [show 6 + i - 6 = i by omega, Array.getElem?_eq_getElem (by omega)]
  rfl
theorem psC_row {i : Nat} (_hi : i < p.res.size) (u : Value) : (psC p s rv).set! (6 + i) u = psC (p.withRow i u) s rv := by
  unfold psC Pp.withRow
  rw [Array.set!_eq_setIfInBounds, Array.setIfInBounds_append_right (by simp)]
  simp
theorem DSt.push (h : DSt p lo w s rv ns cs) {i : Nat} (hi : i < 21) {v' : Value} {m : Nat} {new : List Value} (hown : w'.ownsRow lo (rty i) (rsz i) v' (ns i + m) (cs i ++ new)) (hg : w.grownBy w' (p.rowV i).ownBlock) (hat : v'.ownBlock = (p.rowV i).ownBlock ∨ ∃ g, v'.ownBlock = some g ∧ w.heap.size ≤ g) :
    DSt (p.withRow i v') lo (w'.setCell ⟨p.pb, 6 + i, none⟩ v') s rv (fun j => if j = i then ns i + m else ns j) (fun j => if j = i then cs i ++ new else cs j) := by
  have hp := h.hlo
  have hsz := h.sz
  have hP : PsAt p w' s rv := h.at_.grow hp (h.rows i hi) (rty_ne i hi).1 hg
  have hkeep : ∀ k, k ≠ p.pb → (w'.setCell ⟨p.pb, 6 + i, none⟩ v').heap[k]? = w'.heap[k]? := fun k hk => Below.heap_setCell w' ⟨p.pb, 6 + i, none⟩ v' k hk
  have hPF : PFr (· = p.pb) w' (w'.setCell ⟨p.pb, 6 + i, none⟩ v') := by (exact pfrQ)
  have hrow : ∀ j, j < 21 → (p.withRow i v').rowV j = if j = i then v' else p.rowV j := fun j hj => by
    unfold Pp.rowV Pp.withRow
    by_cases e : j = i
    · subst e
      rw [if_pos rfl, Array.set!_eq_setIfInBounds, Array.getElem?_setIfInBounds_self, if_pos (by omega)]
      rfl
    · rw [if_neg e, Array.set!_eq_setIfInBounds, Array.getElem?_setIfInBounds_ne (Ne.symm e)]
  have hother : ∀ j, j < 21 → j ≠ i → w'.ownsRow lo (rty j) (rsz j) (p.rowV j) (ns j) (cs j) := fun j hj e =>
    own_pfr (h.rows j hj) (S := fun k => (p.rowV i).ownBlock = some k) ((PFr.refl _ _).grown hg fun k hk _ => hk) fun k hk hs => h.dist i j k hi hj (Ne.symm e) hs hk
  refine ⟨⟨?_, hP.toks.keep fun q hq => World.cell?_of_block (hkeep _ (by have : (p.withRow i v').pb = p.pb := rfl; omega)), hP.ok, hP.few, own_pfr hP.refs hPF fun k hk e => by have := (hP.refs.lt k hk).1; omega⟩, by simp [Pp.withRow, hsz], fun j hj => ?_, fun a b k ha hb hab h1 h2 => ?_, hp, h.hr⟩
  · show (w'.setCell ⟨p.pb, 6 + i, none⟩ v').heap[p.pb]? = _
    rw [heap_set hP.blk, psC_row (by omega)]
  · rw [hrow j hj]
    by_cases e : j = i
    · subst e
      simp only [if_pos]
      exact own_pfr hown hPF fun k hk e => by have := (hown.lt k hk).1; omega
    · simp only [if_neg e]
      exact own_pfr (hother j hj e) hPF fun k hk e => by have := ((hother j hj (by assumption)).lt k hk).1; omega
  · rw [hrow a ha] at h1
    rw [hrow b hb] at h2
    have old : ∀ j, j < 21 → ∀ k, (p.rowV j).ownBlock = some k → k < w.heap.size := fun j hj k hk => ((h.rows j hj).lt k hk).2
    by_cases ea : a = i
    · rw [if_pos ea] at h1
      rw [if_neg (by omega)] at h2
      rcases hat with hat | ⟨g, hat, hg2⟩
      · rw [hat] at h1
        exact h.dist i b k hi hb (by omega) h1 h2
      · rw [hat] at h1
        injection h1 with h1
        have := old b hb k h2
        omega
    · rw [if_neg ea] at h1
      by_cases eb : b = i
      · rw [if_pos eb] at h2
        rcases hat with hat | ⟨g, hat, hg2⟩
        · rw [hat] at h2
          exact h.dist i a k hi ha (by omega) h2 h1
        · rw [hat] at h2
          injection h2 with h2
          have := old a ha k h1
          omega
      · rw [if_neg eb] at h2
        exact h.dist a b k ha hb hab h1 h2
end
end Go.Proofs.YtpnfbehbheddeaaGreatDoor
