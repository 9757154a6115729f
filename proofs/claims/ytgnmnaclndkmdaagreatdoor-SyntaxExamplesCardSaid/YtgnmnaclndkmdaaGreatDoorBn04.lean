/- Contracts of the parser's accept, expect, take and their kin. No condition beyond the parser's state; at most 100 words. Trees of nodes in memory; the state of a parser that reads an expression. No condition. Contracts of the small functions of the parser of expressions: names of operators, new nodes. No condition beyond the state. -/
import Derived.Test.YtgnmnaclndkmdaaGreatDoorBn03
namespace Go.Proofs.YtgnmnaclndkmdaaGreatDoor
open Go.RowKit

section
variable {p : Pp} {w : World} {s : Ps} {rv : Value}
theorem isKind0_c (h : PsAt p w s rv) (k : Int) : Calls Tryz.prog 129 #[.pointer (some ⟨p.pb, 0, none⟩), .int .i64 0, .int .i64 k] w fun e w' => e = .returned (.bool (isKindP p.e s 0 k)) ∧ w' = w := isKind_c h 0 (by omega) k
theorem isKind1_c (h : PsAt p w s rv) (k : Int) : Calls Tryz.prog 129 #[.pointer (some ⟨p.pb, 0, none⟩), .int .i64 1, .int .i64 k] w fun e w' => e = .returned (.bool (isKindP p.e s 1 k)) ∧ w' = w := isKind_c h 1 (by omega) k
theorem is0_c (h : PsAt p w s rv) {A : Option Addr} {n c B : Nat} (ws : List Bs) (hr : RowB w B A n ws) (hn : n ≤ 100) : Calls Tryz.prog 80 #[.pointer (some ⟨p.pb, 0, none⟩), .int .i64 0, .slice A n c] w (BPost w (isP p.e s 0 ws)) := is_c h 0 (by omega) ws hr hn
theorem is1_c (h : PsAt p w s rv) {A : Option Addr} {n c B : Nat} (ws : List Bs) (hr : RowB w B A n ws) (hn : n ≤ 100) : Calls Tryz.prog 80 #[.pointer (some ⟨p.pb, 0, none⟩), .int .i64 1, .slice A n c] w (BPost w (isP p.e s 1 ws)) := is_c h 1 (by omega) ws hr hn
theorem acceptP_t {e : Src} {s : Ps} {ws : List Bs} (h : isP e s 0 ws = true) : acceptP e s ws = (true, { s with pos := s.pos + 1 }) := by unfold acceptP; rw [if_pos h]
theorem acceptP_f {e : Src} {s : Ps} {ws : List Bs} (h : isP e s 0 ws = false) : acceptP e s ws = (false, s) := by unfold acceptP; rw [if_neg (by simp [h])]
theorem expectP_t {e : Src} {s : Ps} {ws : List Bs} {t : Tk} (h : isP e s 0 ws = true) (ht : e.toks[s.pos]? = some t) : expectP e s ws = (t.text, { s with pos := s.pos + 1 }) := by unfold expectP; rw [if_pos h, textP_at ht]
theorem expectP_f {e : Src} {s : Ps} {ws : List Bs} (h : isP e s 0 ws = false) : expectP e s ws = ([], s.fail e) := by unfold expectP; rw [if_neg (by simp [h])]
theorem takeP_t {e : Src} {s : Ps} {k : Int} {t : Tk} (h : isKindP e s 0 k = true) (ht : e.toks[s.pos]? = some t) : takeP e s k = (t, { s with pos := s.pos + 1 }) := by
  unfold takeP
  rw [if_pos h, List.getD_eq_getElem?_getD, ht]
  rfl
theorem takeP_f {e : Src} {s : Ps} {k : Int} (h : isKindP e s 0 k = false) : takeP e s k = (Tk.zero, s.fail e) := by unfold takeP; rw [if_neg (by simp [h])]
set_option maxRecDepth 100000 in
set_option maxHeartbeats 1000000 in
theorem accept_c (h : PsAt p w s rv) {A : Option Addr} {n c B : Nat} (ws : List Bs) (hr : RowB w B A n ws) (hn : n ≤ 100) : Calls Tryz.prog 111 #[.pointer (some ⟨p.pb, 0, none⟩), .slice A n c] w (GoPost p w (acceptP p.e s ws).2 rv (.bool (acceptP p.e s ws).1)) := by
  have hok := h.ok
  have hfew := h.few
  have hI := is_c (c := c) h 0 (by omega) ws hr hn
  have HP := Lib.hid h
  clear h
  unfold BPost at hI
  cases hi : isP p.e s 0 ws
  · rw [acceptP_f hi]
    rw [hi] at hI
    clear hi
    go_enter Tryz.func111, Tryz.ntmps111
    go_wp2_with (go_at_call 80; refine hI.mono ?_; rintro e w1 ⟨rfl, hb1⟩)
    go_ret
    exact ⟨rfl, HP.out.below hb1, PFr.of_below hb1⟩
  · rw [acceptP_t hi]
    rw [hi] at hI
    have hlt := isP_lt hi
    have hw : IntKind.i64.wrap ((s.pos : Int) + 1) = ((s.pos + 1 : Nat) : Int) := by rw [IntWalk.i64_in _ (by omega)]; omega
    clear hi
    go_enter Tryz.func111, Tryz.ntmps111
    go_wp2_with (go_at_call 80; refine hI.mono ?_; rintro e w1 ⟨rfl, hb1⟩; obtain ⟨⟨-, c1, -, -, -, -⟩, ⟨-, f1, -, -, -, -⟩⟩ := (HP.out.below hb1).cells)
    go_ret
    exact ⟨rfl, (HP.out.below hb1).setPos _ hlt, by (repeat (first | (with_reducible exact PFr.refl _ _) | (with_reducible assumption) | (with_reducible refine PFr.drew ?_) | (with_reducible refine PFr.drewN ?_ _) | ((with_reducible refine PFr.setCell ?_ ?_ _); rotate_left; (focus (first | (simp; done) | (simp; omega) | omega | (right; simp; done) | (right; simp; omega) | (right; omega)))) | (with_reducible refine PFr.alloc ?_ _) | ((with_reducible apply PFr.step); (focus (with_reducible assumption)))))⟩
set_option maxRecDepth 100000 in
set_option maxHeartbeats 1000000 in
theorem expect_c (h : PsAt p w s rv) {A : Option Addr} {n c B : Nat} (ws : List Bs) (hr : RowB w B A n ws) (hn : n ≤ 100) : Calls Tryz.prog 71 #[.pointer (some ⟨p.pb, 0, none⟩), .slice A n c] w (GoPost p w (expectP p.e s ws).2 rv (.string ⟨(expectP p.e s ws).1.toArray⟩)) := by
  have hok := h.ok
  have hfew := h.few
  have hI := accept_c (c := c) h ws hr hn
  have HP := Lib.hid h
  unfold GoPost at hI
  cases hi : isP p.e s 0 ws
  · rw [expectP_f hi]
    rw [acceptP_f hi] at hI
    clear hi h
    simp only at hI
    go_enter Tryz.func71, Tryz.ntmps71
    go_wp2_with (first
      | (go_at_call 111; refine hI.mono ?_; rintro e w1 ⟨rfl, P1, F1⟩)
      | (go_at_call 12; refine (fail_c P1).mono ?_; rintro e w2 ⟨rfl, P2, F2⟩))
    go_ret
    exact ⟨rfl, P2, F1.trans F2 fun _ _ x => x⟩
  · have hlt := isP_lt hi
    obtain ⟨b, off, t, hA, hb, ht, q0, q1, q2, q3⟩ := h.tok (k := s.pos) (by omega)
    rw [expectP_t hi ht]
    rw [acceptP_t hi] at hI
    have HT := Lib.hid ht
    simp only at hI
    have hw : IntKind.i64.wrap (((s.pos + 1 : Nat) : Int) - 1) = (s.pos : Int) := by rw [IntWalk.i64_in _ (by omega)]; omega
    have h0 : (0 : Int) ≤ (s.pos : Int) := by omega
    have h1 : (s.pos : Int) < (p.e.toks.length : Int) := by omega
    clear hi ht h q0 q1 q2 q3 hlt
    go_enter Tryz.func71, Tryz.ntmps71
    go_wp2_with (first
      | (go_at_call 111; refine hI.mono ?_; rintro e w1 ⟨rfl, P1, F1⟩; obtain ⟨⟨c0, c1, -, -, -, -⟩, -⟩ := P1.cells))
    obtain ⟨b', off', t', hA', -, ht', q0, q1, q2, q3⟩ := P1.tok (k := s.pos) (by omega)
    rw [HT.out] at ht'
    injection ht' with ht'
    subst ht'
    rw [hA'] at c0
    go_quiet (fail)
    go_wp2_with fail
    go_ret
    exact ⟨rfl, P1.drewN _, F1.drewN _⟩
set_option maxRecDepth 100000 in
set_option maxHeartbeats 1000000 in
theorem take_c (h : PsAt p w s rv) (k : Int) : Calls Tryz.prog 184 #[.pointer (some ⟨p.pb, 0, none⟩), .int .i64 k] w (GoPost p w (takeP p.e s k).2 rv (.agg #[.int .i64 ((takeP p.e s k).1).kind, .string ⟨((takeP p.e s k).1).text.toArray⟩, .int .i64 ((takeP p.e s k).1).int, .int .i64 ((takeP p.e s k).1).pos])) := by
  have hok := h.ok
  have hfew := h.few
  cases hi : isKindP p.e s 0 k
  · rw [takeP_f hi]
    go_enter Tryz.func184, Tryz.ntmps184
    go_wp2_with fail
    obtain ⟨z, w0, ez, ew, P0, F0, hz, hge, hgt, hlz⟩ := alloc_ex h (· = p.pb) #[.int .i64 0, .string ⟨#[]⟩, .int .i64 0, .int .i64 0] 83
    rw [ew, ez]
    clear ez ew
    have hI := isKind_c P0 0 (by omega) k
    rw [hi] at hI
    clear hi h
    go_wp2_with (first
      | (go_at_call 129; refine hI.mono ?_; rintro e w1 ⟨rfl, rfl⟩)
      | (go_at_call 12; refine (fail_c P0).mono ?_; rintro e w2 ⟨rfl, P2, F2⟩; have hz2 := (F2.block z hlz (by omega)).trans hz; obtain ⟨hcB, hfB⟩ := blk_cells (hz2); have d0 := hcB 0; have df0 := hfB 0; have d1 := hcB 1; have df1 := hfB 1; have d2 := hcB 2; have df2 := hfB 2; have d3 := hcB 3; have df3 := hfB 3; clear hcB hfB))
    refine bodyPost_ret (by simp [results, Tryz.results184, go_sem, d0, d1, d2, d3]; rfl) rfl ?_
    exact ⟨rfl, P2.far hz2 (by decide) hgt (by (repeat (first | (with_reducible exact PFr.refl _ _) | (with_reducible assumption) | (with_reducible refine PFr.drew ?_) | (with_reducible refine PFr.drewN ?_ _) | ((with_reducible refine PFr.setCell ?_ ?_ _); rotate_left; (focus (first | (simp; done) | (simp; omega) | omega | (right; simp; done) | (right; simp; omega) | (right; omega)))) | (with_reducible refine PFr.alloc ?_ _) | ((with_reducible apply PFr.step); (focus (with_reducible assumption)))))), PFr.trans (F0.trans F2 fun _ _ x => x) (S' := (· = z)) (by (repeat (first | (with_reducible exact PFr.refl _ _) | (with_reducible assumption) | (with_reducible refine PFr.drew ?_) | (with_reducible refine PFr.drewN ?_ _) | ((with_reducible refine PFr.setCell ?_ ?_ _); rotate_left; (focus (first | (simp; done) | (simp; omega) | omega | (right; simp; done) | (right; simp; omega) | (right; omega)))) | (with_reducible refine PFr.alloc ?_ _) | ((with_reducible apply PFr.step); (focus (with_reducible assumption)))))) fun k hk e => by omega⟩
  · have hlt := isKindP_lt hi
    obtain ⟨b, off, t, hA, hb, ht, q0, q1, q2, q3⟩ := h.tok (k := s.pos) (by omega)
    rw [takeP_t hi ht]
    have HT := Lib.hid ht
    have hw : IntKind.i64.wrap ((s.pos : Int) + 1 - 1) = (s.pos : Int) := by rw [IntWalk.i64_in _ (by omega)]; omega
    have hw1 : IntKind.i64.wrap ((s.pos : Int) + 1) = (s.pos : Int) + 1 := IntWalk.i64_in _ (by omega)
    have h0 : (0 : Int) ≤ (s.pos : Int) := by omega
    have h1 : (s.pos : Int) < (p.e.toks.length : Int) := by omega
    go_enter Tryz.func184, Tryz.ntmps184
    go_wp2_with fail
    obtain ⟨z, w0, ez, ew, P0, F0, hz, hge, hgt, hlz⟩ := alloc_ex h (· = p.pb) #[.int .i64 0, .string ⟨#[]⟩, .int .i64 0, .int .i64 0] 83
    rw [ew, ez]
    clear ez ew
    have hI := isKind_c P0 0 (by omega) k
    rw [hi] at hI
    obtain ⟨⟨-, c1, -, -, -, -⟩, ⟨-, f1, -, -, -, -⟩⟩ := P0.cells
    have P1 := P0.setNext (by omega)
    have F1 : PFr (· = p.pb) w (w0.setCell ⟨p.pb, 1, none⟩ (.int .i64 ((s.pos : Int) + 1))) := by (repeat (first | (with_reducible exact PFr.refl _ _) | (with_reducible assumption) | (with_reducible refine PFr.drew ?_) | (with_reducible refine PFr.drewN ?_ _) | ((with_reducible refine PFr.setCell ?_ ?_ _); rotate_left; (focus (first | (simp; done) | (simp; omega) | omega | (right; simp; done) | (right; simp; omega) | (right; omega)))) | (with_reducible refine PFr.alloc ?_ _) | ((with_reducible apply PFr.step); (focus (with_reducible assumption)))))
    have F2 : PFr (· = p.pb) w0 (w0.setCell ⟨p.pb, 1, none⟩ (.int .i64 ((s.pos : Int) + 1))) := by (repeat (first | (with_reducible exact PFr.refl _ _) | (with_reducible assumption) | (with_reducible refine PFr.drew ?_) | (with_reducible refine PFr.drewN ?_ _) | ((with_reducible refine PFr.setCell ?_ ?_ _); rotate_left; (focus (first | (simp; done) | (simp; omega) | omega | (right; simp; done) | (right; simp; omega) | (right; omega)))) | (with_reducible refine PFr.alloc ?_ _) | ((with_reducible apply PFr.step); (focus (with_reducible assumption)))))
    have hz1 := (F2.block z hlz (by omega)).trans hz
    clear hi ht h q0 q1 q2 q3 hlt F0 F2 hz hA
    go_wp2_with (first
      | (go_at_call 129; refine hI.mono ?_; rintro e w1 ⟨rfl, rfl⟩))
    clear hI P0 c1 f1
    have hlz1 : z < (w1.setCell ⟨p.pb, 1, none⟩ (.int .i64 ((s.pos : Int) + 1))).heap.size := by simpa [World.setCell] using hlz
    generalize w1.setCell _ _ = w2 at P1 F1 hz1 hlz1 ⊢
    clear hlz
    obtain ⟨⟨d0, d1, -, -, -, -⟩, -⟩ := P1.cells
    obtain ⟨b', off', t', hA', -, ht', q0, q1, q2, q3⟩ := P1.tok (k := s.pos) (by omega)
    rw [HT.out] at ht'
    injection ht' with ht'
    subst ht'
    rw [hA'] at d0
    have d1' : w2.cell? ⟨p.pb, 1, none⟩ = some (.int .i64 ((s.pos : Int) + 1)) := d1
    clear d1
    clear hA'
    have hw2 : IntKind.i64.wrap (s.pos : Int) = (s.pos : Int) := IntWalk.i64_in _ (by omega)
    go_still_tail 11, (by kernel_rfl)
    change wpList _ _ _ _ _ w2.drew
    have P3 := P1.drew
    have F3 := F1.drew
    have hz3 : w2.drew.heap[z]? = _ := hz1
    clear P1 F1 hz1 d0 d1' q0 q1 q2 q3
    generalize w2.drew = w3 at P3 F3 hz3 ⊢
    obtain ⟨hcB, hfB⟩ := blk_cells (hz3); have d0 := hcB 0; have df0 := hfB 0; have d1 := hcB 1; have df1 := hfB 1; have d2 := hcB 2; have df2 := hfB 2; have d3 := hcB 3; have df3 := hfB 3; clear hcB hfB
    go_wp2_with fail
    refine bodyPost_ret (by simp [results, Tryz.results184, go_sem, d0, d1, d2, d3]; rfl) rfl ?_
    exact ⟨rfl, P3.far hz3 (by decide) hgt (by (repeat (first | (with_reducible exact PFr.refl _ _) | (with_reducible assumption) | (with_reducible refine PFr.drew ?_) | (with_reducible refine PFr.drewN ?_ _) | ((with_reducible refine PFr.setCell ?_ ?_ _); rotate_left; (focus (first | (simp; done) | (simp; omega) | omega | (right; simp; done) | (right; simp; omega) | (right; omega)))) | (with_reducible refine PFr.alloc ?_ _) | ((with_reducible apply PFr.step); (focus (with_reducible assumption)))))), PFr.trans F3 (S' := (· = z)) (by (repeat (first | (with_reducible exact PFr.refl _ _) | (with_reducible assumption) | (with_reducible refine PFr.drew ?_) | (with_reducible refine PFr.drewN ?_ _) | ((with_reducible refine PFr.setCell ?_ ?_ _); rotate_left; (focus (first | (simp; done) | (simp; omega) | omega | (right; simp; done) | (right; simp; omega) | (right; omega)))) | (with_reducible refine PFr.alloc ?_ _) | ((with_reducible apply PFr.step); (focus (with_reducible assumption)))))) fun k hk e => by omega⟩
end
end Go.Proofs.YtgnmnaclndkmdaaGreatDoor
namespace Go.Proofs.YtgnmnaclndkmdaaGreatDoor
open Go.RowKit

def nodeC (t : T) (v : Value) : Array Value := #[.int .i64 t.op, .int .i64 t.v.k, .int .i64 t.v.n, .string t.v.s, .int .i64 t.c, v]
def ptrV (a : Nat) : Value := .pointer (some ⟨a, 0, none⟩)
/-- A slice of pointers to blocks, its own block in B. -/
def SlP (B : Nat → Prop) (w : World) (v : Value) (l : List Nat) : Prop :=
  (l = [] ∧ ∃ A c, v = .slice A 0 c) ∨ ∃ (g cap : Nat) (cur : Array Value), B g ∧ v = .slice (some ⟨g, 0, none⟩) l.length cap ∧ l ≠ [] ∧ w.heap[g]? = some (.cells cur 59 (0, 0)) ∧ l.length ≤ cap ∧ cap ≤ maxLen ∧ ∀ (i a : Nat), l[i]? = some a → cur[i]? = some (ptrV a)
mutual
/-- A tree whose root is a node at block a; its blocks are all in B. -/
def TreeAt (B : Nat → Prop) (w : World) : X → Nat → Prop
  | .node t ks, a => B a ∧ ∃ (v : Value) (l : List Nat), w.heap[a]? = some (.cells (nodeC t v) 110 (0, 0)) ∧ SlP B w v l ∧ KidsAt B w ks l
def KidsAt (B : Nat → Prop) (w : World) : List X → List Nat → Prop
  | [], l => l = []
  | x :: ks, l => ∃ a m, l = a :: m ∧ TreeAt B w x a ∧ KidsAt B w ks m
end
/-- Blocks of other types than those of T are as they were. -/
def KeepO (T : List TypeId) (w w' : World) : Prop := ∀ (k : Nat) (cs : Array Value) (te : TypeId), w.heap[k]? = some (.cells cs te (0, 0)) → te ∉ T → w'.heap[k]? = w.heap[k]?
/-- The types of what a parser of expressions changes. -/
def TX : List TypeId := [58, 88]
/-- Nodes stay. -/
structure KT (T : List TypeId) : Prop where
  node : 110 ∉ T
  row : 59 ∉ T
theorem kt_TX : KT TX := ⟨by decide, by decide⟩
/-- The blocks of B of other types than those of T are as they were. -/
def KeepB (B : Nat → Prop) (T : List TypeId) (w w' : World) : Prop := ∀ (k : Nat) (cs : Array Value) (te : TypeId), B k → w.heap[k]? = some (.cells cs te (0, 0)) → te ∉ T → w'.heap[k]? = w.heap[k]?
theorem KeepO.b {B : Nat → Prop} {T : List TypeId} {w w' : World} (h : KeepO T w w') : KeepB B T w w' := fun k cs te _ => h k cs te
theorem SlP.keep {B B' : Nat → Prop} {w w' : World} {T : List TypeId} (hT : KT T) (hB : ∀ k, B k → k < w.heap.size → B' k) (hk : KeepB B T w w') {v : Value} {l : List Nat} (h : SlP B w v l) : SlP B' w' v l := by
  rcases h with h | ⟨g, cap, cur, hb, h1, h2, h3, h4⟩
  · exact .inl h
  · refine .inr ⟨g, cap, cur, hB g hb ?_, h1, h2, (hk g _ _ hb h3 hT.row).trans h3, h4⟩
    rcases Nat.lt_or_ge g w.heap.size with hl | hl
    · exact hl
    · rw [Array.getElem?_eq_none hl] at h3; cases h3
mutual
theorem TreeAt.keep {B B' : Nat → Prop} {w w' : World} {T : List TypeId} (hT : KT T) (hB : ∀ k, B k → k < w.heap.size → B' k) (hk : KeepB B T w w') : ∀ (x : X) (a : Nat), TreeAt B w x a → TreeAt B' w' x a
  | .node t ks, a, h => by
    unfold TreeAt at h ⊢
    obtain ⟨hb, v, l, h1, h2, h3⟩ := h
    refine ⟨hB a hb ?_, v, l, (hk a _ _ hb h1 hT.node).trans h1, h2.keep hT hB hk, KidsAt.keep hT hB hk ks l h3⟩
    rcases Nat.lt_or_ge a w.heap.size with hl | hl
    · exact hl
    · rw [Array.getElem?_eq_none hl] at h1; cases h1
theorem KidsAt.keep {B B' : Nat → Prop} {w w' : World} {T : List TypeId} (hT : KT T) (hB : ∀ k, B k → k < w.heap.size → B' k) (hk : KeepB B T w w') : ∀ (ks : List X) (l : List Nat), KidsAt B w ks l → KidsAt B' w' ks l
  | [], l, h => by unfold KidsAt at h ⊢; exact h
  | x :: ks, l, h => by
    unfold KidsAt at h ⊢
    obtain ⟨a, m, h1, h2, h3⟩ := h
    exact ⟨a, m, h1, TreeAt.keep hT hB hk x a h2, KidsAt.keep hT hB hk ks m h3⟩
end
theorem KeepO.trans {T : List TypeId} {a b c : World} (h : KeepO T a b) (h2 : KeepO T b c) : KeepO T a c := fun k cs te hk ht => by
  have h3 := h k cs te hk ht
  exact (h2 k cs te (h3.trans hk) ht).trans h3
theorem KeepO.of_below {T : List TypeId} {w w' : World} (hb : Below w.heap.size w w') : KeepO T w w' := fun k cs te hk _ => hb.block k (by
  rcases Nat.lt_or_ge k w.heap.size with hl | hl
  · exact hl
  · rw [Array.getElem?_eq_none hl] at hk; cases hk)
theorem kids_snoc {B : Nat → Prop} {w : World} : ∀ {ks : List X} {l : List Nat} {x : X} {a : Nat}, KidsAt B w ks l → TreeAt B w x a → KidsAt B w (ks ++ [x]) (l ++ [a])
  | [], l, x, a, h, h2 => by
    unfold KidsAt at h
    subst h
    show KidsAt B w (x :: []) (a :: [])
    unfold KidsAt
    exact ⟨a, [], rfl, h2, by unfold KidsAt; rfl⟩
  | y :: ks, l, x, a, h, h2 => by
    unfold KidsAt at h
    obtain ⟨b, m, rfl, h3, h4⟩ := h
    show KidsAt B w (y :: (ks ++ [x])) (b :: (m ++ [a]))
    unfold KidsAt
    exact ⟨b, m ++ [a], rfl, h3, kids_snoc h4 h2⟩
theorem KidsAt.len {B : Nat → Prop} {w : World} : ∀ {ks : List X} {l : List Nat}, KidsAt B w ks l → l.length = ks.length
  | [], l, h => by unfold KidsAt at h; subst h; rfl
  | x :: ks, l, h => by
    unfold KidsAt at h
    obtain ⟨a, m, rfl, _, h3⟩ := h
    simp [KidsAt.len h3]
/-- All blocks from lo on. -/
def From (lo k : Nat) : Prop := lo ≤ k

/-- What a parser of expressions may change: its own block and its row of references. -/
def SX (p : Pp) (rv : Value) (k : Nat) : Prop := k = p.pb ∨ rv.ownBlock = some k
/-- The state of a parser that has gone on from w0 with the references rv0. -/
structure St (p : Pp) (w0 : World) (rv0 : Value) (w : World) (s : Ps) (rv : Value) : Prop where
  at_ : PsAt p w s rv
  fr : PFr (SX p rv0) w0 w
  own : ∀ k, rv.ownBlock = some k → k < w0.heap.size → rv0.ownBlock = some k
section
variable {p : Pp} {w0 w w' : World} {rv0 rv rv' : Value} {s s' : Ps}
theorem St.refl (h : PsAt p w s rv) : St p w rv w s rv := ⟨h, PFr.refl _ _, fun _ h _ => h⟩
theorem St.trans (h : St p w0 rv0 w s rv) (h2 : St p w rv w' s' rv') : St p w0 rv0 w' s' rv' :=
  ⟨h2.at_, h.fr.trans h2.fr fun k hk hs => by
    rcases hs with hs | hs
    · exact .inl hs
    · exact .inr (h.own k hs hk), fun k hk hl => h.own k (h2.own k hk (Nat.lt_of_lt_of_le hl h.fr.size)) hl⟩
theorem St.go (h : St p w0 rv0 w s rv) (h1 : PsAt p w' s' rv) (h2 : PFr (· = p.pb) w w') : St p w0 rv0 w' s' rv :=
  h.trans ⟨h1, h2.mono fun _ _ e => .inl e, fun _ h _ => h⟩
theorem St.below (h : St p w0 rv0 w s rv) (hb : Below w.heap.size w w') : St p w0 rv0 w' s rv := h.go (h.at_.below hb) (PFr.of_below hb)
theorem St.alloc (h : St p w0 rv0 w s rv) (o : Obj) : St p w0 rv0 (w.alloc o) s rv := h.below ((Below.refl w.heap.size w).alloc (Nat.le_refl _) o)
theorem St.drew (h : St p w0 rv0 w s rv) : St p w0 rv0 w.drew s rv := h.below (Below.refl _ _).drew
theorem ref_blk {base n : Nat} {e : TypeId} {size : Nat} {v : Value} {xs : List Value} {k : Nat} (h : w.ownsRow base e size v n xs) (hk : v.ownBlock = some k) : ∃ cur, w.heap[k]? = some (.cells cur e (0, 0)) := by
  rcases h.2 with ⟨rfl, _⟩ | ⟨g, cap, cur, rfl, _, h5, _⟩
  · cases hk
  · simp only [Value.ownBlock] at hk
    injection hk with hk
    subst hk
    exact ⟨cur, h5⟩
theorem heap_lt {w : World} {k : Nat} {o : Obj} (hk : w.heap[k]? = some o) : k < w.heap.size := by
  rcases Nat.lt_or_ge k w.heap.size with hl | hl
  · exact hl
  · rw [Array.getElem?_eq_none hl] at hk; cases hk
/-- What the parser of expressions changes leaves all trees as they are. -/
theorem PsAt.keepO (h : PsAt p w s rv) (hf : PFr (SX p rv) w w') : KeepO TX w w' := fun k cs te hk ht => by
  refine hf.block k (heap_lt hk) ?_
  rintro (rfl | hs)
  · rw [h.blk] at hk
    injection hk with hk
    injection hk with _ hk
    subst hk
    exact ht (by decide)
  · obtain ⟨cur, hc⟩ := ref_blk h.refs hs
    rw [hc] at hk
    injection hk with hk
    injection hk with _ hk
    subst hk
    exact ht (by decide)
theorem St.keepO (h : St p w0 rv0 w s' rv) (h0 : PsAt p w0 s rv0) : KeepO TX w0 w := h0.keepO h.fr
theorem PsAt.keep_go (h : PsAt p w s rv) (h2 : PFr (· = p.pb) w w') : KeepO TX w w' := h.keepO (h2.mono fun _ _ e => .inl e)
theorem flat_str (ws : List Bs) : (ws.flatMap fun l => [strV l]) = ws.map strV := by
  induction ws with
  | nil => rfl
  | cons a l ih => rw [List.flatMap_cons, ih]; rfl
/-- A constant row of words. -/
theorem KeepO.words {T : List TypeId} (hk : KeepO T w w') (hT : 9 ∉ T) {g : Nat} {cs : Array Value} (h : w.heap[g]? = some (.cells cs 9 (0, 0))) : w'.heap[g]? = some (.cells cs 9 (0, 0)) := (hk g _ _ h hT).trans h
theorem words_row {g n : Nat} {cs : Array Value} {te : TypeId} {ws : List Bs} (h : w.heap[g]? = some (.cells cs te (0, 0))) (hc : cs.toList = ws.map strV) (hn : ws.length = n) : RowB w w.heap.size (some ⟨g, 0, none⟩) n ws := by
  refine ⟨hn, fun _ => ⟨g, 0, rfl, heap_lt h, fun j u hu => ?_⟩⟩
  rw [cell_of_row w g (0 + j) cs te (0, 0) h, Nat.zero_add]
  have : (ws.flatMap fun l => [strV l]) = cs.toList := by rw [hc, flat_str]
  rw [this] at hu
  simpa using hu
end
/-- What a method that reads an expression leaves. -/
def NodePost (p : Pp) (w : World) (rv : Value) (x : X) (s' : Ps) (e : Ending) (w' : World) : Prop :=
  ∃ a rv', e = .returned (ptrV a) ∧ St p w rv w' s' rv' ∧ TreeAt (From w.heap.size) w' x a
theorem tree_new {B : Nat → Prop} {w : World} {op : Int} {v : Value} {ks : List X} {l : List Nat} {a : Nat} {x : V} {c : Int} (hb : B a) (h : w.heap[a]? = some (.cells (nodeC ⟨op, x, c⟩ v) 110 (0, 0))) (hs : SlP B w v l) (hk : KidsAt B w ks l) : TreeAt B w (.node ⟨op, x, c⟩ ks) a := by
  unfold TreeAt
  exact ⟨hb, v, l, h, hs, hk⟩
theorem TreeAt.keep1 {lo : Nat} {w w' : World} {x : X} {a : Nat} (h : TreeAt (From lo) w x a) (hk : KeepO TX w w') : TreeAt (From lo) w' x a := TreeAt.keep kt_TX (fun _ h _ => h) hk.b x a h
theorem TreeAt.mono {lo lo' : Nat} {w : World} {x : X} {a : Nat} (h : TreeAt (From lo) w x a) (hl : lo' ≤ lo) : TreeAt (From lo') w x a := TreeAt.keep kt_TX (fun _ h _ => Nat.le_trans hl h) (fun _ _ _ _ _ _ => rfl) x a h
theorem SlP.below {B : Nat → Prop} {w w' : World} {v : Value} {l : List Nat} (h : SlP B w v l) (hb : Below w.heap.size w w') : SlP B w' v l := h.keep kt_TX (fun _ h _ => h) (KeepO.of_below hb).b
theorem TreeAt.below {B : Nat → Prop} {w w' : World} {x : X} {a : Nat} (h : TreeAt B w x a) (hb : Below w.heap.size w w') : TreeAt B w' x a := TreeAt.keep kt_TX (fun _ h _ => h) (KeepO.of_below hb).b x a h
theorem KidsAt.below {B : Nat → Prop} {w w' : World} {ks : List X} {l : List Nat} (h : KidsAt B w ks l) (hb : Below w.heap.size w w') : KidsAt B w' ks l := KidsAt.keep kt_TX (fun _ h _ => h) (KeepO.of_below hb).b ks l h
end Go.Proofs.YtgnmnaclndkmdaaGreatDoor
namespace Go.Proofs.YtgnmnaclndkmdaaGreatDoor
open Go.RowKit

set_option maxRecDepth 100000 in
set_option maxHeartbeats 2000000 in
theorem sOperatorOf_c (x : Bs) (w : World) : Calls Tryz.prog 81 #[.string ⟨x.toArray⟩] w fun e w' => e = .returned (.int .i64 (opP x)) ∧ w' = w := by
  go_enter Tryz.func81, Tryz.ntmps81
  go_wp2_with fail
  all_goals go_ret
  all_goals (refine ⟨?_, rfl⟩; simp_all [opP, wOr, wAnd])
set_option maxRecDepth 100000 in
set_option maxHeartbeats 2000000 in
theorem functionOf_c (x : Bs) (w : World) : Calls Tryz.prog 227 #[.string ⟨x.toArray⟩] w fun e w' => e = .returned (.int .i64 (funP x)) ∧ w' = w := by
  go_enter Tryz.func227, Tryz.ntmps227
  go_wp2_with fail
  all_goals go_ret
  all_goals (refine ⟨?_, rfl⟩; simp_all [funP])
theorem heap_two' (w : World) (o o' : Obj) : ((w.alloc o).alloc o').heap[w.heap.size + 1]? = some o' := by
  have := heap_alloc_new (w.alloc o) o'
  rwa [show (w.alloc o).heap.size = w.heap.size + 1 by simp] at this
def NodeNew (B : Nat → Prop) (w : World) (x : X) (e : Ending) (w' : World) : Prop := ∃ a, e = .returned (ptrV a) ∧ Below w.heap.size w w' ∧ TreeAt B w' x a
set_option maxRecDepth 100000 in
set_option maxHeartbeats 1000000 in
theorem operation_c {B : Nat → Prop} {w : World} {op : Int} {v : Value} {ks : List X} {l : List Nat} (hB : B w.heap.size) (hs : SlP B w v l) (hk : KidsAt B w ks l) : Calls Tryz.prog 82 #[.int .i64 op, v] w (NodeNew B w (opX op ks)) := by
  obtain ⟨A, n, c, rfl⟩ : ∃ A n c, v = .slice A n c := by
    rcases hs with ⟨_, A, c, rfl⟩ | ⟨g, cap, cur, _, rfl, _⟩
    · exact ⟨_, _, _, rfl⟩
    · exact ⟨_, _, _, rfl⟩
  go_enter Tryz.func82, Tryz.ntmps82
  go_wp2_with fail
  go_ret
  have hb : Below w.heap.size w (w.alloc (.cells (nodeC ⟨op, V.null, 0⟩ (.slice A n c)) 110)) := by (repeat (first | (with_reducible exact Below.refl _ _) | (with_reducible assumption) | (with_reducible refine Below.drew ?_) | (with_reducible refine below_drewN ?_ _) | ((with_reducible refine Below.setCell ?_ ?_ _); rotate_left; (focus (first | (simp; done) | (simp; omega) | omega))) | ((with_reducible refine Below.alloc ?_ ?_ _); rotate_left; (focus (first | (simp; done) | (simp; omega) | omega))) | ((with_reducible apply below_step1); (focus (with_reducible assumption)))))
  exact ⟨_, rfl, hb, tree_new hB (heap_alloc_new w _) (hs.below hb) (hk.below hb)⟩
set_option maxRecDepth 100000 in
set_option maxHeartbeats 1000000 in
theorem constant_c (w : World) (x : V) : Calls Tryz.prog 216 #[.agg #[.int .i64 x.k, .int .i64 x.n, .string x.s]] w (NodeNew (From w.heap.size) w (cstX x)) := by
  go_enter Tryz.func216, Tryz.ntmps216
  go_wp2_with fail
  go_ret
  refine ⟨w.heap.size + 1, rfl, by (repeat (first | (with_reducible exact Below.refl _ _) | (with_reducible assumption) | (with_reducible refine Below.drew ?_) | (with_reducible refine below_drewN ?_ _) | ((with_reducible refine Below.setCell ?_ ?_ _); rotate_left; (focus (first | (simp; done) | (simp; omega) | omega))) | ((with_reducible refine Below.alloc ?_ ?_ _); rotate_left; (focus (first | (simp; done) | (simp; omega) | omega))) | ((with_reducible apply below_step1); (focus (with_reducible assumption))))), tree_new (v := .slice none 0 0) (l := []) (Nat.le_succ _) (heap_two' _ _ _) (.inl ⟨rfl, _, _, rfl⟩) (by unfold KidsAt; rfl)⟩
end Go.Proofs.YtgnmnaclndkmdaaGreatDoor
