/- Contract of the program's evalAt. The columns and the text of expressions, in plain Lean. No program in sight, no condition. The tree of a valid expression, and what is read off it: value, text, type. Plain Lean, no condition. Contract of the program's opName. No condition. Contracts of the tape's Next: whatever the tape holds, a number from 0 to n - 1 comes back and only the tape's own block has changed. n is below 2^40, the tape has fewer than 2^44 numbers. Contracts of the tape's Text, Int and Value: a valid value comes back, and only the tape's own block has changed. Contracts of the laws' plus and awake; the table of powers of ten is as it is laid. Contract of the program's resultType. Folding, in the words of lists. Plain Lean, no condition. Contract of appendTerms: the terms of a tree, with the columns of its references. The numbers of references are in range; at most 1000000 terms. -/
import Derived.Test.YtgnmnaclndkmdaaGreatDoorBn02
import Derived.Test.YtgnmnaclndkmdaaGreatDoorBn06
import Derived.Test.YtgnmnaclndkmdaaGreatDoorBn03
import Derived.Test.YtgnmnaclndkmdaaGreatDoorBn00
import Derived.Test.YtgnmnaclndkmdaaGreatDoorBn01
import Derived.Test.YtgnmnaclndkmdaaGreatDoorBn08
import Derived.Laws.StructEq
import Derived.Deep.DeepCutAuto
import Derived.Deep.RegionWith
import Derived.Deep.Light
import Derived.Test.YtgnmnaclndkmdaaGreatDoorShelf
import Derived.Laws.Tables
import Derived.Laws.CopyOwn
import Derived.Laws.MakeOwn
import Derived.Laws.Concat
import Derived.ProofKit
import Derived.Deep.Slices
import Derived.Deep.Fields
import Derived.ChangeSame
import Derived.Carry
namespace Go.Proofs.YtgnmnaclndkmdaaGreatDoor
open Go.RowKit

/-- Where the i-th operand lies, and what it is. -/
theorem kid_at {es : List T} {pos : Nat} {t : T} {ks : List X} {r : List T} (hx : es.drop pos = (X.node t ks).flat ++ r) {i : Nat} {k : X} (h : ks[i]? = some k) : es.drop (pos + 1 + (flats (ks.take i)).length) = k.flat ++ (flats (ks.drop (i + 1)) ++ r) := by
  have hl : i < ks.length := (List.getElem?_eq_some_iff.1 h).1
  have hs : flats ks = flats (ks.take i) ++ (k.flat ++ flats (ks.drop (i + 1))) := by
    conv => lhs; rw [← List.take_append_drop i ks]
    rw [List.drop_eq_getElem_cons hl, (List.getElem?_eq_some_iff.1 h).2]
    generalize ks.take i = l
    induction l with
    | nil => simp [flats]
    | cons y ys ih => simp only [List.cons_append, flats_cons, ih]; simp
  rw [X.flat_node, hs] at hx
  have e1 : es.drop (pos + 1) = flats (ks.take i) ++ (k.flat ++ flats (ks.drop (i + 1))) ++ r := by
    rw [← List.drop_drop, hx]; simp
  rw [← List.drop_drop, e1, List.append_assoc, List.drop_left, List.append_assoc]
theorem kid_in {ks : List X} {i : Nat} {k : X} (h : ks[i]? = some k) : k.depth ≤ deepest ks ∧ (wfs ks = true → k.wf = true) ∧ (flats (ks.take (i + 1))).length = (flats (ks.take i)).length + k.flat.length := by
  have hl : i < ks.length := (List.getElem?_eq_some_iff.1 h).1
  refine ⟨?_, ?_, ?_⟩
  · have : ∀ (l : List X) (k : X), k ∈ l → k.depth ≤ deepest l := by
      intro l
      induction l with
      | nil => intro k hk; cases hk
      | cons y ys ih =>
        intro k hk
        simp only [deepest]
        rcases List.mem_cons.1 hk with rfl | hk
        · omega
        · have := ih k hk; omega
    exact this ks k (List.mem_of_getElem? h)
  · have : ∀ (l : List X) (k : X), k ∈ l → wfs l = true → k.wf = true := by
      intro l
      induction l with
      | nil => intro k hk; cases hk
      | cons y ys ih =>
        intro k hk hw
        simp only [wfs, Bool.and_eq_true] at hw
        rcases List.mem_cons.1 hk with rfl | hk
        · exact hw.1
        · exact ih k hk hw.2
    exact this ks k (List.mem_of_getElem? h)
  · rw [List.take_add_one, h]
    simp only [Option.toList_some]
    rw [flats_snoc, List.length_append]
end Go.Proofs.YtgnmnaclndkmdaaGreatDoor
namespace Go.Proofs.YtgnmnaclndkmdaaGreatDoor

/-- A number into an ascending list without duplicates. -/
def addL : List Int → Int → List Int
  | [], n => [n]
  | a :: l, n => if a < n then a :: addL l n else if a = n then a :: l else n :: a :: l
def colsL (e : List T) : List Int := (e.filter fun t => t.op == 2).map T.c
def colsA (e : List T) : List Int := (colsL e).foldl addL []
def asc : List Int → Prop
  | [] => True
  | [_] => True
  | a :: b :: l => a < b ∧ asc (b :: l)
theorem asc_tail {a : Int} {l : List Int} (h : asc (a :: l)) : asc l := by
  cases l with
  | nil => trivial
  | cons b l => exact h.2
theorem asc_lt : ∀ {l : List Int} {a : Int}, asc (a :: l) → ∀ x ∈ l, a < x := by
  intro l
  induction l with
  | nil => intro a _ x hx; cases hx
  | cons b l ih =>
    intro a h x hx
    rcases List.mem_cons.1 hx with rfl | hx
    · exact h.1
    · have := ih h.2 x hx
      have := h.1
      omega
theorem asc_cons {a : Int} {l : List Int} (h : asc l) (ha : ∀ x ∈ l, a < x) : asc (a :: l) := by
  cases l with
  | nil => trivial
  | cons b l => exact ⟨ha b (by simp), h⟩
theorem asc_unique : ∀ (l m : List Int), asc l → asc m → (∀ x, x ∈ l ↔ x ∈ m) → l = m := by
  intro l
  induction l with
  | nil =>
    intro m _ _ h
    cases m with
    | nil => rfl
    | cons b m => have := (h b).2 (by simp); cases this
  | cons a l ih =>
    intro m hl hm h
    cases m with
    | nil => have := (h a).1 (by simp); cases this
    | cons b m =>
      have hab : a = b := by
        have h1 := (h a).1 (by simp)
        have h2 := (h b).2 (by simp)
        rcases List.mem_cons.1 h1 with e | e
        · exact e
        · rcases List.mem_cons.1 h2 with e2 | e2
          · exact e2.symm
          · have := asc_lt hm a e
            have := asc_lt hl b e2
            omega
      subst hab
      congr 1
      apply ih m (asc_tail hl) (asc_tail hm)
      intro x
      have hx := h x
      simp only [List.mem_cons] at hx
      constructor
      · intro h1
        have := asc_lt hl x h1
        rcases hx.1 (.inr h1) with e | e
        · omega
        · exact e
      · intro h1
        have := asc_lt hm x h1
        rcases hx.2 (.inr h1) with e | e
        · omega
        · exact e
theorem addL_mem : ∀ (l : List Int) (n x : Int), x ∈ addL l n ↔ x = n ∨ x ∈ l := by
  intro l
  induction l with
  | nil => intro n x; simp [addL]
  | cons a l ih =>
    intro n x
    unfold addL
    split
    · simp only [List.mem_cons, ih]
      constructor
      · rintro (h | h | h) <;> simp [h]
      · rintro (h | h | h) <;> simp [h]
    · split
      · rename_i h; subst h; simp
      · simp
theorem addL_asc : ∀ (l : List Int) (n : Int), asc l → asc (addL l n) := by
  intro l
  induction l with
  | nil => intro n _; trivial
  | cons a l ih =>
    intro n h
    unfold addL
    split
    · rename_i h1
      refine asc_cons (ih n (asc_tail h)) (fun x hx => ?_)
      rcases (addL_mem l n x).1 hx with e | e
      · omega
      · exact asc_lt h x e
    · split
      · exact h
      · exact ⟨by omega, h⟩
theorem foldl_add : ∀ (e l : List Int), asc l → asc (e.foldl addL l) ∧ ∀ x, x ∈ e.foldl addL l ↔ x ∈ e ∨ x ∈ l := by
  intro e
  induction e with
  | nil => intro l h; exact ⟨h, fun x => by simp⟩
  | cons a e ih =>
    intro l h
    obtain ⟨h1, h2⟩ := ih (addL l a) (addL_asc l a h)
    refine ⟨h1, fun x => ?_⟩
    rw [List.foldl_cons, h2, addL_mem, List.mem_cons]
    constructor
    · rintro (h | h | h) <;> simp [h]
    · rintro ((h | h) | h) <;> simp [h]
end Go.Proofs.YtgnmnaclndkmdaaGreatDoor
namespace Go.Proofs.YtgnmnaclndkmdaaGreatDoor

def treeE (l : List T) : Option X := if validE l = true then (readX 16 l).map Prod.fst else none
theorem treeE_flat {x : X} (h : x.flat.length ≤ 64) (hw : x.wf = true) (hd : x.depth ≤ 16) : treeE x.flat = some x := by
  have h1 : validE x.flat = true := (validE_iff _).2 ⟨h, x, rfl, hw, hd⟩
  have h2 := readX_flat x [] 16 hw hd
  rw [List.append_nil] at h2
  unfold treeE
  rw [if_pos h1, h2]
  rfl
end Go.Proofs.YtgnmnaclndkmdaaGreatDoor
namespace Go.Proofs.YtgnmnaclndkmdaaGreatDoor
open Go.RowKit

theorem wpList_buildTo {P : Program} {ops : Array Oper} {rest : List Oper} {o : Oper} {a : Act} {w : World} {Q : Exit → Act → World → Prop} (hg : o.guard = none) (t : TypeId) (parts : Array (Nat × Operand)) (ho : o.op = .build t parts) (cells : Array Value)
    (hc : P.built t (parts.map fun (i, x) => (i, a.eval x)).toList = some cells) (h : wpList P ops Q rest (a.put o.dst (.agg cells)) w) : wpList P ops Q (o :: rest) a w :=
  wpList_build hg t parts ho (by rw [hc]; rfl) (by rw [hc]; exact h)
end Go.Proofs.YtgnmnaclndkmdaaGreatDoor
namespace Go.Proofs.YtgnmnaclndkmdaaGreatDoor
open Go.RowKit

theorem blk_rules {w : World} {b : Nat} {cs : Array Value} {t : TypeId} (h : w.heap[b]? = some (.cells cs t (0, 0))) : (∀ i, w.cell? ⟨b, i, none⟩ = cs[i]?) ∧ (∀ i, w.frozen? ⟨b, i, none⟩ = false) :=
  ⟨fun i => cell_of_row w b i cs t (0, 0) h, fun i => by simp [World.frozen?, h]⟩

end Go.Proofs.YtgnmnaclndkmdaaGreatDoor
namespace Go.Proofs.YtgnmnaclndkmdaaGreatDoor
open Go.RowKit

set_option maxHeartbeats 400000 in
theorem rint (n : Int) (w : World) : Calls Tryz.prog 5 #[.int .i64 n] w fun e w' => e = .returned (.agg #[.int .i64 ((V.mk 1 n ⟨#[]⟩).cl).k, .int .i64 ((V.mk 1 n ⟨#[]⟩).cl).n, .string ((V.mk 1 n ⟨#[]⟩).cl).s]) ∧ Below w.heap.size w w' := by
  go_enter Tryz.func5, Tryz.ntmps5
  go_wp2_with (go_at_call 14; refine (rclean ⟨1, n, ⟨#[]⟩⟩ _).mono ?_; rintro e w1 ⟨rfl, hb1⟩; obtain ⟨hc1, hf1⟩ := bcell hb1; have hz1 := (hb1).size; try simp at hz1)
  refine bodyPost_ret (by simp [results, Tryz.results5, go_sem, hc1]; rfl) rfl ?_
  exact ⟨rfl, by (repeat (first | (with_reducible exact Below.refl _ _) | (with_reducible assumption) | (with_reducible refine Below.drew ?_) | (with_reducible refine below_drewN ?_ _) | ((with_reducible refine Below.setCell ?_ ?_ _); rotate_left; (focus (first | (simp; done) | (simp; omega) | omega))) | ((with_reducible refine Below.alloc ?_ ?_ _); rotate_left; (focus (first | (simp; done) | (simp; omega) | omega))) | ((with_reducible apply below_step1); (focus (with_reducible assumption)))))⟩

end Go.Proofs.YtgnmnaclndkmdaaGreatDoor
namespace Go.Proofs.YtgnmnaclndkmdaaGreatDoor
open Go.RowKit

theorem RowOf.to {α : Type} {cells : α → List Value} {w w' : World} {A : Option Addr} {n : Nat} {xs : List α} (h : RowOf cells w w.heap.size A n xs) (hb : Below w.heap.size w w') : RowOf cells w' w'.heap.size A n xs := (h.below hb).more hb.size
end Go.Proofs.YtgnmnaclndkmdaaGreatDoor
namespace Go.Proofs.YtgnmnaclndkmdaaGreatDoor
open Go.RowKit

abbrev RowI := @RowOf Int (fun z => [Value.int .i64 z])
theorem RowI.at1 {w : World} {B n : Nat} {A : Option Addr} {zs : List Int} (h : RowI w B A n zs) {k : Nat} (hk : k < n) :
   ∃ b off z, A = some ⟨b, off, none⟩ ∧ b < B ∧ zs[k]? = some z ∧ w.cell? ⟨b, off + k, none⟩ = some (.int .i64 z) := by
  obtain ⟨b, off, s, h1, h2, h3, h4⟩ := h.at_ 1 (fun _ => rfl) (by omega) hk
  have := h4 0 _ rfl
  rw [Nat.mul_one] at this
  exact ⟨b, off, s, h1, h2, h3, this⟩
end Go.Proofs.YtgnmnaclndkmdaaGreatDoor
namespace Go.Proofs.YtgnmnaclndkmdaaGreatDoor

theorem flats_two (a b : List X) : flats (a ++ b) = flats a ++ flats b := by
  induction a with
  | nil => simp [flats]
  | cons y ys ih => simp only [List.cons_append, flats_cons, ih, List.append_assoc]
theorem flats_takes (ks : List X) (i : Nat) : (flats (ks.take i)).length ≤ (flats ks).length := by
  have := flats_two (ks.take i) (ks.drop i)
  rw [List.take_append_drop] at this
  rw [this, List.length_append]
  omega
end Go.Proofs.YtgnmnaclndkmdaaGreatDoor
namespace Go.Proofs.YtgnmnaclndkmdaaGreatDoor
open Go.RowKit
theorem stT' : SliceTy Tryz.prog 22 31 5 48 := SliceTy.mk' Tryz.underlying22 (z := .agg #[.int .i64 0, .int .i64 0, .int .i64 0, .string ⟨#[]⟩, .int .i64 0]) (by kernel_rfl) rfl (by decide) (by decide)
theorem deepest_mem {x : X} : ∀ {ks : List X}, x ∈ ks → x.depth ≤ deepest ks := by
  intro ks
  induction ks with
  | nil => intro h; simp at h
  | cons y ys ih =>
    intro h
    simp only [deepest]
    rcases List.mem_cons.1 h with rfl | h
    · omega
    · have := ih h; omega
theorem mem_flats {x : X} {t : T} : ∀ {ks : List X}, x ∈ ks → t ∈ x.flat → t ∈ flats ks := by
  intro ks
  induction ks with
  | nil => intro h; simp at h
  | cons y ys ih =>
    intro h ht
    rw [flats_cons]
    rcases List.mem_cons.1 h with rfl | h
    · exact List.mem_append_left _ ht
    · exact List.mem_append_right _ (ih h ht)
/-- A row of the call's own stays where other blocks change. -/
theorem own_pfr {S : Nat → Prop} {w w' : World} {base : Nat} {e : TypeId} {size : Nat} {v : Value} {n : Nat} {xs : List Value} (h : w.ownsRow base e size v n xs) (hf : PFr S w w') (hn : ∀ k, v.ownBlock = some k → ¬ S k) : w'.ownsRow base e size v n xs := by
  refine ⟨h.1, ?_⟩
  rcases h.2 with h2 | ⟨g, cap, cur, h3, h4, h5, h6⟩
  · exact .inl h2
  · exact .inr ⟨g, cap, cur, h3, h4, (hf.block g (heap_lt h5) (hn g (by rw [h3]; rfl))).trans h5, h6⟩
theorem keepO_own {w w' : World} {base : Nat} {e : TypeId} {size : Nat} {v : Value} {n : Nat} {xs : List Value} (h : w.ownsRow base e size v n xs) (hf : PFr (fun k => v.ownBlock = some k) w w') : KeepO [e] w w' := fun k cs te hk ht => hf.block k (heap_lt hk) (by
  intro hv
  obtain ⟨cur, hc⟩ := ref_blk h hv
  rw [hc] at hk
  injection hk with hk
  injection hk with _ hk
  subst hk
  exact ht (List.mem_singleton.2 rfl))
theorem flats_take {ks : List X} {i : Nat} {k : X} (h : ks[i]? = some k) : flats (ks.take (i + 1)) = flats (ks.take i) ++ k.flat := by
  induction ks generalizing i with
  | nil => simp at h
  | cons y ys ih =>
    cases i with
    | zero => simp at h; subst h; simp [flats]
    | succ i =>
      simp at h
      rw [List.take_succ_cons, List.take_succ_cons, flats, flats, ih h, List.append_assoc]
theorem kids_at {B : Nat → Prop} {w : World} : ∀ (ks : List X) (l : List Nat) (i : Nat), KidsAt B w ks l → i < ks.length → ∃ k a, ks[i]? = some k ∧ l[i]? = some a ∧ TreeAt B w k a := by
  intro ks
  induction ks with
  | nil => intro l i _ hi; simp at hi
  | cons x ks ih =>
    intro l i h hi
    unfold KidsAt at h
    obtain ⟨a, m, rfl, h2, h3⟩ := h
    cases i with
    | zero => exact ⟨x, a, rfl, rfl, h2⟩
    | succ i =>
      obtain ⟨k, b, e1, e2, e3⟩ := ih m i h3 (by simpa using hi)
      exact ⟨k, b, by simpa using e1, by simpa using e2, e3⟩
/-- A pointer of a row of kids. -/
theorem SlP.at1 {B : Nat → Prop} {w : World} {A : Option Addr} {n c : Nat} {l : List Nat} (h : SlP B w (.slice A n c) l) {i a : Nat} (hi : l[i]? = some a) : n = l.length ∧ ∃ g, A = some ⟨g, 0, none⟩ ∧ w.cell? ⟨g, i, none⟩ = some (.pointer (some ⟨a, 0, none⟩)) ∧ g < w.heap.size := by
  rcases h with ⟨rfl, _⟩ | ⟨g, cap, cur, _, h1, _, h3, _, _, h4⟩
  · simp at hi
  · injection h1 with h1 h5 h6
    refine ⟨h5, g, h1, ?_, heap_lt h3⟩
    rw [cell_of_row w g i cur _ (0, 0) h3, h4 i a hi]
    rfl
theorem SlP.slice {B : Nat → Prop} {w : World} {v : Value} {l : List Nat} (h : SlP B w v l) : ∃ A c, v = .slice A l.length c ∧ l.length ≤ maxLen ∧ ((∃ g, A = some ⟨g, 0, none⟩) ∨ l = []) := by
  rcases h with ⟨rfl, A, c, rfl⟩ | ⟨g, cap, cur, _, rfl, _, _, h1, h2, _⟩
  · exact ⟨A, c, rfl, Nat.zero_le _, .inr rfl⟩
  · exact ⟨_, _, rfl, by omega, .inl ⟨g, rfl⟩⟩
/-- What appendTerms leaves: the row with the new terms; of old blocks only the row's may have changed. -/
def TmPost (w : World) (base : Nat) (v : Value) (ts new : List T) (e : Ending) (w' : World) : Prop :=
  ∃ v', e = .returned v' ∧ w'.ownsRow base 31 5 v' (ts.length + new.length) ((ts ++ new).flatMap T.cells) ∧ PFr (fun k => v.ownBlock = some k) w w' ∧ (∀ k, v'.ownBlock = some k → k < w.heap.size → v.ownBlock = some k)
def accT (ts : List T) (cols : List Int) (t : T) (ks : List X) (i : Nat) : List T := ts ++ (putT cols t :: (flats (ks.take i)).map (putT cols))
theorem accT_succ {ts : List T} {cols : List Int} {t : T} {ks : List X} {i : Nat} {k : X} (h : ks[i]? = some k) : accT ts cols t ks (i + 1) = accT ts cols t ks i ++ k.flat.map (putT cols) := by
  unfold accT
  rw [flats_take h, List.map_append, ← List.cons_append, List.append_assoc]
theorem accT_len {ts : List T} {cols : List Int} {t : T} {ks : List X} {i : Nat} : (accT ts cols t ks i).length = ts.length + (1 + (flats (ks.take i)).length) := by
  unfold accT
  simp
  omega
/-- After some kids. -/
def TkRel (w : World) (base : Nat) (v : Value) (ts : List T) (cols : List Int) (t : T) (ks : List X) (v1 vi : Value) (wr : World) : Prop :=
  ∃ i : Nat, vi = .int .i64 (i : Int) ∧ i ≤ ks.length ∧ wr.ownsRow base 31 5 v1 (accT ts cols t ks i).length ((accT ts cols t ks i).flatMap T.cells) ∧ PFr (fun k => v.ownBlock = some k) w wr ∧ (∀ k, v1.ownBlock = some k → k < w.heap.size → v.ownBlock = some k)
def iOf : Value → Nat
  | .int _ n => n.toNat
  | _ => 0
set_option maxRecDepth 100000 in
set_option maxHeartbeats 4000000 in
theorem appendTerms_c (base : Nat) (R : Option Addr) (m d : Nat) (cols : List Int) : ∀ (f : Nat) (x : X) (a : Nat) (B : Nat → Prop) (w : World) (v : Value) (ts : List T), x.depth ≤ f → TreeAt B w x a → w.ownsRow base 31 5 v ts.length (ts.flatMap T.cells) → RowI w base R m cols → base ≤ w.heap.size → (∀ t ∈ x.flat, t.op = 2 → 0 ≤ t.c ∧ t.c < m) → ts.length + x.flat.length ≤ 1000000 → Calls Tryz.prog 29 #[ptrV a, v, .slice R m d] w (TmPost w base v ts (x.flat.map (putT cols))) := by
  intro f
  induction f with
  | zero => intro x a B w v ts hd; have := x.depth_pos; omega
  | succ f ih =>
    intro x a B w v ts hd hT hown hcol hbase hr hlen
    obtain ⟨t, ks⟩ := x
    unfold TreeAt at hT
    obtain ⟨hba, u, l, hblk, hsl, hk⟩ := hT
    rw [X.flat_node] at hr hlen ⊢
    obtain ⟨AV, cV, rfl, hV1, hV2⟩ := own_slice hown
    obtain ⟨AU, cU, rfl, hUl, hAU0⟩ := hsl.slice
    have hkl := hk.len
    obtain ⟨hc, -⟩ := blk_cells hblk
    have c0 := hc 0
    have c1 := hc 1
    have c2 := hc 2
    have c3 := hc 3
    have c4 := hc 4
    have c5 := hc 5
    have hla := heap_lt hblk
    unfold nodeC at c0 c1 c2 c3 c4 c5
    clear hc
    have HR := Lib.hid hr
    unfold ptrV
    rcases hAU0 with ⟨gU, rfl⟩ | hl0
    · by_cases h2 : t.op = 2
      · have t2 : (t.op == 2) = true := by simpa using h2
        obtain ⟨hc0, hcm⟩ := hr t (by simp) h2
        obtain ⟨q, hq⟩ := Int.eq_ofNat_of_zero_le hc0
        obtain ⟨b2, off2, z2, rfl, hb2, hz2, hcell⟩ := RowI.at1 hcol (show q < m by omega)
        have HP := Lib.hid (show putT cols t = ⟨t.op, t.v, z2⟩ by
          unfold putT
          rw [if_pos h2, List.getD_eq_getElem?_getD, hq, Int.toNat_natCast, hz2]
          rfl)
        rw [hq] at c4
        have q0 : (0 : Int) ≤ (q : Int) := by omega
        have q1 : (q : Int) < (m : Int) := by omega
        have hb2l : b2 < w.heap.size := by omega
        clear h2 hr hz2 hcm hc0 hq
        go_enter Tryz.func29, Tryz.ntmps29
        go_wp2_with (at_builtin; refine wpList_app (v := .slice AV ts.length cV) rfl _ _ stT' rfl rfl ((own_below hown ((Below.refl w.heap.size w).alloc (Nat.le_refl _) _))) rfl (by simp) rfl (by simp [Value.oneCell']) (by omega) (by simp; omega) ?_; intro v3 w3 own3 g3 at3; have PF3 := ((PFr.refl (fun k => (Value.slice AV ts.length cV).ownBlock = some k) w).alloc _).grown g3 (fun k hk _ => hk); have K3 := keepO_own hown PF3; have hb3 := (K3 _ _ _ hblk (by decide)).trans hblk; obtain ⟨hcc, -⟩ := blk_cells hb3; have e5 := hcc 5; clear hcc; unfold nodeC at e5)
        go_loopw [1, 32] (fun v1 v32 wr => TkRel w base (.slice AV ts.length cV) ts cols t ks v1 v32 wr) (fun v1 v32 _ => ks.length - iOf v32)
        case atStart =>
          refine ⟨0, rfl, Nat.zero_le _, ?_, PF3, fun k hk hl => ?_⟩
          · have : accT ts cols t ks 0 = ts ++ [putT cols t] := by simp [accT, flats]
            rw [this, List.length_append, List.flatMap_append]
            simp only [List.flatMap_cons, List.flatMap_nil, List.append_nil, HP.out]
            exact own3
          · rcases at3 with at3 | at3
            · rw [at3] at hk; exact hk
            · rw [at3] at hk; injection hk with hk; simp at hk; omega
        case round =>
          obtain ⟨i, rfl, hi, hown1, hpf, hoc⟩ := hrel
          have K1 := keepO_own hown hpf
          have hzz := hpf.size
          have hal := accT_len (ts := ts) (cols := cols) (t := t) (ks := ks) (i := i)
          clear own3 g3 at3 PF3 K3 hb3
          by_cases hlt : i < ks.length
          · obtain ⟨k, b, hki, hli, TK⟩ := kids_at ks l i hk hlt
            obtain ⟨-, g, hAU, hcb, hg⟩ := (hsl.keep ⟨by decide, by decide⟩ (fun _ h _ => h) K1.b).at1 hli
            have TK2 := TreeAt.keep ⟨by decide, by decide⟩ (fun _ h _ => h) K1.b k b TK
            have hm := flats_take hki
            have hln := congrArg List.length hm
            have hlt2 := flats_takes ks (i + 1)
            rw [List.length_append] at hln
            have hdk : k.depth ≤ f := by
              have h1 : k ∈ ks := List.mem_of_getElem? hki
              have h2 := deepest_mem h1
              simp only [X.depth] at hd
              omega
            have hmem : ∀ t' ∈ k.flat, t' ∈ t :: flats ks := fun t' ht' => List.mem_cons_of_mem _ (mem_flats (List.mem_of_getElem? hki) ht')
            have ihk := ih k b B wr _ (accT ts cols t ks i) hdk TK2 hown1 ((hcol.keep fun q hq => World.cell?_of_block (hpf.block _ (by omega) fun e0 => by have := (hown.lt _ e0).1; omega)).more (Nat.le_refl _)) (by omega) (fun t' ht' h2' => HR.out t' (hmem t' ht') h2') (by rw [hal]; simp only [List.length_cons] at hlen; omega)
            unfold TmPost ptrV at ihk
            have h1 : (i : Int) < (l.length : Int) := by omega
            have h0 : (0 : Int) ≤ (i : Int) := by omega
            have hiw : IntKind.i64.wrap ((i : Int) + 1) = (i : Int) + 1 := IntWalk.i64_in _ (by unfold maxLen at hUl; omega)
            have HS := Lib.hid (accT_succ (ts := ts) (cols := cols) (t := t) hki)
            injection hAU with hAU
            injection hAU with hAU _
            subst hAU
            clear hki hli TK TK2 hm hln hlt2 hdk hmem hal
            go_wp2_with (refine ihk.mono ?_; rintro e w5 ⟨v5, rfl, own5, F5, O5⟩)
            go_roundw
            case rel =>
              refine ⟨i + 1, by go_num, by omega, ?_, hpf.trans F5 (fun k' hk' hs => hoc k' hs hk'), fun k' hk' hl' => hoc k' (O5 k' hk' (by omega)) hl'⟩
              rw [HS.out, List.length_append]
              exact own5
            case measure => simp [iOf]; omega
          · obtain rfl : i = ks.length := by omega
            have h1 : ¬ (ks.length : Int) < (l.length : Int) := by omega
            clear hcol
            rw [hal, List.take_length] at hown1
            obtain ⟨A1, c1', rfl, -, -⟩ := own_slice hown1
            have hfin : wr.ownsRow base 31 5 (.slice A1 (ts.length + (1 + (flats ks).length)) c1') (ts.length + (putT cols t :: (flats ks).map (putT cols)).length) ((ts ++ putT cols t :: (flats ks).map (putT cols)).flatMap T.cells) := by
              have h3 : accT ts cols t ks ks.length = ts ++ putT cols t :: (flats ks).map (putT cols) := by simp [accT]
              have h4 : ts.length + (putT cols t :: (flats ks).map (putT cols)).length = ts.length + (1 + (flats ks).length) := by simp; omega
              rw [← h3, h4]
              exact hown1
            clear hal
            go_wp2_with fail
            go_ret
            unfold TmPost
            refine ⟨.slice A1 (ts.length + (1 + (flats ks).length)) c1', rfl, ?_, hpf, hoc⟩
            first | exact hfin | (rw [List.map_cons]; exact hfin)
      · have t2 : (t.op == 2) = false := by simpa using h2
        have HP := Lib.hid (show putT cols t = t by unfold putT; rw [if_neg h2])
        clear h2 hr
        go_enter Tryz.func29, Tryz.ntmps29
        go_wp2_with (at_builtin; refine wpList_app (v := .slice AV ts.length cV) rfl _ _ stT' rfl rfl ((own_below hown ((Below.refl w.heap.size w).alloc (Nat.le_refl _) _))) rfl (by simp) rfl (by simp [Value.oneCell']) (by omega) (by simp; omega) ?_; intro v3 w3 own3 g3 at3; have PF3 := ((PFr.refl (fun k => (Value.slice AV ts.length cV).ownBlock = some k) w).alloc _).grown g3 (fun k hk _ => hk); have K3 := keepO_own hown PF3; have hb3 := (K3 _ _ _ hblk (by decide)).trans hblk; obtain ⟨hcc, -⟩ := blk_cells hb3; have e5 := hcc 5; clear hcc; unfold nodeC at e5)
        go_loopw [1, 32] (fun v1 v32 wr => TkRel w base (.slice AV ts.length cV) ts cols t ks v1 v32 wr) (fun v1 v32 _ => ks.length - iOf v32)
        case atStart =>
          refine ⟨0, rfl, Nat.zero_le _, ?_, PF3, fun k hk hl => ?_⟩
          · have : accT ts cols t ks 0 = ts ++ [putT cols t] := by simp [accT, flats]
            rw [this, List.length_append, List.flatMap_append]
            simp only [List.flatMap_cons, List.flatMap_nil, List.append_nil, HP.out]
            exact own3
          · rcases at3 with at3 | at3
            · rw [at3] at hk; exact hk
            · rw [at3] at hk; injection hk with hk; simp at hk; omega
        case round =>
          obtain ⟨i, rfl, hi, hown1, hpf, hoc⟩ := hrel
          have K1 := keepO_own hown hpf
          have hzz := hpf.size
          have hal := accT_len (ts := ts) (cols := cols) (t := t) (ks := ks) (i := i)
          clear own3 g3 at3 PF3 K3 hb3
          by_cases hlt : i < ks.length
          · obtain ⟨k, b, hki, hli, TK⟩ := kids_at ks l i hk hlt
            obtain ⟨-, g, hAU, hcb, hg⟩ := (hsl.keep ⟨by decide, by decide⟩ (fun _ h _ => h) K1.b).at1 hli
            have TK2 := TreeAt.keep ⟨by decide, by decide⟩ (fun _ h _ => h) K1.b k b TK
            have hm := flats_take hki
            have hln := congrArg List.length hm
            have hlt2 := flats_takes ks (i + 1)
            rw [List.length_append] at hln
            have hdk : k.depth ≤ f := by
              have h1 : k ∈ ks := List.mem_of_getElem? hki
              have h2 := deepest_mem h1
              simp only [X.depth] at hd
              omega
            have hmem : ∀ t' ∈ k.flat, t' ∈ t :: flats ks := fun t' ht' => List.mem_cons_of_mem _ (mem_flats (List.mem_of_getElem? hki) ht')
            have ihk := ih k b B wr _ (accT ts cols t ks i) hdk TK2 hown1 ((hcol.keep fun q hq => World.cell?_of_block (hpf.block _ (by omega) fun e0 => by have := (hown.lt _ e0).1; omega)).more (Nat.le_refl _)) (by omega) (fun t' ht' h2' => HR.out t' (hmem t' ht') h2') (by rw [hal]; simp only [List.length_cons] at hlen; omega)
            unfold TmPost ptrV at ihk
            have h1 : (i : Int) < (l.length : Int) := by omega
            have h0 : (0 : Int) ≤ (i : Int) := by omega
            have hiw : IntKind.i64.wrap ((i : Int) + 1) = (i : Int) + 1 := IntWalk.i64_in _ (by unfold maxLen at hUl; omega)
            have HS := Lib.hid (accT_succ (ts := ts) (cols := cols) (t := t) hki)
            injection hAU with hAU
            injection hAU with hAU _
            subst hAU
            clear hki hli TK TK2 hm hln hlt2 hdk hmem hal
            go_wp2_with (refine ihk.mono ?_; rintro e w5 ⟨v5, rfl, own5, F5, O5⟩)
            go_roundw
            case rel =>
              refine ⟨i + 1, by go_num, by omega, ?_, hpf.trans F5 (fun k' hk' hs => hoc k' hs hk'), fun k' hk' hl' => hoc k' (O5 k' hk' (by omega)) hl'⟩
              rw [HS.out, List.length_append]
              exact own5
            case measure => simp [iOf]; omega
          · obtain rfl : i = ks.length := by omega
            have h1 : ¬ (ks.length : Int) < (l.length : Int) := by omega
            clear hcol
            rw [hal, List.take_length] at hown1
            obtain ⟨A1, c1', rfl, -, -⟩ := own_slice hown1
            have hfin : wr.ownsRow base 31 5 (.slice A1 (ts.length + (1 + (flats ks).length)) c1') (ts.length + (putT cols t :: (flats ks).map (putT cols)).length) ((ts ++ putT cols t :: (flats ks).map (putT cols)).flatMap T.cells) := by
              have h3 : accT ts cols t ks ks.length = ts ++ putT cols t :: (flats ks).map (putT cols) := by simp [accT]
              have h4 : ts.length + (putT cols t :: (flats ks).map (putT cols)).length = ts.length + (1 + (flats ks).length) := by simp; omega
              rw [← h3, h4]
              exact hown1
            clear hal
            go_wp2_with fail
            go_ret
            unfold TmPost
            refine ⟨.slice A1 (ts.length + (1 + (flats ks).length)) c1', rfl, ?_, hpf, hoc⟩
            first | exact hfin | (rw [List.map_cons]; exact hfin)
    · by_cases h2 : t.op = 2
      · have t2 : (t.op == 2) = true := by simpa using h2
        obtain ⟨hc0, hcm⟩ := hr t (by simp) h2
        obtain ⟨q, hq⟩ := Int.eq_ofNat_of_zero_le hc0
        obtain ⟨b2, off2, z2, rfl, hb2, hz2, hcell⟩ := RowI.at1 hcol (show q < m by omega)
        have HP := Lib.hid (show putT cols t = ⟨t.op, t.v, z2⟩ by
          unfold putT
          rw [if_pos h2, List.getD_eq_getElem?_getD, hq, Int.toNat_natCast, hz2]
          rfl)
        rw [hq] at c4
        have q0 : (0 : Int) ≤ (q : Int) := by omega
        have q1 : (q : Int) < (m : Int) := by omega
        have hb2l : b2 < w.heap.size := by omega
        clear h2 hr hz2 hcm hc0 hq
        go_enter Tryz.func29, Tryz.ntmps29
        go_wp2_with (at_builtin; refine wpList_app (v := .slice AV ts.length cV) rfl _ _ stT' rfl rfl ((own_below hown ((Below.refl w.heap.size w).alloc (Nat.le_refl _) _))) rfl (by simp) rfl (by simp [Value.oneCell']) (by omega) (by simp; omega) ?_; intro v3 w3 own3 g3 at3; have PF3 := ((PFr.refl (fun k => (Value.slice AV ts.length cV).ownBlock = some k) w).alloc _).grown g3 (fun k hk _ => hk); have K3 := keepO_own hown PF3; have hb3 := (K3 _ _ _ hblk (by decide)).trans hblk; obtain ⟨hcc, -⟩ := blk_cells hb3; have e5 := hcc 5; clear hcc; unfold nodeC at e5)
        go_loopw [1, 32] (fun v1 v32 wr => TkRel w base (.slice AV ts.length cV) ts cols t ks v1 v32 wr) (fun v1 v32 _ => ks.length - iOf v32)
        case atStart =>
          refine ⟨0, rfl, Nat.zero_le _, ?_, PF3, fun k hk hl => ?_⟩
          · have : accT ts cols t ks 0 = ts ++ [putT cols t] := by simp [accT, flats]
            rw [this, List.length_append, List.flatMap_append]
            simp only [List.flatMap_cons, List.flatMap_nil, List.append_nil, HP.out]
            exact own3
          · rcases at3 with at3 | at3
            · rw [at3] at hk; exact hk
            · rw [at3] at hk; injection hk with hk; simp at hk; omega
        case round =>
          obtain ⟨i, rfl, hi, hown1, hpf, hoc⟩ := hrel
          have K1 := keepO_own hown hpf
          have hzz := hpf.size
          have hal := accT_len (ts := ts) (cols := cols) (t := t) (ks := ks) (i := i)
          clear own3 g3 at3 PF3 K3 hb3
          by_cases hlt : i < ks.length
          · rw [← hkl, hl0] at hlt; simp at hlt
          · obtain rfl : i = ks.length := by omega
            have h1 : ¬ (ks.length : Int) < (l.length : Int) := by omega
            clear hcol
            rw [hal, List.take_length] at hown1
            obtain ⟨A1, c1', rfl, -, -⟩ := own_slice hown1
            have hfin : wr.ownsRow base 31 5 (.slice A1 (ts.length + (1 + (flats ks).length)) c1') (ts.length + (putT cols t :: (flats ks).map (putT cols)).length) ((ts ++ putT cols t :: (flats ks).map (putT cols)).flatMap T.cells) := by
              have h3 : accT ts cols t ks ks.length = ts ++ putT cols t :: (flats ks).map (putT cols) := by simp [accT]
              have h4 : ts.length + (putT cols t :: (flats ks).map (putT cols)).length = ts.length + (1 + (flats ks).length) := by simp; omega
              rw [← h3, h4]
              exact hown1
            clear hal
            go_wp2_with fail
            go_ret
            unfold TmPost
            refine ⟨.slice A1 (ts.length + (1 + (flats ks).length)) c1', rfl, ?_, hpf, hoc⟩
            first | exact hfin | (rw [List.map_cons]; exact hfin)
      · have t2 : (t.op == 2) = false := by simpa using h2
        have HP := Lib.hid (show putT cols t = t by unfold putT; rw [if_neg h2])
        clear h2 hr
        go_enter Tryz.func29, Tryz.ntmps29
        go_wp2_with (at_builtin; refine wpList_app (v := .slice AV ts.length cV) rfl _ _ stT' rfl rfl ((own_below hown ((Below.refl w.heap.size w).alloc (Nat.le_refl _) _))) rfl (by simp) rfl (by simp [Value.oneCell']) (by omega) (by simp; omega) ?_; intro v3 w3 own3 g3 at3; have PF3 := ((PFr.refl (fun k => (Value.slice AV ts.length cV).ownBlock = some k) w).alloc _).grown g3 (fun k hk _ => hk); have K3 := keepO_own hown PF3; have hb3 := (K3 _ _ _ hblk (by decide)).trans hblk; obtain ⟨hcc, -⟩ := blk_cells hb3; have e5 := hcc 5; clear hcc; unfold nodeC at e5)
        go_loopw [1, 32] (fun v1 v32 wr => TkRel w base (.slice AV ts.length cV) ts cols t ks v1 v32 wr) (fun v1 v32 _ => ks.length - iOf v32)
        case atStart =>
          refine ⟨0, rfl, Nat.zero_le _, ?_, PF3, fun k hk hl => ?_⟩
          · have : accT ts cols t ks 0 = ts ++ [putT cols t] := by simp [accT, flats]
            rw [this, List.length_append, List.flatMap_append]
            simp only [List.flatMap_cons, List.flatMap_nil, List.append_nil, HP.out]
            exact own3
          · rcases at3 with at3 | at3
            · rw [at3] at hk; exact hk
            · rw [at3] at hk; injection hk with hk; simp at hk; omega
        case round =>
          obtain ⟨i, rfl, hi, hown1, hpf, hoc⟩ := hrel
          have K1 := keepO_own hown hpf
          have hzz := hpf.size
          have hal := accT_len (ts := ts) (cols := cols) (t := t) (ks := ks) (i := i)
          clear own3 g3 at3 PF3 K3 hb3
          by_cases hlt : i < ks.length
          · rw [← hkl, hl0] at hlt; simp at hlt
          · obtain rfl : i = ks.length := by omega
            have h1 : ¬ (ks.length : Int) < (l.length : Int) := by omega
            clear hcol
            rw [hal, List.take_length] at hown1
            obtain ⟨A1, c1', rfl, -, -⟩ := own_slice hown1
            have hfin : wr.ownsRow base 31 5 (.slice A1 (ts.length + (1 + (flats ks).length)) c1') (ts.length + (putT cols t :: (flats ks).map (putT cols)).length) ((ts ++ putT cols t :: (flats ks).map (putT cols)).flatMap T.cells) := by
              have h3 : accT ts cols t ks ks.length = ts ++ putT cols t :: (flats ks).map (putT cols) := by simp [accT]
              have h4 : ts.length + (putT cols t :: (flats ks).map (putT cols)).length = ts.length + (1 + (flats ks).length) := by simp; omega
              rw [← h3, h4]
              exact hown1
            clear hal
            go_wp2_with fail
            go_ret
            unfold TmPost
            refine ⟨.slice A1 (ts.length + (1 + (flats ks).length)) c1', rfl, ?_, hpf, hoc⟩
            first | exact hfin | (rw [List.map_cons]; exact hfin)
end Go.Proofs.YtgnmnaclndkmdaaGreatDoor
